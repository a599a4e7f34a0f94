/- Gangs within gangs: the gang, in a row: gang.Each of ints: what it comes to. -/
import Derived.Test.YtapjmifhhbpikaaYd
set_option linter.unusedVariables false
set_option linter.unusedSimpArgs false
namespace Go.Proofs.Ytapjmifhhbpikaa
open Go.Conc Go.ConcN Go.ConcM Go.RowKit Go.Conc.Lib Go.ConcR.Gen
open Go.ConcR (KK wgBlock WgAt stA smA rd wr mk)
theorem goes_dc0 {P : Program} {E : Event → Prop} {S : Goroutine → World → Prop} {w0 : World} : ∀ {n : Nat} {g : Goroutine} {w : World}, AtRel w0 w → Goes P true AtRel Go.ConcR.DC0 S n g w → Goes P true AtRel (DE E) (fun g' w' => S g' w' ∧ AtRel w0 w') n g w
  | 0, g, w, h0, h => fun w₁ r => ⟨h w₁ r, ar_rely h0 r⟩
  | n + 1, g, w, h0, h => by
    rcases h with h | ⟨hr, h⟩
    · exact .inl fun w₁ r => ⟨h w₁ r, ar_rely h0 r⟩
    · refine .inr ⟨hr, fun w₁ r => ?_⟩
      have := h w₁ r
      revert this
      cases stepG P true g w₁ <;> simp only [GStep.goes, imp_self]
      rintro ⟨⟨rfl, rfl⟩, x⟩
      exact ⟨fun e he => by simp at he, goes_dc0 (ar_rely h0 r) x⟩
theorem goes_monoE {P : Program} {E E' : Event → Prop} (hE : ∀ e, E e → E' e) {S : Goroutine → World → Prop} : ∀ {n : Nat} {g : Goroutine} {w : World}, Goes P true AtRel (DE E) S n g w → Goes P true AtRel (DE E') S n g w
  | 0, g, w, h => h
  | n + 1, g, w, h => by
    rcases h with h | ⟨hr, h⟩
    · exact .inl h
    · refine .inr ⟨hr, fun w₁ r => ?_⟩
      have := h w₁ r
      revert this
      cases stepG P true g w₁ <;> simp only [GStep.goes, imp_self]
      rintro ⟨d, x⟩
      exact ⟨fun e he => hE e (d e he), goes_monoE hE x⟩
theorem EvP.mono {Shun Fresh : Loc → Prop} {B B' : Nat} (h : B ≤ B') {e : Event} (x : EvP Shun Fresh B e) : EvP Shun Fresh B' e := ⟨x.1, x.2.1, x.2.2.1, x.2.2.2.1, MemAct.low_mono h x.2.2.2.2⟩
theorem at_size {w w' : World} (h : AtRel w w') : w'.heap.size = w.heap.size := by obtain ⟨d, rfl⟩ := h; rfl
section
variable {b₀ : Frame} {a₀ : Act} {ops₀ : Array Oper} {i₀ : Nat} {rest₀ : List Nat} {k₀ : List Item} {cs : List Frame}
theorem job21 {A B : Int} {J N : Nat} {nb s : Nat} {deep : Bool} {Shun : Loc → Prop} {hN1 : 1 ≤ N} {hN : N ≤ 64} {hnb : nb ≤ 1000} {W : World} {Q D F O : Nat} (h1 : 0 < nb) (E : Env (bandI (doV A B) J N nb s deep Shun hN1 hN hnb) W Q D F O 21 (.func (.func 11) #[.agg #[.int .i64 A, .int .i64 B]] #[])) : JobGo (bandI (doV A B) J N nb s deep Shun hN1 hN hnb) W F O 21 body21 :=
  fun Fa _ b₁ a₁ ops₁ i₁ rest₁ k₁ cs₁ j hj k v hT w hF => goes_le (by omega) (each1Go E h1 rfl j hj (fun _ => rfl) k v hT w hF)
/-- ████ gang.Each, OF INTS. ████ -/
theorem eachReach {f : Nat → Int} {J N nb : Nat} {deep : Bool} (hJ : J ≤ 256) (hN1 : 1 ≤ N) (hN : N ≤ 64) (hnb : nb ≤ 1000) {Shun : Loc → Prop} {w : World} (hS : LowS Shun w.heap.size) {fd : Fn} {fs fc : Array Value}
    (hjob : JobGo (bandI f J N nb w.heap.size deep Shun hN1 hN hnb) (W10 w J (.func fd fs fc)) w.heap.size (w.heap.size + 2) 21 body21) {Post : (Loc → Prop) → Goroutine → World → Prop}
    (hk : ∀ S' w', Aft w w' 8 → LowS S' w'.heap.size → (∀ k, ShB S' k → ShB Shun k ∨ k = w.heap.size + 3 ∨ k = w.heap.size + 7 ∨ w.heap.size + 8 ≤ k) → Olds Shun w w' → w'.heap[w.heap.size + 1]? = some (.cells (rowF f J fun _ => true) 3) →
      Reach Try.prog S' (G (b₀.at (a₀.put ((ops₀[i₀]?).bind (·.dst)) (.tuple #[.slice (some ⟨w.heap.size + 1, 0, none⟩) J J, .int .i64 0])) (.inRegion ops₀ rest₀ :: k₀)) cs) w' Post) :
    Reach Try.prog Shun (G ((base 10).at ⟨#[.int .i64 (J : Int), .int .i64 (N : Int), .func fd fs fc, undef, undef, undef, undef, undef, undef, undef, undef, undef, undef, undef, undef, undef, undef, undef, undef, undef], []⟩ [.code body10]) (b₀.at a₀ (.inRegion ops₀ (i₀ :: rest₀) :: k₀) :: cs)) w Post := by
  intro gs sl t q h0 hFr
  have f0 := hFr.mono (Nat.le_add_right _ 8)
  obtain ⟨N1, gs1, a1, w1, sl1, t1, q1, r1, hsz1, h01, ⟨hAR, hGo⟩, f1⟩ := walkF _ _ gs _ w sl t q (Nat.le_refl _) h0 f0 (eachWalk (f := f) (nb := nb) (deep := deep) hJ hN1 hN hnb hS hjob)
  have hw1 : w1.heap.size = w.heap.size + 8 := (at_size hAR).trans (W10_size _ _ _)
  have hsh : SAt (bandI f J N nb w.heap.size deep Shun hN1 hN hnb) ⟨.zero, 0, 0, false, 0⟩ w1 := by obtain ⟨d, rfl⟩ := hAR; exact bandSh
  have hch : HAt (bandI f J N nb w.heap.size deep Shun hN1 hN hnb) false w1 := by obtain ⟨d, rfl⟩ := hAR; exact ⟨0, 0, W10_H⟩
  have hrow : CAt (bandI f J N nb w.heap.size deep Shun hN1 hN hnb) ((bandI f J N nb w.heap.size deep Shun hN1 hN hnb).row fun _ => false) w1 := by obtain ⟨d, rfl⟩ := hAR; exact bandRow
  obtain ⟨N2, gs2, a2, w2, sl2, t2, q2, S2, r2, h02, f2, hFin, hfull, hlow⟩ := gang_phase (K := bandI f J N nb w.heap.size deep Shun hN1 hN hnb) (sl := sl1) h01 f1 (by omega) (by show w.heap.size + 8 ≤ _; omega) rfl (fun l b hl hs => by
    obtain ⟨b', hb', hlt⟩ := hS l hs
    rw [hl] at hb'; cases hb'
    show b ≠ w.heap.size + 3 ∧ b ≠ w.heap.size + 7 ∧ b ≠ w.heap.size + 5 ∧ b ≠ w.heap.size + 1
    omega) (fun k hk l hl hs => hk ⟨l, hl, hs⟩) hsh hch hrow hGo
  have hS2 : ∀ k, ShB S2 k → ShB Shun k ∨ k = w.heap.size + 3 ∨ k = w.heap.size + 7 ∨ w.heap.size + 8 ≤ k := by
    rintro k ⟨l, hl, hs⟩
    obtain ⟨b, hb, _, hc⟩ := hlow l hs
    rw [hl] at hb; cases hb
    rcases hc with h | h | h | h
    · exact .inr (.inr (.inr (by omega)))
    · exact .inr (.inl h)
    · exact .inr (.inr (.inl h))
    · exact .inl h
  obtain ⟨m3, hm3⟩ := hFin
  obtain ⟨N3, gs3, a3, w3, sl3, t3, q3, r3, _, h03, ⟨⟨hKn, hC, m4, hm4⟩, hA3⟩, f3⟩ := walkF _ _ gs2 _ w2 sl2 t2 q2 (Nat.le_refl _) h02 f2 (goes_dc0 (atRel_refl w2) hm3)
  have hs3 : w3.heap.size = w2.heap.size := at_size hA3
  have hB3 : w.heap.size + 8 ≤ w3.heap.size := hKn.B
  obtain ⟨N4, gs4, a4, w4, sl4, t4, q4, r4, _, h04, ⟨rfl, hA4⟩, f4⟩ := walkF _ _ gs3 _ w3 sl3 t3 q3 (Nat.le_refl _) h03 f3 (goes_monoE (fun e he => EvP.mono (by omega) he) (hm4 S2 fun h => by
    rcases hS2 _ h with h | h | h | h
    · exact hS.notB (by omega) h
    · omega
    · omega
    · omega))
  have hs4 : w4.heap.size = w3.heap.size := at_size hA4
  obtain ⟨hK4, hC4⟩ := kff_atRel ⟨hKn, hC⟩ hA4
  have hold : ∀ k, k < w.heap.size → ¬ ShB Shun k → w4.heap[k]? = w.heap[k]? := fun k hk hn => (hK4.still k ⟨by show k < w.heap.size + 8; omega, by show k ≠ w.heap.size + 3; omega, by show k ≠ w.heap.size + 7; omega, by show k ≠ w.heap.size + 5; omega, by show k ≠ w.heap.size + 1; omega, hn⟩).trans (W10_old hk)
  obtain ⟨N5, gs5, a5, w5, sl5, t5, q5, S5, r5, h05, f5, hp5⟩ := hk S2 w4
    ⟨by omega, hK4.tape, hK4.output, hK4.os⟩
    (fun l hl => by
      obtain ⟨b, hb, hlt, _⟩ := hlow l hl
      exact ⟨b, hb, by omega⟩) hS2 hold hC4 gs4 sl4 t4 q4 h04 (by
      have e : w2.heap.size = w4.heap.size := by omega
      rw [← e]; exact f4)
  exact ⟨N1 + N2 + N3 + N4 + N5, gs5, a5, w5, sl5, t5, q5, S5, runNT_trans' (runNT_trans' (runNT_trans' (runNT_trans' r1 r2) r3) r4) r5, h05, f5, hp5⟩
end
end Go.Proofs.Ytapjmifhhbpikaa

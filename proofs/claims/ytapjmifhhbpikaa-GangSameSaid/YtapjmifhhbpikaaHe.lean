/- The gang, in a row: gang.Each of ints: what it comes to. -/
import Derived.Test.YtapjmifhhbpikaaHd
set_option linter.unusedVariables false
set_option linter.unusedSimpArgs false
namespace Go.Proofs.Ytapjmifhhbpikaa
open Go.Conc Go.ConcN Go.ConcM Go.RowKit Go.Conc.Lib Go.ConcR.Gen
open Go.ConcR (KK wgBlock WgAt stA smA rd wr mk)
theorem goes_dc0 {P : Program} {E : Event → Prop} {S : Goroutine → World → Prop} {w0 : World} : ∀ {n : Nat} {g : Goroutine} {w : World}, AtRel w0 w → Goes P true AtRel Go.ConcR.DC0 S n g w → Goes P true AtRel (DE E) (fun g' w' => S g' w' ∧ AtRel w0 w') n g w
  | 0, g, w, h0, h => fun w₁ r => ⟨h w₁ r, ar_rely h0 r⟩
  | n + 1, g, w, h0, h => by
    rcases h with h | ⟨hr, h⟩
    · exact .inl fun w₁ r => ⟨h w₁ r, ar_rely h0 r⟩
    · refine .inr ⟨hr, fun w₁ r => ?_⟩
      have := h w₁ r
      revert this
      cases stepG P true g w₁ <;> simp only [GStep.goes, imp_self]
      rintro ⟨⟨rfl, rfl⟩, x⟩
      exact ⟨fun e he => by simp at he, goes_dc0 (ar_rely h0 r) x⟩
theorem goes_monoE {P : Program} {E E' : Event → Prop} (hE : ∀ e, E e → E' e) {S : Goroutine → World → Prop} : ∀ {n : Nat} {g : Goroutine} {w : World}, Goes P true AtRel (DE E) S n g w → Goes P true AtRel (DE E') S n g w
  | 0, g, w, h => h
  | n + 1, g, w, h => by
    rcases h with h | ⟨hr, h⟩
    · exact .inl h
    · refine .inr ⟨hr, fun w₁ r => ?_⟩
      have := h w₁ r
      revert this
      cases stepG P true g w₁ <;> simp only [GStep.goes, imp_self]
      rintro ⟨d, x⟩
      exact ⟨fun e he => hE e (d e he), goes_monoE hE x⟩
theorem EvP.mono {Shun Fresh : Loc → Prop} {B B' : Nat} (h : B ≤ B') {e : Event} (x : EvP Shun Fresh B e) : EvP Shun Fresh B' e := ⟨x.1, x.2.1, x.2.2.1, x.2.2.2.1, MemAct.low_mono h x.2.2.2.2⟩
theorem at_size {w w' : World} (h : AtRel w w') : w'.heap.size = w.heap.size := by obtain ⟨d, rfl⟩ := h; rfl
section
variable {b₀ : Frame} {a₀ : Act} {ops₀ : Array Oper} {i₀ : Nat} {rest₀ : List Nat} {k₀ : List Item} {cs : List Frame}
/-- ████ gang.Each, OF INTS. ████ -/
theorem eachReach {A B : Int} {J N : Nat} (hJ : J ≤ 256) (hN1 : 1 ≤ N) (hN : N ≤ 64) {Shun : Loc → Prop} {w : World} (hS : LowS Shun w.heap.size) {Post : (Loc → Prop) → Goroutine → World → Prop}
    (hk : ∀ S' w', Aft w w' 8 → LowS S' w'.heap.size → (∀ l, S' l → Shun l ∨ ∃ ad, l = .cell ad ∧ (ad.block = w.heap.size + 3 ∨ ad.block = w.heap.size + 7)) → w'.heap[w.heap.size + 1]? = some (.cells (rowI A B J fun _ => true) 3) →
      Reach Try.prog S' (G (b₀.at (a₀.put ((ops₀[i₀]?).bind (·.dst)) (.tuple #[.slice (some ⟨w.heap.size + 1, 0, none⟩) J J, .int .i64 0])) (.inRegion ops₀ rest₀ :: k₀)) cs) w' Post) :
    Reach Try.prog Shun (G ((base 10).at ⟨#[.int .i64 (J : Int), .int .i64 (N : Int), .func (.func 11) #[.agg #[.int .i64 A, .int .i64 B]] #[], undef, undef, undef, undef, undef, undef, undef, undef, undef, undef, undef, undef, undef, undef, undef, undef, undef], []⟩ [.code body10]) (b₀.at a₀ (.inRegion ops₀ (i₀ :: rest₀) :: k₀) :: cs)) w Post := by
  intro gs sl t q h0 hFr
  have hpos : 0 < gs.size := (Array.getElem?_eq_some_iff.1 h0).1
  have f0 := (hFr.freshen (Fresh' := fun l => ∃ ad, l = .cell ad ∧ (ad.block = w.heap.size + 3 ∨ ad.block = w.heap.size + 7 ∨ ad.block = w.heap.size + 1)) (fun l ⟨ad, e, hb⟩ => ⟨ad, e, by omega⟩)).mono (Nat.le_add_right _ 8)
  obtain ⟨N1, gs1, a1, w1, sl1, t1, q1, r1, hsz1, h01, ⟨hAR, hGo⟩, f1⟩ := walkF _ _ gs _ w sl t q (Nat.le_refl _) h0 f0 (eachWalk (A := A) (B := B) (base' := gs.size - 1) hJ hN1 hN hS)
  have hw1 : w1.heap.size = w.heap.size + 8 := (at_size hAR).trans (W10_size _ _ _)
  have hsh : SAt (bandI A B J N w.heap.size (gs.size - 1) Shun hN1 hN hS) ⟨.zero, 0, 0, false, 0⟩ w1 := by obtain ⟨d, rfl⟩ := hAR; exact bandSh
  have hch : HAt (bandI A B J N w.heap.size (gs.size - 1) Shun hN1 hN hS) false w1 := by obtain ⟨d, rfl⟩ := hAR; exact ⟨0, 0, W10_H⟩
  have hrow : CAt (bandI A B J N w.heap.size (gs.size - 1) Shun hN1 hN hS) ((bandI A B J N w.heap.size (gs.size - 1) Shun hN1 hN hS).row fun _ => false) w1 := by obtain ⟨d, rfl⟩ := hAR; exact bandRow
  obtain ⟨N2, gs2, a2, w2, sl2, t2, q2, r2, h02, f2, hFin, hfull⟩ := gang_phase (K := bandI A B J N w.heap.size (gs.size - 1) Shun hN1 hN hS) (sl := sl1) h01 f1 (by omega) (by show w.heap.size + 8 ≤ _; omega) (by show gs1.size = gs.size - 1 + 1; omega) (fun l => Iff.rfl) hsh hch hrow hGo
  obtain ⟨m3, hm3⟩ := hFin
  obtain ⟨N3, gs3, a3, w3, sl3, t3, q3, r3, _, h03, ⟨⟨hKn, hC, m4, hm4⟩, hA3⟩, f3⟩ := walkF _ _ gs2 _ w2 sl2 t2 q2 (Nat.le_refl _) h02 f2 (goes_dc0 (atRel_refl w2) hm3)
  have hs3 : w3.heap.size = w2.heap.size := at_size hA3
  have hB3 : w.heap.size + 8 ≤ w3.heap.size := hKn.B
  obtain ⟨N4, gs4, a4, w4, sl4, t4, q4, r4, _, h04, ⟨rfl, hA4⟩, f4⟩ := walkF _ _ gs3 _ w3 sl3 t3 q3 (Nat.le_refl _) h03 f3 (goes_monoE (fun e he => EvP.mono (by omega) he) hm4)
  have hs4 : w4.heap.size = w3.heap.size := at_size hA4
  have hK4 := hKn.atRel hA4
  have hC4 := (kf_atRel ⟨hKn, hC⟩ hA4).2
  obtain ⟨N5, gs5, a5, w5, sl5, t5, q5, S5, r5, h05, f5, hp5⟩ := hk (ShunI Shun w.heap.size) w4
    ⟨by omega, hK4.tape, hK4.output, hK4.os, fun k hk => (hK4.still k ⟨by show k < w.heap.size + 8; omega, by show k ≠ w.heap.size + 3; omega, by show k ≠ w.heap.size + 7; omega, by show k ≠ w.heap.size + 5; omega, by show k ≠ w.heap.size + 1; omega⟩).trans (W10_old hk)⟩
    (fun l hl => by
      rcases hl with h | ⟨ad, e, hb⟩
      · obtain ⟨ad, e, hb⟩ := hS l h
        exact ⟨ad, e, by omega⟩
      · exact ⟨ad, e, by omega⟩) (fun l hl => hl) hC4 gs4 sl4 t4 q4 h04 (by
      have e : w2.heap.size = w4.heap.size := by omega
      rw [← e]; exact f4)
  exact ⟨N1 + N2 + N3 + N4 + N5, gs5, a5, w5, sl5, t5, q5, S5, runNT_trans' (runNT_trans' (runNT_trans' (runNT_trans' r1 r2) r3) r4) r5, h05, f5, hp5⟩
end
end Go.Proofs.Ytapjmifhhbpikaa

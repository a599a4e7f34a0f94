/- Gangs within gangs: a worker begins a gang. -/
import Derived.Test.YtapjmifhhbpikaaYd
import Derived.Test.YtapjmifhhbpikaaZk
set_option linter.unusedVariables false
set_option linter.unusedSimpArgs false
namespace Go.Proofs.Ytapjmifhhbpikaa
open Go.Conc Go.ConcN Go.ConcM Go.RowKit Go.Conc.Lib Go.ConcR.Gen
open Go.ConcR (KK wgBlock WgAt stA smA rd wr mk)
theorem RB.less {K : Band} {mine : List Nat} {w w' : World} (h : RB K false mine w w') : RB K false [] w w' := ⟨h.tape, h.output, h.size, h.os, h.still, fun _ hk => (by cases hk), h.live, h.keep⟩
/-- Silent steps of a worker's, through which he knows what he has suffered since wx. -/
theorem goes_rb {P : Program} {K : Band} {mine : List Nat} {wx : World} {S : Goroutine → World → Prop} : ∀ {n : Nat} {g : Goroutine} {w : World}, RB K false [] wx w → Goes P false (RB K false mine) Go.ConcR.DC0 (fun g w => RB K false [] wx w → S g w) n g w → Goes P false (RB K false mine) Go.ConcR.DC0 S n g w
  | 0, g, w, h0, h => fun w₁ r => h w₁ r (h0.trans r.less)
  | n + 1, g, w, h0, h => by
    rcases h with h | ⟨hr, h⟩
    · exact .inl fun w₁ r => h w₁ r (h0.trans r.less)
    · refine .inr ⟨hr, fun w₁ r => ?_⟩
      have := h w₁ r
      revert this
      cases stepG P false g w₁ <;> simp only [GStep.goes, imp_self]
      rintro ⟨⟨rfl, rfl⟩, x⟩
      exact ⟨⟨rfl, rfl⟩, goes_rb (h0.trans r.less) x⟩
section
variable {K : Band} {W wx : World} {A B : Int} {M N : Nat} {F1 C1 O1 Mu1 D1 Ch1 Q1 Wg1 : Nat} {b₁ : Frame} {a₁ : Act} {ops₁ : Array Oper} {i₁ : Nat} {rest₁ : List Nat} {k₁ : List Item} {cs₁ : List Frame}
/-- What a worker has made ahead of a gang of his own. -/
def made8 (A B : Int) (M F1 C1 O1 Mu1 D1 Ch1 Q1 Wg1 : Nat) : List (Nat × Obj) :=
  [(Wg1, wgBlock 60 0 0), (Q1, .cells #[.chan (some Ch1)] 53), (Ch1, .chan 0 #[] false 0 0 false), (D1, .cells #[.func (.func 21) #[] #[.pointer (some ⟨F1, 0, none⟩), .pointer (some ⟨Mu1, 0, none⟩), .pointer (some ⟨O1, 0, none⟩)]] 52), (Mu1, muBlock 50 0 0), (O1, .cells #[.slice (some ⟨C1, 0, none⟩) M M] 33), (C1, .cells (Array.replicate M (.int .i64 0)) 3), (F1, .cells #[.func (.func 11) #[.agg #[.int .i64 A, .int .i64 B]] #[]] 36)]
theorem beginGo {T : Th} {Nx : Th → Array Value → Goroutine → World → Prop} {v : Array Value} {m0 : Nat} {s2 s3 s4 s8 s9 s12 s13 s14 s15 s16 s17 s18 s19 s20 s21 s22 s23 s24 : Value} (hM : M ≤ 256) (hN1 : 1 ≤ N) (hN : N ≤ 64) (hit : 0 < T.it) (hnd : [Wg1, Q1, Ch1, D1, Mu1, O1, C1, F1].Nodup) (hblk : T.blk = [Wg1, Q1, Ch1, D1, Mu1, O1, C1, F1])
    (hKO : KO K W (made8 A B M F1 C1 O1 Mu1 D1 Ch1 Q1 Wg1) wx)
    (hend : ∀ w, KO K W [(O1, .cells #[.slice (some ⟨C1, 0, none⟩) M M] 33), (C1, .cells (rowF (doV A B) M fun _ => true) 3)] w → GoW Try.prog K { pc := .ld, job := T.job, blk := [Q1, D1, O1, C1, F1] } (Nx { pc := .ld, job := T.job, blk := [Q1, D1, O1, C1, F1] } v) m0 (G (b₁.at (a₁.put ((ops₁[i₁]?).bind (·.dst)) (.tuple #[])) (.inRegion ops₁ rest₁ :: k₁)) cs₁) w) :
    Begin Try.prog K Nx T v (G ((base 17).at ⟨#[.int .i64 (M : Int), .int .i64 (N : Int), s2, s3, s4, .pointer (some ⟨D1, 0, none⟩), .pointer (some ⟨Q1, 0, none⟩), .pointer (some ⟨Wg1, 0, none⟩), s8, s9, .int .i64 (N : Int), .int .i64 0, s12, s13, s14, s15, s16, s17, s18, s19, s20, s21, s22, s23, s24], []⟩ [.code L1, .inLoop L1, .inBlock 0, .code REST1]) (b₁.at a₁ (.inRegion ops₁ (i₁ :: rest₁) :: k₁) :: cs₁)) wx := by
  have own := hKO.own
  unfold made8 at own hKO
  simp only [List.mem_cons, List.not_mem_nil, or_false, forall_eq_or_imp, forall_eq] at own
  obtain ⟨⟨oW, _⟩, ⟨oQ, _⟩, ⟨oH, _⟩, ⟨oD, _⟩, ⟨oM, _⟩, ⟨oO, bO⟩, ⟨oC, bC⟩, ⟨oF, _⟩⟩ := own
  have lt : ∀ {k : Nat} {o : Obj}, wx.heap[k]? = some o → k < wx.heap.size := fun h => (Array.getElem?_eq_some_iff.1 h).1
  simp only [List.nodup_cons, List.mem_cons, List.not_mem_nil, or_false, not_or, not_false_eq_true, List.nodup_nil, and_true] at hnd
  obtain ⟨⟨w1, w2, w3, w4, w5, w6, w7⟩, ⟨q1, q2, q3, q4, q5, q6⟩, ⟨h1, h2, h3, h4, h5⟩, ⟨d1, d2, d3, d4⟩, ⟨u1, u2, u3⟩, ⟨o1, o2⟩, c1⟩ := hnd
  obtain ⟨K1, hK1⟩ : ∃ K1 : Band, K1 = bandF (doV A B) M N 1 Mu1 Wg1 Ch1 C1 wx.heap.size false false (fun k => k = F1 ∨ k = D1 ∨ k = Q1 ∨ k = O1) hN1 hN (by omega) ⟨Ne.symm w4, u2, w6, Ne.symm h2, w2, Ne.symm h4⟩ ⟨lt oM, lt oW, lt oH, lt oC⟩ := ⟨_, rfl⟩
  have eJ : K1.J = M := by rw [hK1]; rfl
  have eN : K1.N = N := by rw [hK1]; rfl
  have eMu : K1.Mu = Mu1 := by rw [hK1]; rfl
  have eWg : K1.Wg = Wg1 := by rw [hK1]; rfl
  have eCh : K1.Ch = Ch1 := by rw [hK1]; rfl
  have eC : K1.C = C1 := by rw [hK1]; rfl
  have eB : K1.B0 = wx.heap.size := by rw [hK1]; rfl
  have eSt : ∀ k, K1.St k ↔ (k = F1 ∨ k = D1 ∨ k = Q1 ∨ k = O1) := by rw [hK1]; exact fun k => .rfl
  have still : ∀ {k : Nat}, k < wx.heap.size → (k ≠ Mu1 ∧ k ≠ Wg1 ∧ k ≠ Ch1 ∧ k ≠ C1) → (k = F1 ∨ k = D1 ∨ k = Q1 ∨ k = O1) → Still K1 k := fun a b c => ⟨by rw [eB]; exact a, by rw [eMu]; exact b.1, by rw [eWg]; exact b.2.1, by rw [eCh]; exact b.2.2.1, by rw [eC]; exact b.2.2.2, (eSt _).2 c⟩
  have sQ : Still K1 Q1 := still (lt oQ) ⟨q3, Ne.symm w1, q1, q5⟩ (.inr (.inr (.inl rfl)))
  have sD : Still K1 D1 := still (lt oD) ⟨d1, Ne.symm w3, Ne.symm h1, d3⟩ (.inr (.inl rfl))
  have sF : Still K1 F1 := still (lt oF) ⟨Ne.symm u3, Ne.symm w7, Ne.symm h5, Ne.symm c1⟩ (.inl rfl)
  have sO : Still K1 O1 := still (lt oO) ⟨Ne.symm u1, Ne.symm w5, Ne.symm h3, o1⟩ (.inr (.inr (.inr rfl)))
  have stillIn : ∀ k, Still K1 k → k ∈ [Q1, D1, O1, C1, F1] := fun k hk => by
    rcases (eSt k).1 hk.2.2.2.2.2 with e | e | e | e <;> simp [e]
  have nS : ∀ {k : Nat}, Still K1 k → ¬ K1.Shun (.cell ⟨k, 0, none⟩) := fun hk => Band.nS _ hk.2.1 hk.2.2.1
  have E : Env K1 wx Q1 D1 F1 O1 21 (.func (.func 11) #[.agg #[.int .i64 A, .int .i64 B]] #[]) := by
    refine ⟨sQ, sD, sF, sO, nS sQ, nS sD, nS sF, nS sO, ?_, ?_, ?_, ?_, by rw [hK1]; rfl⟩
    · rw [eCh]; simp [World.cell?, oQ]
    · rw [eMu]; simp [World.cell?, oD]
    · simp [World.cell?, oF]
    · rw [eC, eJ]; simp [World.cell?, oO]
  have hSA : SAt K1 ⟨.zero, 0, 0, false, 0⟩ wx := ⟨by rw [hK1]; exact oM, by rw [hK1]; show wx.heap[Wg1]? = _; rw [oW]; simp [bandF]⟩
  have hCA : CAt K1 (K1.row fun _ => false) wx := by
    rw [hK1]
    show wx.heap[C1]? = some (.cells (rowF (doV A B) M fun _ => false) 3)
    rw [oC]
    congr 2
    apply Array.ext
    · simp [rowF]
    · intro i h1 h2; simp [rowF]
  have hHA : HAt K1 false wx := ⟨0, 0, by rw [eCh]; exact oH⟩
  have hKn : Kn K1 wx wx := ⟨⟨⟨_, hSA⟩, ⟨false, hHA⟩, ⟨_, hCA, K1.hrow _⟩⟩, fun _ _ => rfl, by rw [eB]; exact Nat.le_refl _, rfl, rfl, .refl _⟩
  have hjob : JobGo K1 wx F1 O1 21 body21 := fun Fa _ b₁ a₁ ops₁ i₁ rest₁ k₁ cs₁ j hj k v hT w hF =>
    goes_le (by omega) (each1Go E (by rw [hK1]; exact Nat.one_pos) (by rw [hK1]; rfl) j hj (fun _ => by rw [hK1]; rfl) k v hT w hF)
  refine ⟨K1, .ld, 0, [Q1, D1, O1, C1, F1], by rw [hK1]; rfl, by rw [hK1]; rfl, hit, .inr rfl, ?_, ?_, ?_, by rw [eB]; exact Nat.le_refl _, hSA, hHA, hCA, rfl, rfl, fun k => ?_⟩
  · rw [eMu, eWg, eCh, eC, hblk]; simp
  · rw [eMu, eWg, hblk]
    intro b hb
    simp only [List.mem_cons, List.not_mem_nil, or_false] at hb
    rcases hb with rfl | rfl | rfl | rfl | rfl
    · exact ⟨by simp, q3, Ne.symm w1⟩
    · exact ⟨by simp, d1, Ne.symm w3⟩
    · exact ⟨by simp, Ne.symm u1, Ne.symm w5⟩
    · exact ⟨by simp, Ne.symm u2, Ne.symm w6⟩
    · exact ⟨by simp, Ne.symm u3, Ne.symm w7⟩
  · intro k hk
    rw [hblk]
    have := stillIn k hk
    simp only [List.mem_cons, List.not_mem_nil, or_false] at this ⊢
    rcases this with e | e | e | e | e <;> simp [e]
  · have hR : ∀ {w w₁ : World}, KnF K1 wx w ∧ CAt K1 (full K1) w → RB K false [Q1, D1, O1, C1, F1] w w₁ → KnF K1 wx w₁ ∧ CAt K1 (full K1) w₁ := fun {w w₁} h r => by
      obtain ⟨k1, k2⟩ := h
      refine ⟨⟨fun k hk => (r.mine k (stillIn k hk)).trans (k1.still k hk), Nat.le_trans k1.B r.size, r.tape.trans k1.tape, r.output.trans k1.output, k1.os.trans r.os⟩, ?_⟩
      unfold CAt at k2 ⊢
      rw [eC] at k2 ⊢
      exact (r.mine C1 (by simp)).trans k2
    have hE : ∃ m, ∀ w, KnF K1 wx w → CAt K1 (full K1) w → Goes Try.prog K1.mn (RB K false [Q1, D1, O1, C1, F1]) Go.ConcR.DC0 (fun g w => RB K false [] wx w → GoW Try.prog K { pc := .ld, job := T.job, blk := [Q1, D1, O1, C1, F1] } (Nx { pc := .ld, job := T.job, blk := [Q1, D1, O1, C1, F1] } v) m0 g w) m (G (b₁.at (a₁.put ((ops₁[i₁]?).bind (·.dst)) (.tuple #[])) (.inRegion ops₁ rest₁ :: k₁)) cs₁) w := by
      refine ⟨0, fun w k1 k2 => Goes.stop fun w₂ r => fun rb => hend w₂ ⟨hKO.kn.rely rb, fun x hx => ?_⟩⟩
      simp only [List.mem_cons, List.not_mem_nil, or_false] at hx
      rcases hx with rfl | rfl
      · exact ⟨((r.mine O1 (by simp)).trans (k1.still O1 sO)).trans oO, bO⟩
      · refine ⟨(r.mine C1 (by simp)).trans ?_, bC⟩
        unfold CAt at k2
        rw [eC] at k2
        rw [k2]
        unfold full
        rw [hK1]
        rfl
    obtain ⟨m, hm⟩ := startUse (K := K1) (W := wx) (w := wx) (b₁ := b₁) (a₁ := a₁) (ops₁ := ops₁) (i₁ := i₁) (rest₁ := rest₁) (k₁ := k₁) (cs₁ := cs₁) (s2 := s2) (s3 := s3) (s4 := s4) (s8 := s8) (s9 := s9) (s12 := s12) (s13 := s13) (s14 := s14) (s15 := s15) (s16 := s16) (s17 := s17) (s18 := s18) (s19 := s19) (s20 := s20) (s21 := s21) (s22 := s22) (s23 := s23) (s24 := s24)
      E (by rw [eJ]; omega) Try.func21 nm21 fb21 nt21 hjob hKn hR hE k
    rw [eJ, eN, eWg] at hm
    rw [atS_flat (by rw [hK1]; rfl), show K1.mn = false by rw [hK1]; rfl] at hm
    refine ⟨m, goes_mono_stop (fun g w => AtSf.mono fun g' w' hf rb => ?_) hm⟩
    obtain ⟨n, hn⟩ := hf
    unfold AfterW
    rw [if_neg (by simp)]
    exact ⟨n + m0, goW0 (goes_rb rb hn)⟩
end
end Go.Proofs.Ytapjmifhhbpikaa

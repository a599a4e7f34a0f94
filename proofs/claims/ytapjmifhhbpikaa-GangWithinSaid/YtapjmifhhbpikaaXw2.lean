/- Gangs within gangs: The gang: what Each hands to run: the closure, by a worker (ints). -/
import Derived.Test.YtapjmifhhbpikaaXw1
import Derived.Test.YtapjmifhhbpikaaXl6
import Derived.Test.YtapjmifhhbpikaaXu2
set_option linter.unusedVariables false
set_option linter.unusedSimpArgs false
namespace Go.Proofs.Ytapjmifhhbpikaa
open Go.Conc Go.ConcN Go.ConcM Go.RowKit Go.Conc.Lib Go.ConcR.Gen
open Go.ConcR (KK wgBlock WgAt stA smA rd wr mk)
/-- WHAT THE WORKERS READ: Q the channel's variable, D what is done, F what Each was handed, O the slice. -/
structure Env (K : Band) (W : World) (Q D F O : Nat) (fc : FuncId) (jf : Value) : Prop where
  sQ : Still K Q
  sD : Still K D
  sF : Still K F
  sO : Still K O
  nQ : ¬ K.Shun (.cell ⟨Q, 0, none⟩)
  nD : ¬ K.Shun (.cell ⟨D, 0, none⟩)
  nF : ¬ K.Shun (.cell ⟨F, 0, none⟩)
  nO : ¬ K.Shun (.cell ⟨O, 0, none⟩)
  cQ : W.cell? ⟨Q, 0, none⟩ = some (.chan (some K.Ch))
  cD : W.cell? ⟨D, 0, none⟩ = some (.func (.func fc) #[] #[.pointer (some ⟨F, 0, none⟩), .pointer (some ⟨K.Mu, 0, none⟩), .pointer (some ⟨O, 0, none⟩)])
  cF : W.cell? ⟨F, 0, none⟩ = some jf
  cO : W.cell? ⟨O, 0, none⟩ = some (.slice (some ⟨K.C, 0, none⟩) K.J K.J)
  z : K.z = .int .i64 0
theorem CAt.set {K : Band} {cs : Array Value} {w : World} (h : CAt K cs w) (j : Nat) (v : Value) : CAt K (cs.setIfInBounds j v) (w.setCell ⟨K.C, j, none⟩ v) := by
  unfold CAt at h ⊢
  rw [setCell_eq_setRow w K.C j _ K.ety (0, 0) _ h, setRow_heap w K.C _ _ K.ety _ h]
theorem CAt.cell {K : Band} {cs : Array Value} {w : World} (h : CAt K cs w) {j : Nat} (hj : j < cs.size) : w.cell? ⟨K.C, j, none⟩ = some cs[j] := by
  unfold CAt at h
  simp [World.cell?, h, hj]
theorem CAt.thaw {K : Band} {cs : Array Value} {w : World} (h : CAt K cs w) (j : Nat) : w.frozen? ⟨K.C, j, none⟩ = false := by
  unfold CAt at h
  simp [World.frozen?, h]
theorem db_row {K : Band} {cs : Array Value} {w : World} {mine : List Nat} (h : CAt K cs w) (hs : cs.size = K.sz) (hC : K.C < w.heap.size) (j : Nat) (v : Value) : DB K false mine true false w (w.setCell ⟨K.C, j, none⟩ v) #[⟨.cell ⟨K.C, j, none⟩, true, false⟩] := by
  have A := aside_setCell w ⟨K.C, j, none⟩ v
  refine ⟨A.tape, A.output, A.os, A.size, fun k _ hk => A.block k (hk rfl), fun _ _ => ⟨_, h.set j v, by simp [hs]⟩, fun e he => ?_, fun h => by cases h⟩
  simp at he; subst he
  exact ev_plain hC (.inr (.inr ⟨rfl, rfl⟩))
theorem Kn.row {K : Band} {W w : World} {cs : Array Value} (h : Kn K W w) (hc : CAt K cs w) (hs : cs.size = K.sz) (j : Nat) (v : Value) : Kn K W (w.setCell ⟨K.C, j, none⟩ v) := by
  have A := aside_setCell w ⟨K.C, j, none⟩ v
  obtain ⟨s, hsh⟩ := h.live.sh
  obtain ⟨c, s1, r1, hch⟩ := h.live.ch
  exact ⟨⟨⟨s, hsh.of_block (A.block _ K.hMC) (A.block _ K.hWC)⟩, ⟨c, s1, r1, (A.block _ K.hCH.symm).trans hch⟩, ⟨_, hc.set j v, by simp [hs]⟩⟩, fun k hk => (A.block k hk.2.2.2.2.1).trans (h.still k hk), by rw [A.size]; exact h.B, A.tape.trans h.tape, A.output.trans h.output, by rw [A.os]; exact h.os⟩
noncomputable def body21 : Code := Try.f21.body.getD .skip
section
variable {Fa : Nat → Th → Array Value → Goroutine → World → Prop} {K : Band} [Fam K Fa] {W : World} {b₁ : Frame} {a₁ : Act} {ops₁ : Array Oper} {i₁ : Nat} {rest₁ : List Nat} {k₁ : List Item} {cs₁ : List Frame} {Q D F O : Nat}
set_option maxRecDepth 100000 in
set_option maxHeartbeats 16000000 in
/-- ████ Each's CLOSURE, BY A WORKER: x := do(job); lock; out[job] = x; unlock. ████ -/
theorem each1Go {A B : Int} (E : Env K W Q D F O 21 (.func (.func 11) #[.agg #[.int .i64 A, .int .i64 B]] #[])) (hnb : 0 < K.nb) (hsz : K.sz = K.J) (j : Nat) (hj : j < K.J) (hput : ∀ cs, K.put j cs = cs.setIfInBounds j (.int .i64 (doV A B j))) (k : Nat) (v : Array Value)
    (hT : ∀ v k', ∃ m, ∀ w, Kn K W w → GoW Try.prog K { pc := .rc } (Fa k' { pc := .rc } v) m (G (b₁.at (a₁.put ((ops₁[i₁]?).bind (·.dst)) (.tuple #[])) (.inRegion ops₁ rest₁ :: k₁)) cs₁) w) (w : World) (hF : Kn K W w) :
    GoW Try.prog K { pc := .bx, job := j, it := K.nb } (Fa k { pc := .bx, job := j, it := K.nb } v) 62 (G ((base 21).at ⟨#[.int .i64 (j : Int), .pointer (some ⟨F, 0, none⟩), .pointer (some ⟨K.Mu, 0, none⟩), .pointer (some ⟨O, 0, none⟩), undef, undef, undef, undef, undef, undef, undef, undef, undef, undef], []⟩ [.code body21]) (b₁.at a₁ (.inRegion ops₁ (i₁ :: rest₁) :: k₁) :: cs₁)) w := by
  refine goW0 (n := 20) (m := 42) ?_
  simp only [body21, Try.f21, Option.getD_some]
  repeat w_go Kn.rely
  refine Goes.stop (fun _ r₁ => ?_)
  replace hF := Kn.rely hF r₁
  clear r₁
  refine goW_still (n := 41) rfl rfl (by k_ne) rfl (by simp) rfl loud21 rfl E.sF E.nF (hF.cell E.sF E.cF) fun _ r₁ => ?_
  replace hF := Kn.rely hF r₁
  clear r₁
  refine goW0 (n := 20) (m := 21) ?_
  walk_nrm
  repeat w_go Kn.rely
  refine Goes.stop (fun _ r₁ => ?_)
  replace hF := Kn.rely hF r₁
  clear r₁
  refine goW_call (n := 20) rfl rfl (by k_ne) rfl rfl Try.func11 nm11 rfl fun _ r₁ => ?_
  replace hF := Kn.rely hF r₁
  clear r₁
  walk_nrmf Try.f11
  refine goes_le (by omega) (doGo A B j k v hnb ?_ _ hF)
  intro k' bk
  refine ⟨20 + 40, fun w hF => ?_⟩
  refine goW0 (n := 20) (m := 40) ?_
  walk_nrm
  repeat w_go Kn.rely
  u_call Try.func19 nm19 Try.f19 Kn.rely hF
  refine Goes.stop (fun _ r₁ => ?_)
  replace hF := Kn.rely hF r₁
  clear r₁
  refine goes_le (by omega) (lockGo (W := ⟨W, []⟩) ?_ v k' _ hF.snap)
  -- BEHIND mu.Lock(): IT OWNS
  intro k'' T cs h1 h2 h3 h4
  obtain ⟨pc, old, aw, sv, it, job, blk⟩ := T
  simp only at h1 h2 h3
  subst h1; subst h2; subst h3
  refine ⟨20 + (200 + 1), fun w g1 g2 => ?_⟩
  have hF := And.intro g1.kn g2
  clear g1 g2
  refine goW0 (n := 20) (m := 201) ?_
  walk_nrm
  show Goes Try.prog false (RB K true [bk]) _ _ _ _ _
  repeat w_go ko_rely
  u_defer ko_rely hF
  repeat w_go ko_rely
  refine Goes.stop (fun _ r₁ => ?_)
  replace hF := ko_rely hF r₁
  clear r₁
  refine goW_still (n := 200) rfl rfl (by k_ne) rfl (by simp) rfl loud21 rfl E.sO E.nO (hF.1.cell E.sO E.cO) fun _ r₁ => ?_
  replace hF := ko_rely hF r₁
  clear r₁
  have hlt : (job : Int) < (K.J : Int) := by omega
  have hj0 : (0 : Int) ≤ (job : Int) := by omega
  refine goW0 (n := 40) (m := 160) ?_
  walk_nrm
  show Goes Try.prog false (RB K true [bk]) _ _ _ _ _
  repeat w_go ko_rely
  refine Goes.stop (fun _ r₁ => ?_)
  replace hF := ko_rely hF r₁
  clear r₁
  -- THE STORE
  refine Goes.step (n := 159) rfl fun w₁ r₁ => ?_
  replace hF := ko_rely hF r₁
  clear r₁
  rw [stepG_st3 rfl rfl (by k_ne) rfl rfl rfl (hF.2.cell (by rw [h4, hsz]; exact hj)) (hF.2.thaw job) loud21]
  simp only [goes_go]
  refine ⟨db_row hF.2 h4 (by have := K.bC; have := hF.1.B; omega) job _, ?_⟩
  replace hF := And.intro (hF.1.row hF.2 h4 job (.int .i64 (doV A B job))) (hF.2.set job (.int .i64 (doV A B job)))
  rw [← hput] at hF
  refine goW0 (T := { pc := .ur, old := old, aw := aw, sv := sv, it := it, job := job, blk := [bk] }) (n := 40) (m := 119) ?_
  walk_nrm
  show Goes Try.prog false (RB K true [bk]) _ _ _ _ _
  repeat w_go ko_rely
  u_in ko_rely hF
  rw [stepG_unwind_enter rfl Try.func20 nm20 rfl]
  simp only [goes_go]
  refine ⟨by u_nil, ?_⟩
  walk_nrmf Try.f20
  refine Goes.stop (fun _ r₁ => ?_)
  replace hF := ko_rely hF r₁
  clear r₁
  refine goes_le (by omega) (unlockGo rfl (K.put job cs) ?_ k'' _ rfl rfl _ hF.1 hF.2)
  intro k3
  obtain ⟨mT, hT'⟩ := hT (K.put job cs) k3
  refine ⟨20 + mT, fun w hF => ?_⟩
  refine goW0 (n := 20) (m := mT) ?_
  u_leave0 Try.func21 Kn.rely hF
  refine Goes.stop (fun _ r₁ => ?_)
  replace hF := Kn.rely hF r₁
  clear r₁
  exact hT' _ hF
end
end Go.Proofs.Ytapjmifhhbpikaa

/- Gangs within gangs: the gang, in a row: gang.Each of ints, from its entry to its return: the walk. (Printed by hd.py.) -/
import Derived.Test.YtapjmifhhbpikaaYc
set_option linter.unusedVariables false
set_option linter.unusedSimpArgs false
namespace Go.Proofs.Ytapjmifhhbpikaa
open Go.Conc Go.ConcN Go.ConcM Go.RowKit Go.Conc.Lib Go.ConcR.Gen
open Go.ConcR (KK wgBlock WgAt stA smA rd wr mk)
theorem loud10 : (Try.prog.funcs[(base 10).fn]?).any (·.norace) = false := by kernel_rfl
theorem setCell_new2 {w : World} {u v : Value} {t : TypeId} {k : Nat} (h : k = w.heap.size) : (w.alloc (.cells #[u] t)).setCell ⟨k, 0, none⟩ v = w.alloc (.cells #[v] t) := by
  subst h; exact setCell_new _ _ _ _
theorem cell_new {w : World} {u : Value} {t : TypeId} {k : Nat} (h : k = w.heap.size) : (w.alloc (.cells #[u] t)).cell? ⟨k, 0, none⟩ = some u ∧ (w.alloc (.cells #[u] t)).frozen? ⟨k, 0, none⟩ = false := by
  have e : (w.alloc (.cells #[u] t)).heap[k]? = some (.cells #[u] t) := new_at h
  constructor
  · simp [World.cell?, e]
  · simp [World.frozen?, e]
theorem fb21 : Try.f21.body = some body21 := by simp only [body21, Try.f21, Option.getD_some]
theorem nt21 : Try.f21.ntmps = 14 := by kernel_rfl
theorem fb17 : Try.f17.body = some body17 := by simp only [body17, Try.f17, Option.getD_some]
theorem nt17 : Try.f17.ntmps = 25 := by kernel_rfl
theorem evP_cell {Shun Fresh : Loc → Prop} {B : Nat} {ad : Addr} {x : Bool} (h1 : ¬ Shun (.cell ad)) (h2 : ¬ Fresh (.cell ad)) (h3 : ad.block < B) : EvP Shun Fresh B ⟨.cell ad, x, false⟩ := by
  refine ⟨fun y hy => ?_, by simp, by simp, by simp, ?_⟩
  · rw [Go.ConcR.ofEvent_cell] at hy
    simp only [MemAct.touch?, Option.some.injEq] at hy
    subst hy
    exact ⟨fun h => absurd h h1, h2⟩
  · rw [Go.ConcR.ofEvent_cell]; exact h3
section
variable {K : Band} {W w : World} {Q D F O : Nat} {fc : FuncId} {jf : Value} {fn : Func} {body : Code} {b₁ : Frame} {a₁ : Act} {ops₁ : Array Oper} {i₁ : Nat} {rest₁ : List Nat} {k₁ : List Item} {cs₁ : List Frame} {Stop : Goroutine → World → Prop} {s2 s3 s4 s8 s9 s12 s13 s14 s15 s16 s17 s18 s19 s20 s21 s22 s23 s24 : Value}
theorem startUse (E : Env K W Q D F O fc jf) (hJb : K.J ≤ 1000) (hf : Try.prog.funcs[fc]? = some fn) (hname : (fn.name == "runtime.NumGoroutine") = false) (hb : fn.body = some body) (hnt : fn.ntmps = 14) (hjob : JobGo K W F O fc body) (hKn : Kn K W w)
    {R : World → World → Prop} (hR : ∀ {w w₁ : World}, KnF K W w ∧ CAt K (full K) w → R w w₁ → KnF K W w₁ ∧ CAt K (full K) w₁) (hend : ∃ m, ∀ w, KnF K W w → CAt K (full K) w → Goes Try.prog K.mn R Go.ConcR.DC0 Stop m (G (b₁.at (a₁.put ((ops₁[i₁]?).bind (·.dst)) (.tuple #[])) (.inRegion ops₁ rest₁ :: k₁)) cs₁) w) (k : Nat) :
    ∃ m, GoS Try.prog K (AtS Try.prog K (FinG K.mn R Stop) k ⟨.gk, 0, 0⟩) m (G ((base 17).at ⟨#[.int .i64 (K.J : Int), .int .i64 (K.N : Int), s2, s3, s4, .pointer (some ⟨D, 0, none⟩), .pointer (some ⟨Q, 0, none⟩), .pointer (some ⟨K.Wg, 0, none⟩), s8, s9, .int .i64 (K.N : Int), .int .i64 0, s12, s13, s14, s15, s16, s17, s18, s19, s20, s21, s22, s23, s24], []⟩ [.code L1, .inLoop L1, .inBlock 0, .code REST1]) (b₁.at a₁ (.inRegion ops₁ (i₁ :: rest₁) :: k₁) :: cs₁)) w := by
  obtain ⟨m, hm⟩ := startGo hR hend E hJb hf hname hb hnt hjob K.N 0 (by omega) k
  rw [if_pos (show 0 < K.N from K.hN)] at hm
  exact ⟨m, hm _ _ _ _ _ _ _ _ _ _ _ _ _ _ _ _ _ _ w hKn⟩
end
section
variable {f : Nat → Int} {J N nb : Nat} {deep : Bool} {Shun : Loc → Prop} {w w₁ : World} {hN1 : 1 ≤ N} {hN : N ≤ 64} {hnb : nb ≤ 1000} {jf : Value}
theorem bandStill (hS : LowS Shun w.heap.size) {k : Nat} (h0 : w.heap.size ≤ k) (h1 : k < w.heap.size + 8) (h2 : k ≠ w.heap.size + 3 ∧ k ≠ w.heap.size + 7 ∧ k ≠ w.heap.size + 5 ∧ k ≠ w.heap.size + 1) : Still (bandI f J N nb w.heap.size deep Shun hN1 hN hnb) k :=
  ⟨h1, h2.1, h2.2.1, h2.2.2.1, h2.2.2.2, hS.notB h0⟩
theorem bandEnv (hS : LowS Shun w.heap.size) : Env (bandI f J N nb w.heap.size deep Shun hN1 hN hnb) (W10 w J jf) (w.heap.size + 6) (w.heap.size + 4) w.heap.size (w.heap.size + 2) 21 jf where
  sQ := bandStill hS (by omega) (by omega) (by omega)
  sD := bandStill hS (by omega) (by omega) (by omega)
  sF := bandStill hS (by omega) (by omega) (by omega)
  sO := bandStill hS (by omega) (by omega) (by omega)
  nQ := Band.nS _ (by show w.heap.size + 6 ≠ w.heap.size + 3; omega) (by show w.heap.size + 6 ≠ w.heap.size + 7; omega)
  nD := Band.nS _ (by show w.heap.size + 4 ≠ w.heap.size + 3; omega) (by show w.heap.size + 4 ≠ w.heap.size + 7; omega)
  nF := Band.nS _ (by show w.heap.size ≠ w.heap.size + 3; omega) (by show w.heap.size ≠ w.heap.size + 7; omega)
  nO := Band.nS _ (by show w.heap.size + 2 ≠ w.heap.size + 3; omega) (by show w.heap.size + 2 ≠ w.heap.size + 7; omega)
  cQ := by simp [World.cell?, W10_Q, bandI, bandF]
  cD := by simp [World.cell?, W10_D, bandI, bandF]
  cF := by simp [World.cell?, W10_F]
  cO := by simp [World.cell?, W10_O, bandI, bandF]
  z := rfl
theorem bandSh : SAt (bandI f J N nb w.heap.size deep Shun hN1 hN hnb) ⟨.zero, 0, 0, false, 0⟩ (W10 w J jf) :=
  ⟨W10_M, by
    show (W10 w J jf).heap[w.heap.size + 7]? = _
    rw [W10_W]
    simp [bandI, bandF]⟩
theorem bandRow : CAt (bandI f J N nb w.heap.size deep Shun hN1 hN hnb) ((bandI f J N nb w.heap.size deep Shun hN1 hN hnb).row fun _ => false) (W10 w J jf) := by
  show (W10 w J jf).heap[w.heap.size + 1]? = some (.cells (rowF f J fun _ => false) 3)
  rw [W10_C]
  congr 2
  apply Array.ext
  · simp [rowF]
  · intro i h1 h2; simp [rowF]
theorem bandKn (h : AtRel (W10 w J jf) w₁) : Kn (bandI f J N nb w.heap.size deep Shun hN1 hN hnb) (W10 w J jf) w₁ := by
  obtain ⟨d, rfl⟩ := h
  exact ⟨⟨⟨_, bandSh⟩, ⟨false, 0, 0, W10_H⟩, ⟨_, bandRow, rowF_size _ _ _⟩⟩, fun _ _ => rfl, by show w.heap.size + 8 ≤ (W10 w J jf).heap.size; rw [W10_size]; omega, rfl, rfl, .refl _⟩
end
noncomputable def body10 : Code := Try.f10.body.getD .skip
section
variable {b₀ : Frame} {a₀ : Act} {ops₀ : Array Oper} {i₀ : Nat} {rest₀ : List Nat} {k₀ : List Item} {cs : List Frame}
set_option maxRecDepth 100000 in
set_option maxHeartbeats 16000000 in
/-- From Each's entry to the gang's beginning; from the gang's end to Each's return. -/
theorem eachWalk {f : Nat → Int} {J N nb : Nat} {deep : Bool} (hJ : J ≤ 256) (hN1 : 1 ≤ N) (hN : N ≤ 64) (hnb : nb ≤ 1000) {Shun : Loc → Prop} {w : World} (hS : LowS Shun w.heap.size) {fd : Fn} {fs fc : Array Value}
    (hjob : JobGo (bandI f J N nb w.heap.size deep Shun hN1 hN hnb) (W10 w J (.func fd fs fc)) w.heap.size (w.heap.size + 2) 21 body21) :
    Goes Try.prog true AtRel (DE (EvP Shun NoF (w.heap.size + 8)))
      (fun g w₁ => AtRel (W10 w J (.func fd fs fc)) w₁ ∧ ∀ k, ∃ m, GoS Try.prog (bandI f J N nb w.heap.size deep Shun hN1 hN hnb) (AtS Try.prog (bandI f J N nb w.heap.size deep Shun hN1 hN hnb) (FinG true AtRel fun g w' => KnF (bandI f J N nb w.heap.size deep Shun hN1 hN hnb) (W10 w J (.func fd fs fc)) w' ∧ CAt (bandI f J N nb w.heap.size deep Shun hN1 hN hnb) (full (bandI f J N nb w.heap.size deep Shun hN1 hN hnb)) w' ∧
        ∃ m, ∀ (S' : Loc → Prop), ¬ ShB S' (w.heap.size + 2) → Goes Try.prog true AtRel (DE (EvP S' NoF (w.heap.size + 8))) (fun g w₂ => g = (G (b₀.at (a₀.put ((ops₀[i₀]?).bind (·.dst)) (.tuple #[.slice (some ⟨w.heap.size + 1, 0, none⟩) J J, .int .i64 0])) (.inRegion ops₀ rest₀ :: k₀)) cs) ∧ AtRel w' w₂) m g w') k ⟨.gk, 0, 0⟩) m g w₁)
      400 (G ((base 10).at ⟨#[.int .i64 (J : Int), .int .i64 (N : Int), .func fd fs fc, undef, undef, undef, undef, undef, undef, undef, undef, undef, undef, undef, undef, undef, undef, undef, undef, undef], []⟩ [.code body10]) (b₀.at a₀ (.inRegion ops₀ (i₀ :: rest₀) :: k₀) :: cs)) w := by
  have bE : Env (bandI f J N nb w.heap.size deep Shun hN1 hN hnb) (W10 w J (.func fd fs fc)) _ _ _ _ _ _ := bandEnv hS
  have hF := atRel_refl w
  have h1 : ¬ ((J : Int) < 0) := by omega
  have h2 : ¬ ((256 : Int) < (J : Int)) := by omega
  have h3 : ¬ ((N : Int) < 1) := by omega
  have h4 : ¬ ((64 : Int) < (N : Int)) := by omega
  simp only [body10, Try.f10, Option.getD_some]
  refine goL0 (n := 10) (m := 390) ?_
  repeat w_go ar_rely
  refine Goes.stop (fun _ r₁ => ?_)
  replace hF := ar_rely hF r₁
  clear r₁
  refine goL_new (n := 389) (v := fun s => .pointer (some ⟨s, 0, none⟩)) hF rfl rfl (by k_ne) (run_box rfl rfl (.inl ⟨.inl rfl, _, _, _, rfl⟩)) fun _ hF => ?_
  refine goL0 (n := 100) (m := 289) ?_
  walk_nrm
  repeat w_go ar_rely
  u_call Try.func16 nm16 Try.f16 ar_rely hF
  repeat w_go ar_rely
  u_leave1 Try.func16 ar_rely hF
  repeat w_go ar_rely
  refine Goes.stop (fun _ r₁ => ?_)
  replace hF := ar_rely hF r₁
  clear r₁
  refine goL_new (n := 288) (v := fun s => .slice (some ⟨s, 0, none⟩) J J) hF rfl rfl (by k_ne) (run_mkSlice rfl (by omega) rfl rfl) fun _ hF => ?_
  refine goL0 (n := 20) (m := 268) ?_
  walk_nrm
  repeat w_go ar_rely
  refine Goes.stop (fun _ r₁ => ?_)
  replace hF := ar_rely hF r₁
  clear r₁
  refine goL_new (n := 267) (v := fun s => .pointer (some ⟨s, 0, none⟩)) hF rfl rfl (by k_ne) (run_alloc33 rfl) fun _ hF => ?_
  simp only [size_al]
  refine goL0 (n := 20) (m := 247) ?_
  walk_nrm
  repeat w_go ar_rely
  refine Goes.stop (fun _ r₁ => ?_)
  replace hF := ar_rely hF r₁
  clear r₁
  have low : ∀ k, w.heap.size ≤ k → ¬ Shun (.cell ⟨k, 0, none⟩) := fun k hk h => hS.notB hk (ShB.of h)
  refine goL_st (n := 246) (ad := ⟨w.heap.size + 2, 0, none⟩) (v := .slice (some ⟨w.heap.size + 1, 0, none⟩) J J) hF rfl rfl (by k_ne) rfl (fun w' hc hz => run_st (ad := ⟨w.heap.size + 2, 0, none⟩) (v := .slice (some ⟨w.heap.size + 1, 0, none⟩) J J) rfl rfl rfl (.inl ⟨rfl, _, _, _, rfl⟩) w' (hc.trans (cell_new (by simp only [size_al, Nat.add_assoc, Nat.reduceAdd])).1) (hz.trans (cell_new (by simp only [size_al, Nat.add_assoc, Nat.reduceAdd])).2)) loud10 (evP_cell (low _ (by omega)) (fun h => h) (show w.heap.size + 2 < w.heap.size + 8 by omega)) fun _ hF => ?_
  rw [setCell_new2 (by simp only [size_al, Nat.add_assoc, Nat.reduceAdd])] at hF
  refine goL0 (n := 20) (m := 226) ?_
  walk_nrm
  repeat w_go ar_rely
  refine Goes.stop (fun _ r₁ => ?_)
  replace hF := ar_rely hF r₁
  clear r₁
  refine goL_new (n := 225) (v := fun s => .pointer (some ⟨s, 0, none⟩)) hF rfl rfl (by k_ne) (run_alloc50 rfl) fun _ hF => ?_
  simp only [size_al]
  refine goL0 (n := 40) (m := 185) ?_
  walk_nrm
  repeat w_go ar_rely
  u_in ar_rely hF
  refine goes_call (c := body17) rfl rfl (by k_ne) rfl Try.func17 nm17 fb17 ⟨by u_nil, ?_⟩
  simp only [nt17]
  walk_nrm
  rw [body17_eq]
  generalize q0 : C0 = X0
  generalize q1 : C1 = X1
  generalize q2 : C2 = X2
  generalize q3 : C3 = X3
  simp only [C0, C1, C2, C3, body17, firstC, rightC, Try.f17, Option.getD_some] at q0 q1 q2 q3
  subst q0; subst q1; subst q2; subst q3
  repeat w_go ar_rely
  refine Goes.stop (fun _ r₁ => ?_)
  replace hF := ar_rely hF r₁
  clear r₁
  refine goL_new (n := 184) (v := fun s => .pointer (some ⟨s, 0, none⟩)) hF rfl rfl (by k_ne) (run_box rfl rfl (.inl ⟨.inr (.inl rfl), _, _, _, rfl⟩)) fun _ hF => ?_
  simp only [size_al]
  refine goL0 (n := 20) (m := 164) ?_
  walk_nrm
  repeat w_go ar_rely
  refine Goes.stop (fun _ r₁ => ?_)
  replace hF := ar_rely hF r₁
  clear r₁
  refine goL_new (n := 163) (v := fun s => .chan (some s)) hF rfl rfl (by k_ne) (run_mkChan rfl) fun _ hF => ?_
  simp only [size_al]
  refine goL0 (n := 20) (m := 143) ?_
  walk_nrm
  repeat w_go ar_rely
  refine Goes.stop (fun _ r₁ => ?_)
  replace hF := ar_rely hF r₁
  clear r₁
  refine goL_new (n := 142) (v := fun s => .pointer (some ⟨s, 0, none⟩)) hF rfl rfl (by k_ne) (run_alloc53 rfl) fun _ hF => ?_
  simp only [size_al]
  refine goL0 (n := 20) (m := 122) ?_
  walk_nrm
  repeat w_go ar_rely
  refine Goes.stop (fun _ r₁ => ?_)
  replace hF := ar_rely hF r₁
  clear r₁
  refine goL_st (n := 121) (ad := ⟨w.heap.size + 6, 0, none⟩) (v := .chan (some (w.heap.size + 5))) hF rfl rfl (by k_ne) rfl (fun w' hc hz => run_st (ad := ⟨w.heap.size + 6, 0, none⟩) (v := .chan (some (w.heap.size + 5))) rfl rfl rfl (.inr (.inl ⟨rfl, _, rfl⟩)) w' (hc.trans (cell_new (by simp only [size_al, Nat.add_assoc, Nat.reduceAdd])).1) (hz.trans (cell_new (by simp only [size_al, Nat.add_assoc, Nat.reduceAdd])).2)) loud17 (evP_cell (low _ (by omega)) (fun h => h) (show w.heap.size + 6 < w.heap.size + 8 by omega)) fun _ hF => ?_
  rw [setCell_new2 (by simp only [size_al, Nat.add_assoc, Nat.reduceAdd])] at hF
  refine goL0 (n := 20) (m := 101) ?_
  walk_nrm
  repeat w_go ar_rely
  refine Goes.stop (fun _ r₁ => ?_)
  replace hF := ar_rely hF r₁
  clear r₁
  refine goL_new (n := 100) (v := fun s => .pointer (some ⟨s, 0, none⟩)) hF rfl rfl (by k_ne) (run_alloc60 rfl) fun _ hF => ?_
  simp only [size_al]
  refine goL0 (n := 40) (m := 60) ?_
  walk_nrm
  repeat w_but "code.loop" ar_rely
  u_c stepG_loop ar_rely hF
  refine Goes.stop (fun _ r₁ => ?_)
  replace hF := ar_rely hF r₁
  clear r₁
  refine Goes.stop (fun w₁ r => ?_)
  replace hF : AtRel (W10 w J (.func fd fs fc)) w₁ := ar_rely hF r
  refine ⟨hF, fun k => ?_⟩
  refine startUse bE (by show J ≤ 1000; omega) Try.func21 nm21 fb21 nt21 hjob (bandKn hF) (R := AtRel) kff_atRel ?_ k
  refine ⟨0, fun w' g1 g2 => Goes.stop fun w₂ r₂ => ?_⟩
  obtain ⟨k1, k2⟩ := kff_atRel ⟨g1, g2⟩ r₂
  refine ⟨k1, k2, ?_⟩
  have hF := atRel_refl w₂
  refine ⟨60, fun S' hS' => ?_⟩
  refine goL0 (n := 20) (m := 40) ?_
  walk_nrm
  repeat w_go ar_rely
  refine Goes.stop (fun _ r₁ => ?_)
  replace hF := ar_rely hF r₁
  clear r₁
  have hcO : w₂.cell? ⟨w.heap.size + 2, 0, none⟩ = some (.slice (some ⟨w.heap.size + 1, 0, none⟩) J J) := (cell_same (k1.still _ bE.sO)).trans bE.cO
  refine goL_ld (n := 39) (ad := ⟨w.heap.size + 2, 0, none⟩) (v := .slice (some ⟨w.heap.size + 1, 0, none⟩) J J) hF rfl rfl (by k_ne) rfl (by simp) rfl loud10 hcO (evP_cell (fun h => hS' (ShB.of h)) (fun h => h) (show w.heap.size + 2 < w.heap.size + 8 by omega)) fun _ hF => ?_
  refine goL0 (n := 20) (m := 19) ?_
  walk_nrm
  repeat w_go ar_rely
  u_in ar_rely hF
  refine goes_leave2 rfl rfl Try.func10 rfl ⟨by u_nil, ?_⟩
  refine Goes.stop (fun _ r₁ => ?_)
  replace hF := ar_rely hF r₁
  clear r₁
  exact Goes.stop fun _ r => ⟨rfl, ar_rely hF r⟩
end
end Go.Proofs.Ytapjmifhhbpikaa

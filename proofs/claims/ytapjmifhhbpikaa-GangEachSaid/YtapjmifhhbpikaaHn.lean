/- The gang, in a row: GangEach beside leavers. (Printed by hn.py.) -/
import Derived.Test.YtapjmifhhbpikaaHm
set_option linter.unusedVariables false
set_option linter.unusedSimpArgs false
namespace Go.Proofs.Ytapjmifhhbpikaa
open Go.Conc Go.ConcN Go.ConcM Go.RowKit Go.Conc.Lib Go.ConcR.Gen
open Go.ConcR (KK wgBlock WgAt stA smA rd wr mk)
noncomputable def body4 : Code := Try.f4.body.getD .skip
noncomputable def T4 : Code := rightC (rightC body4)
noncomputable def T4b : Code := rightC (rightC T4)
noncomputable def T4c : Code := rightC T4b
noncomputable def S4a : Code := firstC body4
noncomputable def S4b : Code := firstC (rightC body4)
noncomputable def S4c : Code := firstC T4
noncomputable def S4d : Code := firstC (rightC T4)
noncomputable def S4e : Code := firstC T4b
noncomputable def S4f : Code := firstC T4c
noncomputable def S4g : Code := firstC (firstC (rightC T4c))
noncomputable def LL4 : Code := (findLoop T4c).getD .skip
noncomputable def RR4 : Code := rightC (rightC T4c)
set_option maxRecDepth 100000 in
theorem body4_eq : body4 = .seq S4a (.seq S4b T4) := by
  simp only [S4a, S4b, T4, body4, firstC, rightC, findLoop, Try.f4, Option.getD_some]
set_option maxRecDepth 100000 in
theorem T4_eq : T4 = .seq S4c (.seq S4d T4b) := by
  simp only [S4c, S4d, T4b, T4, body4, firstC, rightC, findLoop, Try.f4, Option.getD_some]
set_option maxRecDepth 100000 in
theorem T4b_eq : T4b = .seq S4e T4c := by
  simp only [S4e, T4c, T4b, T4, body4, firstC, rightC, findLoop, Try.f4, Option.getD_some]
set_option maxRecDepth 100000 in
theorem T4c_eq : T4c = .seq S4f (.seq (.seq S4g (.block 0 (.loop LL4))) RR4) := by
  simp only [S4f, S4g, LL4, RR4, T4c, T4b, T4, body4, firstC, rightC, findLoop, Try.f4, Option.getD_some]
theorem fb4 : Try.f4.body = some body4 := by simp only [body4, Try.f4, Option.getD_some]
theorem nt4 : Try.f4.ntmps = 92 := by kernel_rfl
theorem loud4 : (Try.prog.funcs[(base 4).fn]?).any (·.norace) = false := by kernel_rfl
section
variable {Shun : Loc → Prop} {w : World} {Post : (Loc → Prop) → Goroutine → World → Prop} {A B : Int}
set_option maxRecDepth 100000 in
set_option maxHeartbeats 16000000 in
/-- ████ GangEach, WHERE IT IS REFUSED. ████ -/
theorem each4Odd {x y : Int} (ho : OddI x y) (hS : LowS Shun w.heap.size)
    (hend : ∀ S' w' a todo, Aft w w' 0 → LowS S' w'.heap.size → a.defers = [] → a.tmps.getD 6 undef = .bool true → Post S' (G {(base 4).at a todo with mode := .returning} []) w') :
    Reach Try.prog Shun (G ((base 4).at ⟨#[.int .i64 x, .int .i64 y, .agg #[.int .i64 A, .int .i64 B], undef, undef, undef, undef, undef, undef, undef, undef, undef, undef, undef, undef, undef, undef, undef, undef, undef, undef, undef, undef, undef, undef, undef, undef, undef, undef, undef, undef, undef, undef, undef, undef, undef, undef, undef, undef, undef, undef, undef, undef, undef, undef, undef, undef, undef, undef, undef, undef, undef, undef, undef, undef, undef, undef, undef, undef, undef, undef, undef, undef, undef, undef, undef, undef, undef, undef, undef, undef, undef, undef, undef, undef, undef, undef, undef, undef, undef, undef, undef, undef, undef, undef, undef, undef, undef, undef, undef, undef, undef], []⟩ [.code body4]) []) w Post := by
  refine Reach.walk (B := w.heap.size + 1) (n := 30 + (30 + 1)) (Nat.le_add_right _ _) (Stop := fun g w' => w.heap.size + 1 ≤ w'.heap.size ∧ Reach Try.prog Shun g w' Post) ?_ (fun _ _ h => h)
  have hF := atRel_refl w
  refine goL0 (n := 30) (m := 30 + 1) ?_
  rw [body4_eq]
  generalize q0 : S4a = X0
  generalize q1 : S4b = X1
  simp only [S4a, S4b, T4c, T4b, T4, body4, firstC, rightC, findLoop, Try.f4, Option.getD_some] at q0 q1
  subst q0; subst q1
  repeat w_go ar_rely
  refine Goes.stop (fun _ r₁ => ?_)
  replace hF := ar_rely hF r₁
  clear r₁
  refine goL_new (n := 30) (v := fun s => .pointer (some ⟨s, 0, none⟩)) hF rfl rfl (by k_ne) (run_box23 rfl rfl) fun _ hF => ?_
  refine goL0 (n := 30) (m := 0) ?_
  walk_nrm
  repeat w_go ar_rely
  u_in ar_rely hF
  refine goes_call (c := body7) rfl rfl (by k_ne) rfl Try.func7 nm7 fb7 ⟨by u_nil, ?_⟩
  simp only [nt7]
  walk_nrm
  refine Goes.stop (fun _ r₁ => ?_)
  replace hF := ar_rely hF r₁
  clear r₁
  refine Goes.stop (fun w₁ r₁ => ?_)
  replace hF := ar_rely hF r₁
  clear r₁
  have hs1 : w₁.heap.size = w.heap.size + 1 := (at_size hF).trans (size_al _ _)
  refine ⟨by omega, ?_⟩
  refine awakeReach (hS.mono (by omega)) ?_
  intro S2 w2 hA2 hL2 hN2
  have hP2 : w2.heap[w.heap.size]? = some (.cells #[.int .i64 A, .int .i64 B] 23) := by
    rw [hA2.old _ (by omega)]
    obtain ⟨d, rfl⟩ := hF
    exact alloc_at_new _ _
  replace hA2 : Aft w w2 10 := ((Aft.alloc _ _).at hF).trans hA2
  rw [hs1] at hN2
  have hnp2 : ∀ i, ¬ S2 (.cell ⟨w.heap.size, i, none⟩) := fun i => hN2.not (hS.not (Nat.le_refl _)) (by omega)
  replace hN2 := NewS.trans (NewS.refl (Shun := Shun) (s := w.heap.size)) hN2 (by omega)
  clear hF hs1
  have hz2 := hA2.size
  refine Reach.walk (B := w2.heap.size + 2) (n := (60 + ((30 + (20 + ((120 + (60 + ((30 + (30 + (20 + ((120 + (100 + (100 + 0))) + 1)))) + 1))) + 1))) + 1))) (Nat.le_add_right _ _) (Stop := fun g w' => w2.heap.size + 2 ≤ w'.heap.size ∧ Reach Try.prog S2 g w' Post) ?_ (fun _ _ h => h)
  have hF := atRel_refl w2
  refine goL0 (n := 60) (m := (30 + (20 + ((120 + (60 + ((30 + (30 + (20 + ((120 + (100 + (100 + 0))) + 1)))) + 1))) + 1))) + 1) ?_
  walk_nrm
  repeat w_but "T4" ar_rely
  rw [T4_eq]
  generalize q0 : S4c = X0
  generalize q1 : S4d = X1
  simp only [S4c, S4d, T4c, T4b, T4, body4, firstC, rightC, findLoop, Try.f4, Option.getD_some] at q0 q1
  subst q0; subst q1
  repeat w_go ar_rely
  refine Goes.stop (fun _ r₁ => ?_)
  replace hF := ar_rely hF r₁
  clear r₁
  refine goL_ld23 (n := (30 + (20 + ((120 + (60 + ((30 + (30 + (20 + ((120 + (100 + (100 + 0))) + 1)))) + 1))) + 1)))) (p := w.heap.size) hF rfl rfl (by k_ne) rfl rfl loud4 hP2 (evP_cell (hnp2 0) (fun h => h) (show w.heap.size < w2.heap.size + 2 by omega)) (evP_cell (hnp2 1) (fun h => h) (show w.heap.size < w2.heap.size + 2 by omega)) fun _ hF => ?_
  refine goL0 (n := 30) (m := (20 + ((120 + (60 + ((30 + (30 + (20 + ((120 + (100 + (100 + 0))) + 1)))) + 1))) + 1))) ?_
  walk_nrm
  repeat w_go ar_rely
  u_in ar_rely hF
  refine goes_call (c := body10) rfl rfl (by k_ne) rfl Try.func10 nm10 fb10 ⟨by u_nil, ?_⟩
  simp only [nt10]
  walk_nrm
  refine Goes.stop (fun _ r₁ => ?_)
  replace hF := ar_rely hF r₁
  clear r₁
  refine eachOdd (m := (60 + ((30 + (30 + (20 + ((120 + (100 + (100 + 0))) + 1)))) + 1))) ho hF fun _ hF => ?_
  have hP3 : (w2.alloc (.cells #[.func (.func 11) #[.agg #[.int .i64 A, .int .i64 B]] #[]] 36)).heap[w.heap.size]? = some (.cells #[.int .i64 A, .int .i64 B] 23) := (alloc_old (by omega)).trans hP2
  refine goL0 (n := 60) (m := (30 + (30 + (20 + ((120 + (100 + (100 + 0))) + 1)))) + 1) ?_
  walk_nrm
  repeat w_go ar_rely
  refine Goes.stop (fun _ r₁ => ?_)
  replace hF := ar_rely hF r₁
  clear r₁
  refine goL_ld23 (n := (30 + (30 + (20 + ((120 + (100 + (100 + 0))) + 1))))) (p := w.heap.size) hF rfl rfl (by k_ne) rfl rfl loud4 hP3 (evP_cell (hnp2 0) (fun h => h) (show w.heap.size < w2.heap.size + 2 by omega)) (evP_cell (hnp2 1) (fun h => h) (show w.heap.size < w2.heap.size + 2 by omega)) fun _ hF => ?_
  refine goL0 (n := 30) (m := (30 + (20 + ((120 + (100 + (100 + 0))) + 1)))) ?_
  walk_nrm
  repeat w_go ar_rely
  u_in ar_rely hF
  refine goes_call (c := body12) rfl rfl (by k_ne) rfl Try.func12 nm12 fb12 ⟨by u_nil, ?_⟩
  simp only [nt12]
  walk_nrm
  refine Goes.stop (fun _ r₁ => ?_)
  replace hF := ar_rely hF r₁
  clear r₁
  refine sumOdd (m := (100 + 0)) ho hF fun _ hF => ?_
  refine goL0 (n := 100) (m := 0) ?_
  walk_nrm
  repeat w_but "T4b" ar_rely
  rw [T4b_eq]
  generalize q0 : S4e = X0
  simp only [S4e, T4c, T4b, T4, body4, firstC, rightC, findLoop, Try.f4, Option.getD_some] at q0
  subst q0
  rcases ho with h1 | ⟨h1, h2⟩ | ⟨h1, h2, h3⟩ | ⟨h1, h2, h3, h4⟩
  all_goals
    repeat w_go ar_rely
    refine Goes.stop (fun _ r₁ => ?_)
    replace hF := ar_rely hF r₁
    clear r₁
    refine Goes.stop (fun w₃ r₁ => ?_)
    replace hF := ar_rely hF r₁
    clear r₁
    have hs3 : w₃.heap.size = w2.heap.size + 2 := (at_size hF).trans (by simp only [size_al])
    refine ⟨by omega, Reach.done (hend S2 w₃ _ _ (((hA2.trans (Aft.alloc _ _)).trans (Aft.alloc _ _)).at hF |>.mono (Nat.zero_le _)) (hL2.mono (by omega)) rfl rfl)⟩
end
section
variable {E : Event → Prop} {W : World} {R J g cap : Nat} {pv : Option Addr} {A B : Int} {Stop : Goroutine → World → Prop} {m : Nat}
set_option maxRecDepth 100000 in
set_option maxHeartbeats 16000000 in
/-- The rounds that are left of GangEach's loop. -/
theorem each4Loop (hpv : 0 < J → pv = some ⟨g, 0, none⟩) (hx : ∀ i, i < J → W.cell? ⟨g, i, none⟩ = some (.int .i64 (doV A B i))) (ex : ∀ i, i < J → E ⟨.cell ⟨g, i, none⟩, false, false⟩) (hn : J ≤ 1000)
    (hgo : ∀ (s0 s1 s2 s3 s4 s5 s6 s13 s14 s15 s16 s17 s18 s19 s20 s21 s22 s23 s24 s25 s26 s27 s28 s29 s30 s31 s32 s33 s34 s35 s36 s37 s38 s39 s40 s41 s42 s43 s44 s45 s46 s47 s48 s49 s50 s51 s52 s53 s54 s55 s56 s57 s58 s59 s60 s61 s62 s63 s64 s65 s66 s67 s68 s69 s70 s71 s72 s73 s74 s75 s76 s77 s78 s79 s80 s81 s82 s83 s84 s85 s86 s87 s88 s89 s90 s91 : Value) w₁, AtRel W w₁ → Goes Try.prog true AtRel (DE E) Stop m (G ((base 4).at ⟨#[s0, s1, s2, s3, s4, s5, s6, .slice (some ⟨R, 0, none⟩) J J, .int .i64 0, .int .i64 (accD A B J), .int .i64 0, .slice pv J cap, .int .i64 (accD A B J), s13, s14, s15, s16, s17, s18, s19, s20, s21, s22, s23, s24, s25, s26, s27, s28, s29, s30, s31, s32, s33, s34, s35, s36, s37, s38, s39, s40, s41, s42, s43, s44, s45, s46, s47, s48, s49, s50, s51, s52, s53, s54, s55, s56, s57, s58, s59, s60, s61, s62, s63, s64, s65, s66, s67, s68, s69, s70, s71, s72, s73, s74, s75, s76, s77, s78, s79, s80, s81, s82, s83, s84, s85, s86, s87, s88, s89, s90, s91], []⟩ [.code RR4]) []) w₁) :
    ∀ (r i : Nat), i + r = J → ∀ (s0 s1 s2 s3 s4 s5 s6 s14 s15 s16 s17 s18 s19 s20 s21 s22 s23 s24 s25 s26 s27 s28 s29 s30 s31 s32 s33 s34 s35 s36 s37 s38 s39 s40 s41 s42 s43 s44 s45 s46 s47 s48 s49 s50 s51 s52 s53 s54 s55 s56 s57 s58 s59 s60 s61 s62 s63 s64 s65 s66 s67 s68 s69 s70 s71 s72 s73 s74 s75 s76 s77 s78 s79 s80 s81 s82 s83 s84 s85 s86 s87 s88 s89 s90 s91 : Value) (w : World), AtRel W w →
      Goes Try.prog true AtRel (DE E) Stop (m + 60 + 100 * r) (G ((base 4).at ⟨#[s0, s1, s2, s3, s4, s5, s6, .slice (some ⟨R, 0, none⟩) J J, .int .i64 0, .int .i64 (accD A B J), .int .i64 0, .slice pv J cap, .int .i64 (accD A B i), .int .i64 (i : Int), s14, s15, s16, s17, s18, s19, s20, s21, s22, s23, s24, s25, s26, s27, s28, s29, s30, s31, s32, s33, s34, s35, s36, s37, s38, s39, s40, s41, s42, s43, s44, s45, s46, s47, s48, s49, s50, s51, s52, s53, s54, s55, s56, s57, s58, s59, s60, s61, s62, s63, s64, s65, s66, s67, s68, s69, s70, s71, s72, s73, s74, s75, s76, s77, s78, s79, s80, s81, s82, s83, s84, s85, s86, s87, s88, s89, s90, s91], []⟩ [.code LL4, .inLoop LL4, .inBlock 0, .code RR4]) []) w := by
  intro r
  induction r with
  | zero =>
    intro i hi s0 s1 s2 s3 s4 s5 s6 s14 s15 s16 s17 s18 s19 s20 s21 s22 s23 s24 s25 s26 s27 s28 s29 s30 s31 s32 s33 s34 s35 s36 s37 s38 s39 s40 s41 s42 s43 s44 s45 s46 s47 s48 s49 s50 s51 s52 s53 s54 s55 s56 s57 s58 s59 s60 s61 s62 s63 s64 s65 s66 s67 s68 s69 s70 s71 s72 s73 s74 s75 s76 s77 s78 s79 s80 s81 s82 s83 s84 s85 s86 s87 s88 s89 s90 s91 w hF
    rw [show m + 60 + 100 * 0 = 60 + m by omega]
    obtain rfl : i = J := by omega
    refine goL0 (n := 60) (m := m) ?_
    generalize hX : Item.code LL4 = X
    simp only [LL4, T4c, T4b, T4, body4, firstC, rightC, findLoop, Try.f4, Option.getD_some] at hX
    subst hX
    have hlt : ¬ ((i : Int) < (i : Int)) := by omega
    repeat w_but "RR4" ar_rely
    refine Goes.stop (fun _ r₁ => ?_)
    replace hF := ar_rely hF r₁
    clear r₁
    exact hgo _ _ _ _ _ _ _ _ _ _ _ _ _ _ _ _ _ _ _ _ _ _ _ _ _ _ _ _ _ _ _ _ _ _ _ _ _ _ _ _ _ _ _ _ _ _ _ _ _ _ _ _ _ _ _ _ _ _ _ _ _ _ _ _ _ _ _ _ _ _ _ _ _ _ _ _ _ _ _ _ _ _ _ _ _ _ _ hF
  | succ r ih =>
    intro i hi s0 s1 s2 s3 s4 s5 s6 s14 s15 s16 s17 s18 s19 s20 s21 s22 s23 s24 s25 s26 s27 s28 s29 s30 s31 s32 s33 s34 s35 s36 s37 s38 s39 s40 s41 s42 s43 s44 s45 s46 s47 s48 s49 s50 s51 s52 s53 s54 s55 s56 s57 s58 s59 s60 s61 s62 s63 s64 s65 s66 s67 s68 s69 s70 s71 s72 s73 s74 s75 s76 s77 s78 s79 s80 s81 s82 s83 s84 s85 s86 s87 s88 s89 s90 s91 w hF
    have hin : i < J := by omega
    obtain rfl := hpv (by omega)
    have hlt : ((i : Int) < (J : Int)) := by omega
    rw [show m + 60 + 100 * (r + 1) = 20 + ((79 + (m + 60 + 100 * r)) + 1) by omega]
    refine goL0 (n := 20) (m := (79 + (m + 60 + 100 * r)) + 1) ?_
    generalize hX : Item.code LL4 = X
    simp only [LL4, T4c, T4b, T4, body4, firstC, rightC, findLoop, Try.f4, Option.getD_some] at hX
    subst hX
    repeat w_go ar_rely
    refine Goes.stop (fun _ r₁ => ?_)
    replace hF := ar_rely hF r₁
    clear r₁
    have wi : IntKind.i64.wrap ((i : Int) + 1) = ((i + 1 : Nat) : Int) := by rw [IntKind.wrap_i64]; omega
    have wa : IntKind.i64.wrap (accD A B i + doV A B i) = accD A B (i + 1) := rfl
    refine goL_ld (n := 79 + (m + 60 + 100 * r)) (ad := ⟨g, i, none⟩) (v := .int .i64 (doV A B i)) hF rfl rfl (by k_ne) rfl (by simp) rfl loud4 (hx i hin) (ex i hin) fun _ hF => ?_
    refine goL0 (n := 79) (m := m + 60 + 100 * r) ?_
    walk_nrm
    repeat w_nl ar_rely
    u_c stepG_inLoop ar_rely hF
    refine Goes.stop (fun _ r₁ => ?_)
    replace hF := ar_rely hF r₁
    clear r₁
    exact ih (i + 1) (by omega) _ _ _ _ _ _ _ _ _ _ _ _ _ _ _ _ _ _ _ _ _ _ _ _ _ _ _ _ _ _ _ _ _ _ _ _ _ _ _ _ _ _ _ _ _ _ _ _ _ _ _ _ _ _ _ _ _ _ _ _ _ _ _ _ _ _ _ _ _ _ _ _ _ _ _ _ _ _ _ _ _ _ _ _ _ _ hF
end
/-- An own row of its results. -/
theorem own_row {w : World} {A B : Int} {J k : Nat} {v : Value} (h : w.ownsRow k 3 1 v J (lstD A B J)) : ∃ (pv : Option Addr) (cap g : Nat), v = .slice pv J cap ∧ (0 < J → pv = some ⟨g, 0, none⟩) ∧ (∀ i, i < J → w.cell? ⟨g, i, none⟩ = some (.int .i64 (doV A B i))) ∧ (0 < J → k ≤ g ∧ g < w.heap.size) := by
  rcases h.2 with ⟨rfl, rfl⟩ | ⟨g, cap, cur, rfl, hb, hg, hnc, hcm, hcs, htake⟩
  · exact ⟨none, 0, 0, rfl, fun h => by omega, fun i hi => by omega, fun h => by omega⟩
  · refine ⟨some ⟨g, 0, none⟩, cap, g, rfl, fun _ => rfl, fun i hi => ?_, fun _ => ⟨hb, (Array.getElem?_eq_some_iff.1 hg).1⟩⟩
    have h1 : (lstD A B J)[i]? = some (.int .i64 (doV A B i)) := by simp [lstD, hi]
    rw [← htake, List.getElem?_take] at h1
    split at h1
    · simp [World.cell?, hg]
      simpa using h1
    · cases h1
section
variable {Shun : Loc → Prop} {w : World} {Post : (Loc → Prop) → Goroutine → World → Prop} {A B : Int}
set_option maxRecDepth 100000 in
set_option maxHeartbeats 16000000 in
/-- ████ GangEach, WHERE IT IS NOT REFUSED. ████ -/
theorem each4Even {J N : Nat} (hJ : J ≤ 256) (hM : 1 ≤ N ∧ N ≤ 64) (hS : LowS Shun w.heap.size)
    (hend : ∀ S' w' a todo, Aft w w' 0 → LowS S' w'.heap.size → a.defers = [] → a.tmps.getD 6 undef = .bool true → Post S' (G {(base 4).at a todo with mode := .returning} []) w') :
    Reach Try.prog Shun (G ((base 4).at ⟨#[.int .i64 (J : Int), .int .i64 (N : Int), .agg #[.int .i64 A, .int .i64 B], undef, undef, undef, undef, undef, undef, undef, undef, undef, undef, undef, undef, undef, undef, undef, undef, undef, undef, undef, undef, undef, undef, undef, undef, undef, undef, undef, undef, undef, undef, undef, undef, undef, undef, undef, undef, undef, undef, undef, undef, undef, undef, undef, undef, undef, undef, undef, undef, undef, undef, undef, undef, undef, undef, undef, undef, undef, undef, undef, undef, undef, undef, undef, undef, undef, undef, undef, undef, undef, undef, undef, undef, undef, undef, undef, undef, undef, undef, undef, undef, undef, undef, undef, undef, undef, undef, undef, undef, undef], []⟩ [.code body4]) []) w Post := by
  have h1 : ¬ ((J : Int) < 0) := by omega
  have h2 : ¬ ((256 : Int) < (J : Int)) := by omega
  have h3 : ¬ ((N : Int) < 1) := by omega
  have h4 : ¬ ((64 : Int) < (N : Int)) := by omega
  refine Reach.walk (B := w.heap.size + 1) (n := 30 + (30 + 1)) (Nat.le_add_right _ _) (Stop := fun g w' => w.heap.size + 1 ≤ w'.heap.size ∧ Reach Try.prog Shun g w' Post) ?_ (fun _ _ h => h)
  have hF := atRel_refl w
  refine goL0 (n := 30) (m := 30 + 1) ?_
  rw [body4_eq]
  generalize q0 : S4a = X0
  generalize q1 : S4b = X1
  simp only [S4a, S4b, T4c, T4b, T4, body4, firstC, rightC, findLoop, Try.f4, Option.getD_some] at q0 q1
  subst q0; subst q1
  repeat w_go ar_rely
  refine Goes.stop (fun _ r₁ => ?_)
  replace hF := ar_rely hF r₁
  clear r₁
  refine goL_new (n := 30) (v := fun s => .pointer (some ⟨s, 0, none⟩)) hF rfl rfl (by k_ne) (run_box23 rfl rfl) fun _ hF => ?_
  refine goL0 (n := 30) (m := 0) ?_
  walk_nrm
  repeat w_go ar_rely
  u_in ar_rely hF
  refine goes_call (c := body7) rfl rfl (by k_ne) rfl Try.func7 nm7 fb7 ⟨by u_nil, ?_⟩
  simp only [nt7]
  walk_nrm
  refine Goes.stop (fun _ r₁ => ?_)
  replace hF := ar_rely hF r₁
  clear r₁
  refine Goes.stop (fun w₁ r₁ => ?_)
  replace hF := ar_rely hF r₁
  clear r₁
  have hs1 : w₁.heap.size = w.heap.size + 1 := (at_size hF).trans (size_al _ _)
  refine ⟨by omega, ?_⟩
  refine awakeReach (hS.mono (by omega)) ?_
  intro S2 w2 hA2 hL2 hN2
  have hP2 : w2.heap[w.heap.size]? = some (.cells #[.int .i64 A, .int .i64 B] 23) := by
    rw [hA2.old _ (by omega)]
    obtain ⟨d, rfl⟩ := hF
    exact alloc_at_new _ _
  replace hA2 : Aft w w2 10 := ((Aft.alloc _ _).at hF).trans hA2
  rw [hs1] at hN2
  have hnp2 : ∀ i, ¬ S2 (.cell ⟨w.heap.size, i, none⟩) := fun i => hN2.not (hS.not (Nat.le_refl _)) (by omega)
  replace hN2 := NewS.trans (NewS.refl (Shun := Shun) (s := w.heap.size)) hN2 (by omega)
  clear hF hs1
  have hz2 := hA2.size
  refine Reach.walk (B := w2.heap.size) (n := 90 + (60 + 1)) (Nat.le_refl _) (Stop := fun g w' => w2.heap.size ≤ w'.heap.size ∧ Reach Try.prog S2 g w' Post) ?_ (fun _ _ h => h)
  have hF := atRel_refl w2
  refine goL0 (n := 90) (m := 60 + 1) ?_
  walk_nrm
  repeat w_but "T4" ar_rely
  rw [T4_eq]
  generalize q0 : S4c = X0
  generalize q1 : S4d = X1
  simp only [S4c, S4d, T4c, T4b, T4, body4, firstC, rightC, findLoop, Try.f4, Option.getD_some] at q0 q1
  subst q0; subst q1
  repeat w_go ar_rely
  refine Goes.stop (fun _ r₁ => ?_)
  replace hF := ar_rely hF r₁
  clear r₁
  refine goL_ld23 (n := 60) (p := w.heap.size) hF rfl rfl (by k_ne) rfl rfl loud4 hP2 (evP_cell (hnp2 0) (fun h => h) (show w.heap.size < w2.heap.size by omega)) (evP_cell (hnp2 1) (fun h => h) (show w.heap.size < w2.heap.size by omega)) fun _ hF => ?_
  refine goL0 (n := 60) (m := 0) ?_
  walk_nrm
  repeat w_go ar_rely
  u_in ar_rely hF
  refine goes_call (c := body10) rfl rfl (by k_ne) rfl Try.func10 nm10 fb10 ⟨by u_nil, ?_⟩
  simp only [nt10]
  walk_nrm
  refine Goes.stop (fun _ r₁ => ?_)
  replace hF := ar_rely hF r₁
  clear r₁
  refine Goes.stop (fun w₁ r₁ => ?_)
  replace hF := ar_rely hF r₁
  clear r₁
  have hs1 : w₁.heap.size = w2.heap.size := at_size hF
  refine ⟨by omega, ?_⟩
  refine eachReach (A := A) (B := B) (J := J) (N := N) hJ hM.1 hM.2 (hL2.mono (by omega)) ?_
  intro S3 w3 hA3 hL3 hN3 hR3
  have hrn3 : ∀ i, ¬ S3 (.cell ⟨w2.heap.size + 1, i, none⟩) := fun i h => by
    rcases hN3 _ h with h1 | ⟨ad, e, hb⟩
    · exact hL2.not (by omega) h1
    · cases e; simp at hb; omega
  replace hN3 : NewS S2 S3 w₁.heap.size := fun l hl => (hN3 l hl).imp id fun ⟨ad, e, hb⟩ => ⟨ad, e, by omega⟩
  replace hA3 : Aft w2 w3 8 := ((Aft.refl _).at hF).trans hA3
  clear hF
  rw [hs1] at hN3 hR3 ⊢
  clear hs1
  have hP3 : w3.heap[w.heap.size]? = some (.cells #[.int .i64 A, .int .i64 B] 23) := (hA3.old _ (by omega)).trans hP2
  have hnp3 : ∀ i, ¬ S3 (.cell ⟨w.heap.size, i, none⟩) := fun i => hN3.not (hnp2 i) (by omega)
  have hz3 := hA3.size
  refine Reach.walk (B := w3.heap.size) (n := 90 + (60 + 1)) (Nat.le_refl _) (Stop := fun g w' => w3.heap.size ≤ w'.heap.size ∧ Reach Try.prog S3 g w' Post) ?_ (fun _ _ h => h)
  have hF := atRel_refl w3
  refine goL0 (n := 90) (m := 60 + 1) ?_
  walk_nrm
  repeat w_go ar_rely
  refine Goes.stop (fun _ r₁ => ?_)
  replace hF := ar_rely hF r₁
  clear r₁
  refine goL_ld23 (n := 60) (p := w.heap.size) hF rfl rfl (by k_ne) rfl rfl loud4 hP3 (evP_cell (hnp3 0) (fun h => h) (show w.heap.size < w3.heap.size by omega)) (evP_cell (hnp3 1) (fun h => h) (show w.heap.size < w3.heap.size by omega)) fun _ hF => ?_
  refine goL0 (n := 60) (m := 0) ?_
  walk_nrm
  repeat w_go ar_rely
  u_in ar_rely hF
  refine goes_call (c := body12) rfl rfl (by k_ne) rfl Try.func12 nm12 fb12 ⟨by u_nil, ?_⟩
  simp only [nt12]
  walk_nrm
  refine Goes.stop (fun _ r₁ => ?_)
  replace hF := ar_rely hF r₁
  clear r₁
  refine Goes.stop (fun w₁ r₁ => ?_)
  replace hF := ar_rely hF r₁
  clear r₁
  have hs1 : w₁.heap.size = w3.heap.size := at_size hF
  refine ⟨by omega, ?_⟩
  refine sumReach (A := A) (B := B) (J := J) (N := N) hJ hM.1 hM.2 (hL3.mono (by omega)) ?_
  intro S4 w4 hA4 hL4 hN4
  replace hA4 : Aft w3 w4 8 := ((Aft.refl _).at hF).trans hA4
  clear hF
  rw [hs1] at hN4
  clear hs1
  have hP4 : w4.heap[w.heap.size]? = some (.cells #[.int .i64 A, .int .i64 B] 23) := (hA4.old _ (by omega)).trans hP3
  have hnp4 : ∀ i, ¬ S4 (.cell ⟨w.heap.size, i, none⟩) := fun i => hN4.not (hnp3 i) (by omega)
  have hz4 := hA4.size
  have hrn4 : ∀ i, ¬ S4 (.cell ⟨w2.heap.size + 1, i, none⟩) := fun i => hN4.not (hrn3 i) (by omega)
  replace hR3 := (hA4.old _ (by omega)).trans hR3
  refine Reach.walk (B := w4.heap.size) (n := 90 + (60 + 1)) (Nat.le_refl _) (Stop := fun g w' => w4.heap.size ≤ w'.heap.size ∧ Reach Try.prog S4 g w' Post) ?_ (fun _ _ h => h)
  have hF := atRel_refl w4
  refine goL0 (n := 90) (m := 60 + 1) ?_
  walk_nrm
  repeat w_but "T4b" ar_rely
  rw [T4b_eq]
  generalize q0 : S4e = X0
  simp only [S4e, T4c, T4b, T4, body4, firstC, rightC, findLoop, Try.f4, Option.getD_some] at q0
  subst q0
  repeat w_but "T4c" ar_rely
  rw [T4c_eq]
  generalize q0 : S4f = X0
  generalize q1 : S4g = X1
  simp only [S4f, S4g, T4c, T4b, T4, body4, firstC, rightC, findLoop, Try.f4, Option.getD_some] at q0 q1
  subst q0; subst q1
  repeat w_go ar_rely
  refine Goes.stop (fun _ r₁ => ?_)
  replace hF := ar_rely hF r₁
  clear r₁
  refine goL_ld23 (n := 60) (p := w.heap.size) hF rfl rfl (by k_ne) rfl rfl loud4 hP4 (evP_cell (hnp4 0) (fun h => h) (show w.heap.size < w4.heap.size by omega)) (evP_cell (hnp4 1) (fun h => h) (show w.heap.size < w4.heap.size by omega)) fun _ hF => ?_
  refine goL0 (n := 60) (m := 0) ?_
  walk_nrm
  repeat w_go ar_rely
  u_in ar_rely hF
  refine goes_call (c := body13) rfl rfl (by k_ne) rfl Try.func13 nm13 fb13 ⟨by u_nil, ?_⟩
  simp only [nt13]
  walk_nrm
  refine Goes.stop (fun _ r₁ => ?_)
  replace hF := ar_rely hF r₁
  clear r₁
  refine Goes.stop (fun w₁ r₁ => ?_)
  replace hF := ar_rely hF r₁
  clear r₁
  have hs1 : w₁.heap.size = w4.heap.size := at_size hF
  refine ⟨by omega, ?_⟩
  refine refReach (J := J) hJ (hL4.mono (by omega)) ?_
  intro w5 v hA5 hO5
  replace hA5 : Aft w4 w5 1 := ((Aft.refl _).at hF).trans hA5
  clear hF
  rw [hs1] at hO5
  clear hs1
  have hz5 := hA5.size
  replace hR3 := (hA5.old _ (by omega)).trans hR3
  obtain ⟨pv, cap, g, rfl, hpv, hcl, hg⟩ := own_row hO5
  have hgn : ∀ i, i < J → ¬ S4 (.cell ⟨g, i, none⟩) := fun i hi => hL4.not (by have := hg (by omega); omega)
  have hL5 : LowS S4 w5.heap.size := hL4.mono (by omega)
  refine Reach.walk (B := w5.heap.size) (n := 60 + ((40 + (20 + 100 + 60 * J)) + 60 + 100 * J)) (Nat.le_refl _) (Stop := fun g w' => w5.heap.size ≤ w'.heap.size ∧ Reach Try.prog S4 g w' Post) ?_ (fun _ _ h => h)
  have hF := atRel_refl w5
  refine goL0 (n := 60) (m := (40 + (20 + 100 + 60 * J)) + 60 + 100 * J) ?_
  walk_nrm
  repeat w_but "code.loop" ar_rely
  u_c stepG_loop ar_rely hF
  refine Goes.stop (fun _ r₁ => ?_)
  replace hF := ar_rely hF r₁
  clear r₁
  refine each4Loop (E := EvP S4 NoF w5.heap.size) (R := w2.heap.size + 1) (A := A) (B := B) (J := J) (g := g) (pv := pv) (cap := cap) (m := 40 + (20 + 100 + 60 * J)) hpv hcl (fun i hi => evP_cell (hgn i hi) (fun h => h) (show g < w5.heap.size from (hg (by omega)).2)) (by omega) ?_ J 0 (by omega) _ _ _ _ _ _ _ _ _ _ _ _ _ _ _ _ _ _ _ _ _ _ _ _ _ _ _ _ _ _ _ _ _ _ _ _ _ _ _ _ _ _ _ _ _ _ _ _ _ _ _ _ _ _ _ _ _ _ _ _ _ _ _ _ _ _ _ _ _ _ _ _ _ _ _ _ _ _ _ _ _ _ _ _ _ _ hF
  clear hF
  intro s0 s1 s2 s3 s4 s5 s6 s13 s14 s15 s16 s17 s18 s19 s20 s21 s22 s23 s24 s25 s26 s27 s28 s29 s30 s31 s32 s33 s34 s35 s36 s37 s38 s39 s40 s41 s42 s43 s44 s45 s46 s47 s48 s49 s50 s51 s52 s53 s54 s55 s56 s57 s58 s59 s60 s61 s62 s63 s64 s65 s66 s67 s68 s69 s70 s71 s72 s73 s74 s75 s76 s77 s78 s79 s80 s81 s82 s83 s84 s85 s86 s87 s88 s89 s90 s91 w₁ hF
  have last : ∀ (a : Act) (todo : List Item) (w₂ : World), AtRel w5 w₂ → a.defers = [] → a.tmps.getD 6 undef = .bool true → Goes Try.prog true AtRel (DE (EvP S4 NoF w5.heap.size)) (fun g w' => w5.heap.size ≤ w'.heap.size ∧ Reach Try.prog S4 g w' Post) 0 (G {(base 4).at a todo with mode := .returning} []) w₂ := fun a todo w₂ hF ha ht => by
    refine Goes.stop (fun w₃ r₁ => ?_)
    replace hF := ar_rely hF r₁
    have hs3 : w₃.heap.size = w5.heap.size := at_size hF
    refine ⟨by omega, Reach.done (hend S4 w₃ a todo ?_ (hL5.mono (by omega)) ha ht)⟩
    exact ((((hA2.trans hA3).trans hA4).trans hA5).at hF).mono (Nat.zero_le _)
  refine goL0 (n := 40) (m := 20 + 100 + 60 * J) ?_
  generalize hX : Item.code RR4 = X
  simp only [RR4, T4c, T4b, T4, body4, firstC, rightC, findLoop, Try.f4, Option.getD_some] at hX
  subst hX
  repeat w_go ar_rely
  u_in ar_rely hF
  refine goes_call (c := body14) rfl rfl (by k_ne) rfl Try.func14 nm14 fb14 ⟨by u_nil, ?_⟩
  simp only [nt14]
  walk_nrm
  refine Goes.stop (fun _ r₁ => ?_)
  replace hF := ar_rely hF r₁
  clear r₁
  by_cases hJ0 : 0 < J
  · obtain rfl := hpv hJ0
    refine sameGo (f := doV A B) (n := J) (x := w2.heap.size + 1) (y := g) (m := 20) (fun i hi => rowI_cell hR3 hi) hcl (fun i hi => evP_cell (hrn4 i) (fun h => h) (show w2.heap.size + 1 < w5.heap.size by omega)) (fun i hi => evP_cell (hgn i hi) (fun h => h) (show g < w5.heap.size from (hg (by omega)).2)) (by omega) (fun w₂ hF => ?_) hF
    refine goL0 (n := 20) (m := 0) ?_
    walk_nrm
    repeat w_go ar_rely
    refine Goes.stop (fun _ r₁ => ?_)
    replace hF := ar_rely hF r₁
    clear r₁
    exact last _ _ _ hF rfl rfl
  · obtain rfl : J = 0 := by omega
    refine same0 (m := 20) hF fun w₂ hF => ?_
    refine goL0 (n := 20) (m := 0) ?_
    walk_nrm
    repeat w_go ar_rely
    refine Goes.stop (fun _ r₁ => ?_)
    replace hF := ar_rely hF r₁
    clear r₁
    exact last _ _ _ hF rfl rfl
end
end Go.Proofs.Ytapjmifhhbpikaa

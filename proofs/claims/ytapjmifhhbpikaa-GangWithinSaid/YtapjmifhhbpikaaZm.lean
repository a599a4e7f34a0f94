/- Gangs within gangs: GangWithin beside leavers. (Printed by zm.py.) -/
import Derived.Test.YtapjmifhhbpikaaZj
set_option linter.unusedVariables false
set_option linter.unusedSimpArgs false
namespace Go.Proofs.Ytapjmifhhbpikaa
open Go.Conc Go.ConcN Go.ConcM Go.RowKit Go.Conc.Lib Go.ConcR.Gen
open Go.ConcR (KK wgBlock WgAt stA smA rd wr mk)
noncomputable def body5 : Code := Try.f5.body.getD .skip
noncomputable def T5 : Code := rightC (rightC body5)
noncomputable def T5b : Code := rightC (rightC T5)
noncomputable def S5a : Code := firstC body5
noncomputable def S5b : Code := firstC (rightC body5)
noncomputable def S5c : Code := firstC T5
noncomputable def S5d : Code := firstC (rightC T5)
noncomputable def S5e : Code := firstC T5b
noncomputable def S5f : Code := firstC (firstC (rightC T5b))
noncomputable def LL5 : Code := (findLoop T5b).getD .skip
noncomputable def RR5 : Code := rightC (rightC T5b)
set_option maxRecDepth 100000 in
theorem body5_eq : body5 = .seq S5a (.seq S5b T5) := by
  simp only [S5a, S5b, T5, body5, firstC, rightC, findLoop, Try.f5, Option.getD_some]
set_option maxRecDepth 100000 in
theorem T5_eq : T5 = .seq S5c (.seq S5d T5b) := by
  simp only [S5c, S5d, T5b, T5, body5, firstC, rightC, findLoop, Try.f5, Option.getD_some]
set_option maxRecDepth 100000 in
theorem T5b_eq : T5b = .seq S5e (.seq (.seq S5f (.block 0 (.loop LL5))) RR5) := by
  simp only [S5e, S5f, LL5, RR5, T5b, T5, body5, firstC, rightC, findLoop, Try.f5, Option.getD_some]
theorem fb5 : Try.f5.body = some body5 := by simp only [body5, Try.f5, Option.getD_some]
theorem nt5 : Try.f5.ntmps = 72 := by kernel_rfl
theorem loud5 : (Try.prog.funcs[(base 5).fn]?).any (·.norace) = false := by kernel_rfl
theorem run_alloc3 {a : Act} {o : Oper} (hop : o.op = .alloc 3) (w : World) : (execOp a.eval o).run Try.prog w = .ok (.value (.pointer (some ⟨w.heap.size, 0, none⟩))) (w.alloc (.cells #[.int .i64 0] 3)) ∧ (execOp a.eval o).events Try.prog w #[] = #[] := by
  constructor
  · unfold execOp
    simp only [hop]
    simp [go_sem]
  · unfold execOp
    simp only [hop]
    simp [go_sem]
/-- WHAT STANDS BETWEEN TWO ROUNDS. -/
structure WF (W0 : World) (R Pm Pj n M : Nat) (A B : Int) (Shun : Loc → Prop) (w : World) : Prop where
  low : LowS Shun w.heap.size
  aft : Aft W0 w 0
  old : ∀ k, k < W0.heap.size → w.heap[k]? = W0.heap[k]?
  new : ∀ k, ShB Shun k → W0.heap.size ≤ k
  cm : w.heap[Pm]? = some (.cells #[.int .i64 (M : Int)] 3) ∧ ¬ ShB Shun Pm
  cj : w.heap[Pj]? = some (.cells #[.int .i64 A, .int .i64 B] 23) ∧ ¬ ShB Shun Pj
  cr : w.heap[R]? = some (.cells (rowF (withV A B M) n fun _ => true) 3) ∧ ¬ ShB Shun R
theorem heap_lt {w : World} {k : Nat} {o : Obj} (h : w.heap[k]? = some o) : k < w.heap.size := (Array.getElem?_eq_some_iff.1 h).1
theorem WF.next {W0 w w' : World} {R Pm Pj n M : Nat} {A B : Int} {Shun S' : Loc → Prop} {d : Nat} (h : WF W0 R Pm Pj n M A B Shun w) (hA : Aft w w' d) (hL : LowS S' w'.heap.size) (hN : NewS Shun S' w.heap.size) (hO : Olds Shun w w') : WF W0 R Pm Pj n M A B S' w' := by
  have hs := h.aft.size
  refine ⟨hL, ((h.aft.trans hA).mono (Nat.zero_le _)), fun k hk => (hO k (by omega) fun hb => ?_).trans (h.old k hk), fun k hk => ?_, ⟨(hO _ (heap_lt h.cm.1) h.cm.2).trans h.cm.1, hN.notB h.cm.2 (heap_lt h.cm.1)⟩, ⟨(hO _ (heap_lt h.cj.1) h.cj.2).trans h.cj.1, hN.notB h.cj.2 (heap_lt h.cj.1)⟩, ⟨(hO _ (heap_lt h.cr.1) h.cr.2).trans h.cr.1, hN.notB h.cr.2 (heap_lt h.cr.1)⟩⟩
  · have := h.new k hb; omega
  · rcases hN k hk with h1 | h1
    · exact h.new k h1
    · omega
theorem WF.at {W0 w w' : World} {R Pm Pj n M : Nat} {A B : Int} {Shun : Loc → Prop} (h : WF W0 R Pm Pj n M A B Shun w) (r : AtRel w w') : WF W0 R Pm Pj n M A B Shun w' := by
  obtain ⟨d, rfl⟩ := r
  exact ⟨h.low, ⟨h.aft.size, h.aft.tape, h.aft.output, h.aft.os⟩, h.old, h.new, h.cm, h.cj, h.cr⟩
section
variable {W0 : World} {R Pm Pb Pj n M : Nat} {A B : Int} {Post : (Loc → Prop) → Goroutine → World → Prop}
set_option maxRecDepth 100000 in
set_option maxHeartbeats 64000000 in
/-- The rounds that are left of GangWithin's loop. -/
theorem withinLoop (hn : n ≤ 1000) (hM : M ≤ 256) (hend : ∀ S' w' a todo, WF W0 R Pm Pj n M A B S' w' → a.defers = [] → a.tmps.getD 10 undef = .bool true → Post S' (G {(base 5).at a todo with mode := .returning} []) w') :
    ∀ (r i : Nat), i + r = n → ∀ (Shun : Loc → Prop) (w : World), WF W0 R Pm Pj n M A B Shun w → ∀ (s0 s1 s2 s3 s4 s5 s6 s7 s10 s14 s16 s17 s18 s19 s20 s21 s22 s23 s24 s25 s26 s27 s28 s29 s30 s31 s32 s33 s34 s35 s36 s37 s38 s39 s40 s41 s42 s43 s44 s45 s46 s47 s48 s49 s50 s51 s52 s53 s54 s55 s56 s57 s58 s59 s60 s61 s62 s63 s64 s65 s66 s67 s68 s69 s70 s71 : Value),
      Reach Try.prog Shun (G ((base 5).at ⟨#[s0, s1, s2, s3, s4, s5, s6, s7, .pointer (some ⟨Pb, 0, none⟩), .pointer (some ⟨Pj, 0, none⟩), s10, .int .i64 (n : Int), .pointer (some ⟨Pm, 0, none⟩), .slice (some ⟨R, 0, none⟩) n n, s14, .int .i64 (i : Int), s16, s17, s18, s19, s20, s21, s22, s23, s24, s25, s26, s27, s28, s29, s30, s31, s32, s33, s34, s35, s36, s37, s38, s39, s40, s41, s42, s43, s44, s45, s46, s47, s48, s49, s50, s51, s52, s53, s54, s55, s56, s57, s58, s59, s60, s61, s62, s63, s64, s65, s66, s67, s68, s69, s70, s71], []⟩ [.code LL5, .inLoop LL5, .inBlock 0, .code RR5]) []) w Post := by
  intro r
  induction r with
  | zero =>
    intro i hi Shun w hW s0 s1 s2 s3 s4 s5 s6 s7 s10 s14 s16 s17 s18 s19 s20 s21 s22 s23 s24 s25 s26 s27 s28 s29 s30 s31 s32 s33 s34 s35 s36 s37 s38 s39 s40 s41 s42 s43 s44 s45 s46 s47 s48 s49 s50 s51 s52 s53 s54 s55 s56 s57 s58 s59 s60 s61 s62 s63 s64 s65 s66 s67 s68 s69 s70 s71
    obtain rfl : i = n := by omega
    refine Reach.walk (B := w.heap.size) (n := 60) (Nat.le_refl _) (Stop := fun g w' => w.heap.size ≤ w'.heap.size ∧ Reach Try.prog Shun g w' Post) ?_ (fun _ _ h => h)
    have hF := atRel_refl w
    refine goL0 (n := 60) (m := 0) ?_
    generalize hX : Item.code LL5 = X
    simp only [LL5, T5b, T5, body5, firstC, rightC, findLoop, Try.f5, Option.getD_some] at hX
    subst hX
    have hlt : ¬ ((i : Int) < (i : Int)) := by omega
    repeat w_but "RR5" ar_rely
    generalize hX : Item.code RR5 = X
    simp only [RR5, T5b, T5, body5, firstC, rightC, findLoop, Try.f5, Option.getD_some] at hX
    subst hX
    repeat w_go ar_rely
    refine Goes.stop (fun _ r₁ => ?_)
    replace hF := ar_rely hF r₁
    clear r₁
    refine Goes.stop (fun w₁ r₁ => ?_)
    replace hF := ar_rely hF r₁
    clear r₁
    have hs1 : w₁.heap.size = w.heap.size := at_size hF
    exact ⟨by omega, Reach.done (hend Shun w₁ _ _ (hW.at hF) rfl rfl)⟩
  | succ r ih =>
    intro i hi Shun w hW s0 s1 s2 s3 s4 s5 s6 s7 s10 s14 s16 s17 s18 s19 s20 s21 s22 s23 s24 s25 s26 s27 s28 s29 s30 s31 s32 s33 s34 s35 s36 s37 s38 s39 s40 s41 s42 s43 s44 s45 s46 s47 s48 s49 s50 s51 s52 s53 s54 s55 s56 s57 s58 s59 s60 s61 s62 s63 s64 s65 s66 s67 s68 s69 s70 s71
    have hin : i < n := by omega
    have hlt : ((i : Int) < (n : Int)) := by omega
    have cm : w.cell? ⟨Pm, 0, none⟩ = some (.int .i64 (M : Int)) := by simp [World.cell?, hW.cm.1]
    have c0 : w.cell? ⟨Pj, 0, none⟩ = some (.int .i64 A) := by simp [World.cell?, hW.cj.1]
    have c1 : w.cell? ⟨Pj, 1, none⟩ = some (.int .i64 B) := by simp [World.cell?, hW.cj.1]
    refine Reach.walk (B := w.heap.size) (n := 20 + ((10 + ((10 + ((10 + ((30 + 0) + 1)) + 1)) + 1)) + 1)) (Nat.le_refl _) (Stop := fun g w' => w.heap.size ≤ w'.heap.size ∧ Reach Try.prog Shun g w' Post) ?_ (fun _ _ h => h)
    have hF := atRel_refl w
    refine goL0 (n := 20) (m := (10 + ((10 + ((10 + ((30 + 0) + 1)) + 1)) + 1)) + 1) ?_
    generalize hX : Item.code LL5 = X
    simp only [LL5, T5b, T5, body5, firstC, rightC, findLoop, Try.f5, Option.getD_some] at hX
    subst hX
    repeat w_go ar_rely
    refine Goes.stop (fun _ r₁ => ?_)
    replace hF := ar_rely hF r₁
    clear r₁
    refine goL_ld (n := 10 + ((10 + ((10 + ((30 + 0) + 1)) + 1)) + 1)) (ad := ⟨Pm, 0, none⟩) (v := .int .i64 (M : Int)) hF rfl rfl (by k_ne) rfl (by simp) rfl loud5 cm (evP_cell (fun h => hW.cm.2 (ShB.of h)) (fun h => h) (heap_lt hW.cm.1)) fun _ hF => ?_
    refine goL0 (n := 10) (m := (10 + ((10 + ((30 + 0) + 1)) + 1)) + 1) ?_
    walk_nrm
    repeat w_go ar_rely
    refine Goes.stop (fun _ r₁ => ?_)
    replace hF := ar_rely hF r₁
    clear r₁
    refine goL_ld (n := 10 + ((10 + ((30 + 0) + 1)) + 1)) (ad := ⟨Pj, 0, none⟩) (v := .int .i64 A) hF rfl rfl (by k_ne) rfl (by simp) rfl loud5 c0 (evP_cell (fun h => hW.cj.2 (ShB.of h)) (fun h => h) (heap_lt hW.cj.1)) fun _ hF => ?_
    refine goL0 (n := 10) (m := (10 + ((30 + 0) + 1)) + 1) ?_
    walk_nrm
    repeat w_go ar_rely
    refine Goes.stop (fun _ r₁ => ?_)
    replace hF := ar_rely hF r₁
    clear r₁
    refine goL_ld (n := 10 + ((30 + 0) + 1)) (ad := ⟨Pj, 1, none⟩) (v := .int .i64 B) hF rfl rfl (by k_ne) rfl (by simp) rfl loud5 c1 (evP_cell (fun h => hW.cj.2 (ShB.of h)) (fun h => h) (heap_lt hW.cj.1)) fun _ hF => ?_
    refine goL0 (n := 10) (m := (30 + 0) + 1) ?_
    walk_nrm
    repeat w_go ar_rely
    refine Goes.stop (fun _ r₁ => ?_)
    replace hF := ar_rely hF r₁
    clear r₁
    refine goL_val (n := 30 + 0) hF rfl rfl (by k_ne) (run_build23 rfl rfl rfl) fun _ hF => ?_
    refine goL0 (n := 30) (m := 0) ?_
    walk_nrm
    repeat w_go ar_rely
    u_in ar_rely hF
    refine goes_call (c := body12) rfl rfl (by k_ne) rfl Try.func12 nm12 fb12 ⟨by u_nil, ?_⟩
    simp only [nt12]
    walk_nrm
    refine Goes.stop (fun _ r₁ => ?_)
    replace hF := ar_rely hF r₁
    clear r₁
    refine Goes.stop (fun w₁ r₁ => ?_)
    replace hF := ar_rely hF r₁
    clear r₁
    have hs1 : w₁.heap.size = w.heap.size := at_size hF
    refine ⟨by omega, ?_⟩
    have hW1 := hW.at hF
    clear hF
    refine sumReach (A := IntKind.i64.wrap (A + (i : Int))) (B := B) (J := M) (N := 1) hM (Nat.le_refl _) (by omega) hW1.low ?_
    intro S' w' hA hL hN hO
    have hW' := hW1.next hA hL hN hO
    clear hW hW1 hs1 hA hL hN hO cm c0 c1
    have cr : w'.cell? ⟨R, i, none⟩ = some (.int .i64 (accD (IntKind.i64.wrap (A + (i : Int))) B M)) := rowF_cell hW'.cr.1 hin
    refine Reach.walk (B := w'.heap.size) (n := 60 + ((50 + 0) + 1)) (Nat.le_refl _) (Stop := fun g w'' => w'.heap.size ≤ w''.heap.size ∧ Reach Try.prog S' g w'' Post) ?_ (fun _ _ h => h)
    have hF := atRel_refl w'
    refine goL0 (n := 60) (m := (50 + 0) + 1) ?_
    walk_nrm
    repeat w_go ar_rely
    refine Goes.stop (fun _ r₁ => ?_)
    replace hF := ar_rely hF r₁
    clear r₁
    refine goL_ld (n := 50 + 0) (ad := ⟨R, i, none⟩) (v := .int .i64 (accD (IntKind.i64.wrap (A + (i : Int))) B M)) hF rfl rfl (by k_ne) rfl (by simp) rfl loud5 cr (evP_cell (fun h => hW'.cr.2 (ShB.of h)) (fun h => h) (heap_lt hW'.cr.1)) fun _ hF => ?_
    refine goL0 (n := 50) (m := 0) ?_
    have wi : IntKind.i64.wrap ((i : Int) + 1) = ((i + 1 : Nat) : Int) := by rw [IntKind.wrap_i64]; omega
    walk_nrm
    repeat w_nl ar_rely
    u_c stepG_inLoop ar_rely hF
    refine Goes.stop (fun _ r₁ => ?_)
    replace hF := ar_rely hF r₁
    clear r₁
    refine Goes.stop (fun w₂ r₁ => ?_)
    replace hF := ar_rely hF r₁
    clear r₁
    have hs2 : w₂.heap.size = w'.heap.size := at_size hF
    exact ⟨by omega, ih (i + 1) (by omega) S' w₂ (hW'.at hF) _ _ _ _ _ _ _ _ _ _ _ _ _ _ _ _ _ _ _ _ _ _ _ _ _ _ _ _ _ _ _ _ _ _ _ _ _ _ _ _ _ _ _ _ _ _ _ _ _ _ _ _ _ _ _ _ _ _ _ _ _ _ _ _ _ _⟩
end
section
set_option maxRecDepth 100000 in
set_option maxHeartbeats 64000000 in
/-- ████ GangWithin. ████ -/
theorem withinReach {x0 x1 x2 x3 n M N N3 : Nat} {A B : Int} (e0 : IntKind.i64.wrap ((x0 : Int).tmod 12) = (n : Int)) (e1 : IntKind.i64.wrap ((x1 : Int).tmod 12) = (M : Int)) (e2 : IntKind.i64.wrap (1 + IntKind.i64.wrap ((x2 : Int).tmod 8)) = (N : Int)) (e3 : IntKind.i64.wrap (1 + IntKind.i64.wrap ((x3 : Int).tmod 8)) = (N3 : Int)) (hn : n ≤ 256) (hM : M ≤ 256) (hN : 1 ≤ N ∧ N ≤ 64) (hN3 : 1 ≤ N3 ∧ N3 ≤ 64) {w : World} {Post : (Loc → Prop) → Goroutine → World → Prop}
    (hend : ∀ S' w' a todo, Aft w w' 0 → (∀ k, k < w.heap.size → w'.heap[k]? = w.heap[k]?) → LowS S' w'.heap.size → a.defers = [] → a.tmps.getD 10 undef = .bool true → Post S' (G {(base 5).at a todo with mode := .returning} []) w') :
    Reach Try.prog (fun _ => False) (G ((base 5).at ⟨#[.int .u8 (x0 : Int), .int .u8 (x1 : Int), .int .u8 (x2 : Int), .int .u8 (x3 : Int), .agg #[.int .i64 A, .int .i64 B], undef, undef, undef, undef, undef, undef, undef, undef, undef, undef, undef, undef, undef, undef, undef, undef, undef, undef, undef, undef, undef, undef, undef, undef, undef, undef, undef, undef, undef, undef, undef, undef, undef, undef, undef, undef, undef, undef, undef, undef, undef, undef, undef, undef, undef, undef, undef, undef, undef, undef, undef, undef, undef, undef, undef, undef, undef, undef, undef, undef, undef, undef, undef, undef, undef, undef, undef], []⟩ [.code body5]) []) w Post := by
  refine Reach.walk (B := w.heap.size + 2) (n := 30 + ((10 + (30 + 1)) + 1)) (Nat.le_add_right _ _) (Stop := fun g w' => w.heap.size + 2 ≤ w'.heap.size ∧ Reach Try.prog (fun _ => False) g w' Post) ?_ (fun _ _ h => h)
  have hF := atRel_refl w
  refine goL0 (n := 30) (m := (10 + (30 + 1)) + 1) ?_
  rw [body5_eq]
  generalize q0 : S5a = X0
  generalize q1 : S5b = X1
  simp only [S5a, S5b, body5, firstC, rightC, Try.f5, Option.getD_some] at q0 q1
  subst q0; subst q1
  repeat w_go ar_rely
  refine Goes.stop (fun _ r₁ => ?_)
  replace hF := ar_rely hF r₁
  clear r₁
  refine goL_new (n := 10 + (30 + 1)) (v := fun s => .pointer (some ⟨s, 0, none⟩)) hF rfl rfl (by k_ne) (run_box (v := .int .u8 (x3 : Int)) rfl rfl (.inr ⟨rfl, _, rfl⟩)) fun _ hF => ?_
  refine goL0 (n := 10) (m := 30 + 1) ?_
  walk_nrm
  repeat w_go ar_rely
  refine Goes.stop (fun _ r₁ => ?_)
  replace hF := ar_rely hF r₁
  clear r₁
  refine goL_new (n := 30) (v := fun s => .pointer (some ⟨s, 0, none⟩)) hF rfl rfl (by k_ne) (run_box23 rfl rfl) fun _ hF => ?_
  simp only [size_al]
  refine goL0 (n := 30) (m := 0) ?_
  walk_nrm
  repeat w_go ar_rely
  u_in ar_rely hF
  refine goes_call (c := body7) rfl rfl (by k_ne) rfl Try.func7 nm7 fb7 ⟨by u_nil, ?_⟩
  simp only [nt7]
  walk_nrm
  refine Goes.stop (fun _ r₁ => ?_)
  replace hF := ar_rely hF r₁
  clear r₁
  refine Goes.stop (fun w₁ r₁ => ?_)
  replace hF := ar_rely hF r₁
  clear r₁
  have hs1 : w₁.heap.size = w.heap.size + 2 := (at_size hF).trans (by simp only [size_al])
  refine ⟨by omega, ?_⟩
  have hb1 : w₁.heap[w.heap.size]? = some (.cells #[.int .u8 (x3 : Int)] 5) := by
    obtain ⟨d, rfl⟩ := hF
    show ((w.alloc _).alloc _).heap[_]? = _
    rw [alloc_old (by simp only [size_al]; omega), alloc_at_new]
  have hj1 : w₁.heap[w.heap.size + 1]? = some (.cells #[.int .i64 A, .int .i64 B] 23) := by
    obtain ⟨d, rfl⟩ := hF
    show ((w.alloc _).alloc _).heap[_]? = _
    exact new_at (by simp only [size_al])
  have ho1 : ∀ k, k < w.heap.size → w₁.heap[k]? = w.heap[k]? := fun k hk => by
    obtain ⟨d, rfl⟩ := hF
    show ((w.alloc _).alloc _).heap[_]? = _
    rw [alloc_old (by simp only [size_al]; omega), alloc_old hk]
  have hA1 : Aft w w₁ 2 := ((Aft.alloc _ _).trans (Aft.alloc _ _)).at hF
  clear hF
  have no0 : ∀ k, ¬ ShB (fun _ => False) k := fun k ⟨l, _, h⟩ => h
  refine awakeReach (fun l h => h.elim) ?_
  intro S2 w2 hA2 hL2 hN2 hO2
  have hb2 := (hO2 _ (heap_lt hb1) (no0 _)).trans hb1
  have hj2 := (hO2 _ (heap_lt hj1) (no0 _)).trans hj1
  have ho2 : ∀ k, k < w.heap.size → w2.heap[k]? = w.heap[k]? := fun k hk => (hO2 k (by omega) (no0 _)).trans (ho1 k hk)
  have nb2 : ∀ k, ShB S2 k → w.heap.size + 2 ≤ k := fun k hk => by
    rcases hN2 k hk with h | h
    · exact absurd h (no0 _)
    · omega
  replace hA2 := hA1.trans hA2
  have hz2 := hA2.size
  clear hs1 hb1 hj1 ho1 hA1 hO2 hN2
  refine Reach.walk (B := w2.heap.size + 1) (n := 60 + ((30 + ((60 + 0) + 1)) + 1)) (Nat.le_add_right _ _) (Stop := fun g w' => w2.heap.size + 1 ≤ w'.heap.size ∧ Reach Try.prog S2 g w' Post) ?_ (fun _ _ h => h)
  have hF := atRel_refl w2
  refine goL0 (n := 60) (m := (30 + ((60 + 0) + 1)) + 1) ?_
  walk_nrm
  repeat w_but "T5" ar_rely
  rw [T5_eq]
  generalize q0 : S5c = X0
  generalize q1 : S5d = X1
  simp only [S5c, S5d, T5b, T5, body5, firstC, rightC, Try.f5, Option.getD_some] at q0 q1
  subst q0; subst q1
  repeat w_go ar_rely
  refine Goes.stop (fun _ r₁ => ?_)
  replace hF := ar_rely hF r₁
  clear r₁
  refine goL_new (n := 30 + ((60 + 0) + 1)) (v := fun s => .pointer (some ⟨s, 0, none⟩)) hF rfl rfl (by k_ne) (run_alloc3 rfl) fun _ hF => ?_
  refine goL0 (n := 30) (m := (60 + 0) + 1) ?_
  walk_nrm
  repeat w_go ar_rely
  refine Goes.stop (fun _ r₁ => ?_)
  replace hF := ar_rely hF r₁
  clear r₁
  refine goL_st (n := 60 + 0) (ad := ⟨w2.heap.size, 0, none⟩) (v := .int .i64 (M : Int)) hF rfl rfl (by k_ne) rfl (fun w' hc hz => run_st (ad := ⟨w2.heap.size, 0, none⟩) (v := .int .i64 (M : Int)) rfl rfl rfl (.inr (.inr ⟨rfl, _, rfl⟩)) w' (hc.trans (cell_new rfl).1) (hz.trans (cell_new rfl).2)) loud5 (evP_cell (hL2.not (Nat.le_refl _)) (fun h => h) (Nat.lt_succ_self _)) fun _ hF => ?_
  rw [setCell_new2 rfl] at hF
  refine goL0 (n := 60) (m := 0) ?_
  walk_nrm
  repeat w_go ar_rely
  u_in ar_rely hF
  refine goes_call (c := body10) rfl rfl (by k_ne) rfl Try.func10 nm10 fb10 ⟨by u_nil, ?_⟩
  simp only [nt10]
  walk_nrm
  refine Goes.stop (fun _ r₁ => ?_)
  replace hF := ar_rely hF r₁
  clear r₁
  refine Goes.stop (fun w₁ r₁ => ?_)
  replace hF := ar_rely hF r₁
  clear r₁
  have hs1 : w₁.heap.size = w2.heap.size + 1 := (at_size hF).trans (by simp only [size_al])
  refine ⟨by omega, ?_⟩
  have same : ∀ k, k < w2.heap.size → w₁.heap[k]? = w2.heap[k]? := fun k hk => by
    obtain ⟨d, rfl⟩ := hF
    show (w2.alloc _).heap[_]? = _
    exact alloc_old hk
  have hm1 : w₁.heap[w2.heap.size]? = some (.cells #[.int .i64 (M : Int)] 3) := by
    obtain ⟨d, rfl⟩ := hF
    show (w2.alloc _).heap[_]? = _
    exact alloc_at_new _ _
  have hb1 := (same _ (heap_lt hb2)).trans hb2
  have hj1 := (same _ (heap_lt hj2)).trans hj2
  have ho1 : ∀ k, k < w.heap.size → w₁.heap[k]? = w.heap[k]? := fun k hk => (same k (by omega)).trans (ho2 k hk)
  have hA1 : Aft w w₁ 12 := hA2.trans ((Aft.alloc _ _).at hF)
  clear hF same hb2 hj2 ho2 hA2
  have nm : ¬ ShB S2 w2.heap.size := hL2.notB (Nat.le_refl _)
  have nb : ¬ ShB S2 w.heap.size := fun h => by have := nb2 _ h; omega
  have nj : ¬ ShB S2 (w.heap.size + 1) := fun h => by have := nb2 _ h; omega
  have hL1 : LowS S2 w₁.heap.size := hL2.mono (by omega)
  have h9 : 9 ≤ 1000 := by omega
  have stl : ∀ k, k < w₁.heap.size → ¬ ShB S2 k → Still (bandI (withV A B M) n N 9 w₁.heap.size true S2 hN.1 hN.2 h9) k := fun k hk hs => ⟨by show k < w₁.heap.size + 8; omega, by show k ≠ w₁.heap.size + 3; omega, by show k ≠ w₁.heap.size + 7; omega, by show k ≠ w₁.heap.size + 5; omega, by show k ≠ w₁.heap.size + 1; omega, hs⟩
  refine eachReach (f := withV A B M) (J := n) (N := N) (nb := 9) (deep := true) hn hN.1 hN.2 h9 hL1 (fun Fa _ b₁ a₁ ops₁ i₁ rest₁ k₁ cs₁ j hj k v hT w hF => each1Within (pm := w2.heap.size) (pb := _) (pj := _) (M := M) (x3 := x3) (N := N3) (A := A) (B := B) (bandEnv hL1)
    ⟨stl _ (heap_lt hm1) nm, stl _ (heap_lt hb1) nb, stl _ (heap_lt hj1) nj, ?_, ?_, ?_, ?_⟩ rfl hM hN3.1 hN3.2 e3 rfl rfl j hj (fun _ => rfl) k v hT w hF) ?_
  · simp [World.cell?, W10_old (heap_lt hm1), hm1]
  · simp [World.cell?, W10_old (heap_lt hb1), hb1]
  · simp [World.cell?, W10_old (heap_lt hj1), hj1]
  · simp [World.cell?, W10_old (heap_lt hj1), hj1]
  intro S3 w3 hA3 hL3 hN3' hO3 hrow
  have nrow : ¬ ShB S3 (w₁.heap.size + 1) := fun h => by
    rcases hN3' _ h with h | h | h | h
    · exact hL1.notB (by omega) h
    · omega
    · omega
    · omega
  have hNS : NewS S2 S3 w₁.heap.size := fun k hk => by
    rcases hN3' k hk with h | h | h | h
    · exact .inl h
    · exact .inr (by omega)
    · exact .inr (by omega)
    · exact .inr (by omega)
  have hsz := hA1.size
  have hW3 : WF w (w₁.heap.size + 1) w2.heap.size (w.heap.size + 1) n M A B S3 w3 := by
    refine ⟨hL3, (hA1.trans hA3).mono (Nat.zero_le _), fun k hk => (hO3 k (by omega) fun h => ?_).trans (ho1 k hk), fun k hk => ?_, ⟨(hO3 _ (heap_lt hm1) nm).trans hm1, hNS.notB nm (heap_lt hm1)⟩, ⟨(hO3 _ (heap_lt hj1) nj).trans hj1, hNS.notB nj (heap_lt hj1)⟩, ⟨hrow, nrow⟩⟩
    · have := nb2 k h; omega
    · rcases hNS k hk with h | h
      · have := nb2 k h; omega
      · omega
  clear hA3 hL3 hN3' hO3 hrow nrow hNS stl hm1 hb1 hj1 ho1 hA1 nm nb nj hL1 nb2 hL2
  refine Reach.walk (B := w3.heap.size) (n := 90 + 0) (Nat.le_refl _) (Stop := fun g w' => w3.heap.size ≤ w'.heap.size ∧ Reach Try.prog S3 g w' Post) ?_ (fun _ _ h => h)
  have hF := atRel_refl w3
  refine goL0 (n := 90) (m := 0) ?_
  walk_nrm
  repeat w_but "T5b" ar_rely
  rw [T5b_eq]
  generalize q0 : S5e = X0
  generalize q1 : S5f = X1
  simp only [S5e, S5f, T5b, T5, body5, firstC, rightC, Try.f5, Option.getD_some] at q0 q1
  subst q0; subst q1
  repeat w_but "code.loop" ar_rely
  u_c stepG_loop ar_rely hF
  refine Goes.stop (fun _ r₁ => ?_)
  replace hF := ar_rely hF r₁
  clear r₁
  refine Goes.stop (fun w₂ r₁ => ?_)
  replace hF := ar_rely hF r₁
  clear r₁
  have hs2 : w₂.heap.size = w3.heap.size := at_size hF
  refine ⟨by omega, ?_⟩
  rw [hs1] at hW3
  exact withinLoop (W0 := w) (Pb := w.heap.size) (by omega) hM (fun S' w' a todo hW hd ht => hend S' w' a todo hW.aft hW.old hW.low hd ht) n 0 (by omega) S3 w₂ (hW3.at hF) _ _ _ _ _ _ _ _ _ _ _ _ _ _ _ _ _ _ _ _ _ _ _ _ _ _ _ _ _ _ _ _ _ _ _ _ _ _ _ _ _ _ _ _ _ _ _ _ _ _ _ _ _ _ _ _ _ _ _ _ _ _ _ _ _ _
end
end Go.Proofs.Ytapjmifhhbpikaa

/- The gang, in a row: GangSums beside leavers: to its loop. (Printed by hi.py.) -/
import Derived.Test.YtapjmifhhbpikaaHh
set_option linter.unusedVariables false
set_option linter.unusedSimpArgs false
namespace Go.Proofs.Ytapjmifhhbpikaa
open Go.Conc Go.ConcN Go.ConcM Go.RowKit Go.Conc.Lib Go.ConcR.Gen
open Go.ConcR (KK wgBlock WgAt stA smA rd wr mk)
noncomputable def body6 : Code := Try.f6.body.getD .skip
noncomputable def T6 : Code := rightC (rightC body6)
noncomputable def T6b : Code := rightC (rightC T6)
noncomputable def T6c : Code := rightC T6b
noncomputable def T6d : Code := rightC T6c
noncomputable def T6e : Code := rightC T6d
noncomputable def S6a : Code := firstC body6
noncomputable def S6b : Code := firstC (rightC body6)
noncomputable def S6c : Code := firstC T6
noncomputable def S6d : Code := firstC (rightC T6)
noncomputable def S6e : Code := firstC T6b
noncomputable def S6f : Code := firstC T6c
noncomputable def S6g : Code := firstC T6d
noncomputable def S6h : Code := firstC T6e
noncomputable def S6i : Code := firstC (firstC (rightC T6e))
noncomputable def LL6 : Code := (findLoop T6e).getD .skip
noncomputable def RR6 : Code := rightC (rightC T6e)
set_option maxRecDepth 100000 in
theorem body6_eq : body6 = .seq S6a (.seq S6b T6) := by
  simp only [S6a, S6b, T6, body6, firstC, rightC, findLoop, Try.f6, Option.getD_some]
set_option maxRecDepth 100000 in
theorem T6_eq : T6 = .seq S6c (.seq S6d T6b) := by
  simp only [S6c, S6d, T6b, T6, body6, firstC, rightC, findLoop, Try.f6, Option.getD_some]
set_option maxRecDepth 100000 in
theorem T6b_eq : T6b = .seq S6e T6c := by
  simp only [S6e, T6c, T6b, T6, body6, firstC, rightC, findLoop, Try.f6, Option.getD_some]
set_option maxRecDepth 100000 in
theorem T6c_eq : T6c = .seq S6f T6d := by
  simp only [S6f, T6d, T6c, T6b, T6, body6, firstC, rightC, findLoop, Try.f6, Option.getD_some]
set_option maxRecDepth 100000 in
theorem T6d_eq : T6d = .seq S6g T6e := by
  simp only [S6g, T6e, T6d, T6c, T6b, T6, body6, firstC, rightC, findLoop, Try.f6, Option.getD_some]
set_option maxRecDepth 100000 in
theorem T6e_eq : T6e = .seq S6h (.seq (.seq S6i (.block 0 (.loop LL6))) RR6) := by
  simp only [S6h, S6i, LL6, RR6, T6e, T6d, T6c, T6b, T6, body6, firstC, rightC, findLoop, Try.f6, Option.getD_some]
theorem fb6 : Try.f6.body = some body6 := by simp only [body6, Try.f6, Option.getD_some]
theorem nt6 : Try.f6.ntmps = 116 := by kernel_rfl
theorem loud6 : (Try.prog.funcs[(base 6).fn]?).any (·.norace) = false := by kernel_rfl
section
variable {E : Event → Prop} {Stop : Goroutine → World → Prop} {n : Nat} {b : Frame} {a : Act} {kk : List Item} {cs : List Frame} {W w : World} {ops : Array Oper} {i : Nat} {rest : List Nat} {o : Oper}
theorem run_ld23 {w : World} {x : Operand} {p : Nat} {A B : Value} (hop : o.op = .load 23 x) (hx : a.eval x = .pointer (some ⟨p, 0, none⟩)) (h0 : w.heap[p]? = some (.cells #[A, B] 23)) :
    (execOp a.eval o).run Try.prog w = .ok (.value (.agg #[A, B])) w ∧ (execOp a.eval o).events Try.prog w #[] = #[⟨.cell ⟨p, 0, none⟩, false, false⟩, ⟨.cell ⟨p, 1, none⟩, false, false⟩] := by
  constructor
  · unfold execOp
    simp only [hop, hx]
    simp [go_sem, World.cell?, h0]
  · unfold execOp
    simp only [hop, hx]
    simp [go_sem, World.cell?, h0]
/-- A LOAD OF A STRUCT of two cells. -/
theorem goL_ld23 {x : Operand} {p : Nat} {A B : Value} (hF : AtRel W w) (ho : ops[i]? = some o) (hw : Region.wanted o (yielded ops a.tmps) = true) (hk : b.kind ≠ .early) (hop : o.op = .load 23 x) (hx : a.eval x = .pointer (some ⟨p, 0, none⟩)) (hq : (Try.prog.funcs[b.fn]?).any (·.norace) = false)
    (h0 : W.heap[p]? = some (.cells #[A, B] 23)) (e0 : E ⟨.cell ⟨p, 0, none⟩, false, false⟩) (e1 : E ⟨.cell ⟨p, 1, none⟩, false, false⟩)
    (hgo : ∀ w₁, AtRel W w₁ → Goes Try.prog true AtRel (DE E) Stop n (G (b.at (a.put o.dst (.agg #[A, B])) (.inRegion ops rest :: kk)) cs) w₁) : Goes Try.prog true AtRel (DE E) Stop (n + 1) (G (b.at a (.inRegion ops (i :: rest) :: kk)) cs) w := by
  refine Goes.step rfl fun w₁ r => ?_
  obtain ⟨d, rfl⟩ := ar_rely hF r
  have hr := run_ld23 (w := W.at d) hop hx h0
  rw [stepG_value ho hw hk hr.1]
  unfold listed
  rw [hr.2, seen_eq hq (by simp)]
  simp only [goes_go]
  exact ⟨fun e he => by simp at he; rcases he with rfl | rfl <;> assumption, hgo _ ⟨d, rfl⟩⟩
end
/-- The sum of those from p on. -/
def accT (A B : Int) (p : Nat) : Nat → Int
  | 0 => 0
  | k + 1 => if p ≤ k then IntKind.i64.wrap (accT A B p k + doV A B k) else accT A B p k
theorem accT_low {A B : Int} {p : Nat} : ∀ {k : Nat}, k ≤ p → accT A B p k = 0
  | 0, _ => rfl
  | k + 1, h => by rw [accT, if_neg (by omega)]; exact accT_low (by omega)
theorem accD_wrap {A B : Int} : ∀ k, IntKind.i64.wrap (accD A B k) = accD A B k
  | 0 => by simp [accD, IntKind.wrap_i64]
  | k + 1 => by rw [accD, IntKind.wrap_i64, IntKind.wrap_i64]; omega
theorem accD_split {A B : Int} {p : Nat} : ∀ {k : Nat}, p ≤ k → IntKind.i64.wrap (accD A B p + accT A B p k) = accD A B k := by
  intro k h
  induction k with
  | zero =>
    obtain rfl : p = 0 := by omega
    rw [accT_low (Nat.le_refl _), Int.add_zero, accD_wrap]
  | succ k ih =>
    by_cases hk : p ≤ k
    · have := ih hk
      rw [accT, if_pos hk, accD, ← this]
      simp only [IntKind.wrap_i64]
      omega
    · obtain rfl : p = k + 1 := by omega
      rw [accT_low (Nat.le_refl _), Int.add_zero, accD_wrap]
section
variable {E : Event → Prop} {W : World} {R J p : Nat} {A B : Int} {Stop : Goroutine → World → Prop} {m : Nat}
set_option maxRecDepth 100000 in
set_option maxHeartbeats 16000000 in
/-- The rounds that are left of GangSums's loop. -/
theorem sumsLoop (hx : ∀ i, i < J → W.cell? ⟨R, i, none⟩ = some (.int .i64 (doV A B i))) (ex : ∀ i, i < J → E ⟨.cell ⟨R, i, none⟩, false, false⟩) (hn : J ≤ 1000) (hp : p ≤ J)
    (hgo : ∀ w₁ a todo, AtRel W w₁ → a.defers = [] → a.tmps.getD 10 undef = .bool true → Goes Try.prog true AtRel (DE E) Stop m (G {(base 6).at a todo with mode := .returning} []) w₁) :
    ∀ (r i : Nat), i + r = J → ∀ (s0 s1 s2 s3 s4 s5 s6 s7 s8 s9 s10 s12 s14 s16 s18 s22 s23 s24 s25 s26 s27 s28 s29 s30 s31 s32 s33 s34 s35 s36 s37 s38 s39 s40 s41 s42 s43 s44 s45 s46 s47 s48 s49 s50 s51 s52 s53 s54 s55 s56 s57 s58 s59 s60 s61 s62 s63 s64 s65 s66 s67 s68 s69 s70 s71 s72 s73 s74 s75 s76 s77 s78 s79 s80 s81 s82 s83 s84 s85 s86 s87 s88 s89 s90 s91 s92 s93 s94 s95 s96 s97 s98 s99 s100 s101 s102 s103 s104 s105 s106 s107 s108 s109 s110 s111 s112 s113 s114 s115 : Value) (w : World), AtRel W w →
      Goes Try.prog true AtRel (DE E) Stop (m + 60 + 100 * r) (G ((base 6).at ⟨#[s0, s1, s2, s3, s4, s5, s6, s7, s8, s9, s10, .int .i64 (p : Int), s12, .slice (some ⟨R, 0, none⟩) J J, s14, .int .i64 (accD A B J), s16, .int .i64 (accD A B p), s18, .int .i64 (accD A B i), .int .i64 (accT A B p i), .int .i64 (i : Int), s22, s23, s24, s25, s26, s27, s28, s29, s30, s31, s32, s33, s34, s35, s36, s37, s38, s39, s40, s41, s42, s43, s44, s45, s46, s47, s48, s49, s50, s51, s52, s53, s54, s55, s56, s57, s58, s59, s60, s61, s62, s63, s64, s65, s66, s67, s68, s69, s70, s71, s72, s73, s74, s75, s76, s77, s78, s79, s80, s81, s82, s83, s84, s85, s86, s87, s88, s89, s90, s91, s92, s93, s94, s95, s96, s97, s98, s99, s100, s101, s102, s103, s104, s105, s106, s107, s108, s109, s110, s111, s112, s113, s114, s115], []⟩ [.code LL6, .inLoop LL6, .inBlock 0, .code RR6]) []) w := by
  intro r
  induction r with
  | zero =>
    intro i hi s0 s1 s2 s3 s4 s5 s6 s7 s8 s9 s10 s12 s14 s16 s18 s22 s23 s24 s25 s26 s27 s28 s29 s30 s31 s32 s33 s34 s35 s36 s37 s38 s39 s40 s41 s42 s43 s44 s45 s46 s47 s48 s49 s50 s51 s52 s53 s54 s55 s56 s57 s58 s59 s60 s61 s62 s63 s64 s65 s66 s67 s68 s69 s70 s71 s72 s73 s74 s75 s76 s77 s78 s79 s80 s81 s82 s83 s84 s85 s86 s87 s88 s89 s90 s91 s92 s93 s94 s95 s96 s97 s98 s99 s100 s101 s102 s103 s104 s105 s106 s107 s108 s109 s110 s111 s112 s113 s114 s115 w hF
    rw [show m + 60 + 100 * 0 = 60 + m by omega]
    obtain rfl : i = J := by omega
    refine goL0 (n := 60) (m := m) ?_
    generalize hX : Item.code LL6 = X
    simp only [LL6, T6e, T6d, T6c, T6b, T6, body6, firstC, rightC, findLoop, Try.f6, Option.getD_some] at hX
    subst hX
    have hlt : ¬ ((i : Int) < (i : Int)) := by omega
    have eT := accD_split (A := A) (B := B) hp
    repeat w_but "RR6" ar_rely
    generalize hX : Item.code RR6 = X
    simp only [RR6, T6e, T6d, T6c, T6b, T6, body6, firstC, rightC, findLoop, Try.f6, Option.getD_some] at hX
    subst hX
    repeat w_go ar_rely
    refine Goes.stop (fun _ r₁ => ?_)
    replace hF := ar_rely hF r₁
    clear r₁
    exact hgo _ _ _ hF rfl rfl
  | succ r ih =>
    intro i hi s0 s1 s2 s3 s4 s5 s6 s7 s8 s9 s10 s12 s14 s16 s18 s22 s23 s24 s25 s26 s27 s28 s29 s30 s31 s32 s33 s34 s35 s36 s37 s38 s39 s40 s41 s42 s43 s44 s45 s46 s47 s48 s49 s50 s51 s52 s53 s54 s55 s56 s57 s58 s59 s60 s61 s62 s63 s64 s65 s66 s67 s68 s69 s70 s71 s72 s73 s74 s75 s76 s77 s78 s79 s80 s81 s82 s83 s84 s85 s86 s87 s88 s89 s90 s91 s92 s93 s94 s95 s96 s97 s98 s99 s100 s101 s102 s103 s104 s105 s106 s107 s108 s109 s110 s111 s112 s113 s114 s115 w hF
    have hin : i < J := by omega
    have hlt : ((i : Int) < (J : Int)) := by omega
    rw [show m + 60 + 100 * (r + 1) = 20 + ((30 + ((48 + (m + 60 + 100 * r)) + 1)) + 1) by omega]
    refine goL0 (n := 20) (m := (30 + ((48 + (m + 60 + 100 * r)) + 1)) + 1) ?_
    generalize hX : Item.code LL6 = X
    simp only [LL6, T6e, T6d, T6c, T6b, T6, body6, firstC, rightC, findLoop, Try.f6, Option.getD_some] at hX
    subst hX
    repeat w_go ar_rely
    refine Goes.stop (fun _ r₁ => ?_)
    replace hF := ar_rely hF r₁
    clear r₁
    have wi : IntKind.i64.wrap ((i : Int) + 1) = ((i + 1 : Nat) : Int) := by rw [IntKind.wrap_i64]; omega
    have wa : IntKind.i64.wrap (accD A B i + doV A B i) = accD A B (i + 1) := rfl
    refine goL_ld (n := 30 + ((48 + (m + 60 + 100 * r)) + 1)) (ad := ⟨R, i, none⟩) (v := .int .i64 (doV A B i)) hF rfl rfl (by k_ne) rfl (by simp) rfl loud6 (hx i hin) (ex i hin) fun _ hF => ?_
    by_cases hpi : p ≤ i
    · have wt : IntKind.i64.wrap (accT A B p i + doV A B i) = accT A B p (i + 1) := by rw [accT, if_pos hpi]
      have hge : (p : Int) ≤ (i : Int) := by omega
      refine goL0 (n := 30) (m := (48 + (m + 60 + 100 * r)) + 1) ?_
      walk_nrm
      repeat w_go ar_rely
      refine Goes.stop (fun _ r₁ => ?_)
      replace hF := ar_rely hF r₁
      clear r₁
      refine goL_ld (n := 48 + (m + 60 + 100 * r)) (ad := ⟨R, i, none⟩) (v := .int .i64 (doV A B i)) hF rfl rfl (by k_ne) rfl (by simp) rfl loud6 (hx i hin) (ex i hin) fun _ hF => ?_
      refine goL0 (n := 48) (m := m + 60 + 100 * r) ?_
      walk_nrm
      repeat w_nl ar_rely
      u_c stepG_inLoop ar_rely hF
      refine Goes.stop (fun _ r₁ => ?_)
      replace hF := ar_rely hF r₁
      clear r₁
      exact ih (i + 1) (by omega) _ _ _ _ _ _ _ _ _ _ _ _ _ _ _ _ _ _ _ _ _ _ _ _ _ _ _ _ _ _ _ _ _ _ _ _ _ _ _ _ _ _ _ _ _ _ _ _ _ _ _ _ _ _ _ _ _ _ _ _ _ _ _ _ _ _ _ _ _ _ _ _ _ _ _ _ _ _ _ _ _ _ _ _ _ _ _ _ _ _ _ _ _ _ _ _ _ _ _ _ _ _ _ _ _ _ _ _ _ _ hF
    · have wt : accT A B p (i + 1) = accT A B p i := by rw [accT, if_neg hpi]
      have hge : ¬ (p : Int) ≤ (i : Int) := by omega
      rw [show 30 + (48 + (m + 60 + 100 * r) + 1) = 79 + (m + 60 + 100 * r) by omega]
      refine goL0 (n := 79) (m := m + 60 + 100 * r) ?_
      walk_nrm
      repeat w_nl ar_rely
      u_c stepG_inLoop ar_rely hF
      refine Goes.stop (fun _ r₁ => ?_)
      replace hF := ar_rely hF r₁
      clear r₁
      have := ih (i + 1) (by omega)
      rw [wt] at this
      exact this _ _ _ _ _ _ _ _ _ _ _ _ _ _ _ _ _ _ _ _ _ _ _ _ _ _ _ _ _ _ _ _ _ _ _ _ _ _ _ _ _ _ _ _ _ _ _ _ _ _ _ _ _ _ _ _ _ _ _ _ _ _ _ _ _ _ _ _ _ _ _ _ _ _ _ _ _ _ _ _ _ _ _ _ _ _ _ _ _ _ _ _ _ _ _ _ _ _ _ _ _ _ _ _ _ _ _ _ _ _ hF
end
section
set_option maxRecDepth 100000 in
set_option maxHeartbeats 16000000 in
/-- ████ GangSums, to its loop. ████ -/
theorem sumsReach {x0 x1 x2 x3 p q J N1 N2 : Nat} {A B : Int} (e0 : IntKind.i64.wrap ((x0 : Int).tmod 100) = (p : Int)) (e1 : IntKind.i64.wrap ((x1 : Int).tmod 100) = (q : Int)) (eJ : IntKind.i64.wrap ((p : Int) + (q : Int)) = (J : Int)) (e2 : IntKind.i64.wrap (1 + IntKind.i64.wrap ((x2 : Int).tmod 64)) = (N1 : Int)) (e3 : IntKind.i64.wrap (1 + IntKind.i64.wrap ((x3 : Int).tmod 64)) = (N2 : Int)) (hJ : J ≤ 256) (hp : p ≤ J) (hM1 : 1 ≤ N1 ∧ N1 ≤ 64) (hM2 : 1 ≤ N2 ∧ N2 ≤ 64) {Shun : Loc → Prop} {w : World} (hS : LowS Shun w.heap.size) {Post : (Loc → Prop) → Goroutine → World → Prop}
    (hend : ∀ S' w' a todo, Aft w w' 0 → LowS S' w'.heap.size → a.defers = [] → a.tmps.getD 10 undef = .bool true → Post S' (G {(base 6).at a todo with mode := .returning} []) w') :
    Reach Try.prog Shun (G ((base 6).at ⟨#[.int .u8 (x0 : Int), .int .u8 (x1 : Int), .int .u8 (x2 : Int), .int .u8 (x3 : Int), .agg #[.int .i64 A, .int .i64 B], undef, undef, undef, undef, undef, undef, undef, undef, undef, undef, undef, undef, undef, undef, undef, undef, undef, undef, undef, undef, undef, undef, undef, undef, undef, undef, undef, undef, undef, undef, undef, undef, undef, undef, undef, undef, undef, undef, undef, undef, undef, undef, undef, undef, undef, undef, undef, undef, undef, undef, undef, undef, undef, undef, undef, undef, undef, undef, undef, undef, undef, undef, undef, undef, undef, undef, undef, undef, undef, undef, undef, undef, undef, undef, undef, undef, undef, undef, undef, undef, undef, undef, undef, undef, undef, undef, undef, undef, undef, undef, undef, undef, undef, undef, undef, undef, undef, undef, undef, undef, undef, undef, undef, undef, undef, undef, undef, undef, undef, undef, undef], []⟩ [.code body6]) []) w Post := by
  refine Reach.walk (B := w.heap.size + 1) (n := 30 + (30 + 1)) (Nat.le_add_right _ _) (Stop := fun g w' => w.heap.size + 1 ≤ w'.heap.size ∧ Reach Try.prog Shun g w' Post) ?_ (fun _ _ h => h)
  have hF := atRel_refl w
  refine goL0 (n := 30) (m := 30 + 1) ?_
  rw [body6_eq]
  generalize q0 : S6a = X0
  generalize q1 : S6b = X1
  simp only [S6a, S6b, body6, firstC, rightC, Try.f6, Option.getD_some] at q0 q1
  subst q0; subst q1
  repeat w_go ar_rely
  refine Goes.stop (fun _ r₁ => ?_)
  replace hF := ar_rely hF r₁
  clear r₁
  refine goL_new (n := 30) (v := fun s => .pointer (some ⟨s, 0, none⟩)) hF rfl rfl (by k_ne) (run_box23 rfl rfl) fun _ hF => ?_
  refine goL0 (n := 30) (m := 0) ?_
  walk_nrm
  repeat w_go ar_rely
  u_in ar_rely hF
  refine goes_call (c := body7) rfl rfl (by k_ne) rfl Try.func7 nm7 fb7 ⟨by u_nil, ?_⟩
  simp only [nt7]
  walk_nrm
  refine Goes.stop (fun _ r₁ => ?_)
  replace hF := ar_rely hF r₁
  clear r₁
  refine Goes.stop (fun w₁ r₁ => ?_)
  replace hF := ar_rely hF r₁
  clear r₁
  have hs1 : w₁.heap.size = w.heap.size + 1 := (at_size hF).trans (size_al _ _)
  refine ⟨by omega, ?_⟩
  refine awakeReach (hS.mono (by omega)) ?_
  intro S2 w2 hA2 hL2 hN2
  have hP2 : w2.heap[w.heap.size]? = some (.cells #[.int .i64 A, .int .i64 B] 23) := by
    rw [hA2.old _ (by omega)]
    obtain ⟨d, rfl⟩ := hF
    exact alloc_at_new _ _
  replace hA2 : Aft w w2 10 := ((Aft.alloc _ _).at hF).trans hA2
  rw [hs1] at hN2
  have hnp2 : ∀ i, ¬ S2 (.cell ⟨w.heap.size, i, none⟩) := fun i => hN2.not (hS.not (Nat.le_refl _)) (by omega)
  replace hN2 := NewS.trans (NewS.refl (Shun := Shun) (s := w.heap.size)) hN2 (by omega)
  clear hF hs1
  have hz2 := hA2.size
  refine Reach.walk (B := w2.heap.size) (n := 90 + (60 + 1)) (Nat.le_refl _) (Stop := fun g w' => w2.heap.size ≤ w'.heap.size ∧ Reach Try.prog S2 g w' Post) ?_ (fun _ _ h => h)
  have hF := atRel_refl w2
  refine goL0 (n := 90) (m := 60 + 1) ?_
  walk_nrm
  repeat w_but "T6" ar_rely
  rw [T6_eq]
  generalize q0 : S6c = X0
  generalize q1 : S6d = X1
  simp only [S6c, S6d, T6e, T6d, T6c, T6b, T6, body6, firstC, rightC, Try.f6, Option.getD_some] at q0 q1
  subst q0; subst q1
  repeat w_go ar_rely
  refine Goes.stop (fun _ r₁ => ?_)
  replace hF := ar_rely hF r₁
  clear r₁
  refine goL_ld23 (n := 60) (p := w.heap.size) hF rfl rfl (by k_ne) rfl rfl loud6 hP2 (evP_cell (hnp2 0) (fun h => h) (show w.heap.size < w2.heap.size by omega)) (evP_cell (hnp2 1) (fun h => h) (show w.heap.size < w2.heap.size by omega)) fun _ hF => ?_
  refine goL0 (n := 60) (m := 0) ?_
  walk_nrm
  repeat w_go ar_rely
  u_in ar_rely hF
  refine goes_call (c := body10) rfl rfl (by k_ne) rfl Try.func10 nm10 fb10 ⟨by u_nil, ?_⟩
  simp only [nt10]
  walk_nrm
  refine Goes.stop (fun _ r₁ => ?_)
  replace hF := ar_rely hF r₁
  clear r₁
  refine Goes.stop (fun w₁ r₁ => ?_)
  replace hF := ar_rely hF r₁
  clear r₁
  have hs1 : w₁.heap.size = w2.heap.size := at_size hF
  refine ⟨by omega, ?_⟩
  refine eachReach (A := A) (B := B) (J := J) (N := N1) hJ hM1.1 hM1.2 (hL2.mono (by omega)) ?_
  intro S3 w3 hA3 hL3 hN3 hR3
  have hrn3 : ∀ i, ¬ S3 (.cell ⟨w2.heap.size + 1, i, none⟩) := fun i h => by
    rcases hN3 _ h with h1 | ⟨ad, e, hb⟩
    · exact hL2.not (by omega) h1
    · cases e; simp at hb; omega
  replace hN3 : NewS S2 S3 w₁.heap.size := fun l hl => (hN3 l hl).imp id fun ⟨ad, e, hb⟩ => ⟨ad, e, by omega⟩
  replace hA3 : Aft w2 w3 8 := ((Aft.refl _).at hF).trans hA3
  clear hF
  rw [hs1] at hN3 hR3 ⊢
  clear hs1
  have hP3 : w3.heap[w.heap.size]? = some (.cells #[.int .i64 A, .int .i64 B] 23) := (hA3.old _ (by omega)).trans hP2
  have hnp3 : ∀ i, ¬ S3 (.cell ⟨w.heap.size, i, none⟩) := fun i => hN3.not (hnp2 i) (by omega)
  have hz3 := hA3.size
  refine Reach.walk (B := w3.heap.size) (n := 90 + (60 + 1)) (Nat.le_refl _) (Stop := fun g w' => w3.heap.size ≤ w'.heap.size ∧ Reach Try.prog S3 g w' Post) ?_ (fun _ _ h => h)
  have hF := atRel_refl w3
  refine goL0 (n := 90) (m := 60 + 1) ?_
  walk_nrm
  repeat w_but "T6b" ar_rely
  rw [T6b_eq]
  generalize q0 : S6e = X0
  simp only [S6e, T6e, T6d, T6c, T6b, T6, body6, firstC, rightC, Try.f6, Option.getD_some] at q0
  subst q0
  repeat w_go ar_rely
  refine Goes.stop (fun _ r₁ => ?_)
  replace hF := ar_rely hF r₁
  clear r₁
  refine goL_ld23 (n := 60) (p := w.heap.size) hF rfl rfl (by k_ne) rfl rfl loud6 hP3 (evP_cell (hnp3 0) (fun h => h) (show w.heap.size < w3.heap.size by omega)) (evP_cell (hnp3 1) (fun h => h) (show w.heap.size < w3.heap.size by omega)) fun _ hF => ?_
  refine goL0 (n := 60) (m := 0) ?_
  walk_nrm
  repeat w_go ar_rely
  u_in ar_rely hF
  refine goes_call (c := body12) rfl rfl (by k_ne) rfl Try.func12 nm12 fb12 ⟨by u_nil, ?_⟩
  simp only [nt12]
  walk_nrm
  refine Goes.stop (fun _ r₁ => ?_)
  replace hF := ar_rely hF r₁
  clear r₁
  refine Goes.stop (fun w₁ r₁ => ?_)
  replace hF := ar_rely hF r₁
  clear r₁
  have hs1 : w₁.heap.size = w3.heap.size := at_size hF
  refine ⟨by omega, ?_⟩
  refine sumReach (A := A) (B := B) (J := J) (N := N2) hJ hM2.1 hM2.2 (hL3.mono (by omega)) ?_
  intro S4 w4 hA4 hL4 hN4
  replace hA4 : Aft w3 w4 8 := ((Aft.refl _).at hF).trans hA4
  clear hF
  rw [hs1] at hN4
  clear hs1
  have hP4 : w4.heap[w.heap.size]? = some (.cells #[.int .i64 A, .int .i64 B] 23) := (hA4.old _ (by omega)).trans hP3
  have hnp4 : ∀ i, ¬ S4 (.cell ⟨w.heap.size, i, none⟩) := fun i => hN4.not (hnp3 i) (by omega)
  have hz4 := hA4.size
  replace hR3 := (hA4.old _ (by omega)).trans hR3
  refine Reach.walk (B := w4.heap.size) (n := 90 + (60 + 1)) (Nat.le_refl _) (Stop := fun g w' => w4.heap.size ≤ w'.heap.size ∧ Reach Try.prog S4 g w' Post) ?_ (fun _ _ h => h)
  have hF := atRel_refl w4
  refine goL0 (n := 90) (m := 60 + 1) ?_
  walk_nrm
  repeat w_but "T6c" ar_rely
  rw [T6c_eq]
  generalize q0 : S6f = X0
  simp only [S6f, T6e, T6d, T6c, T6b, T6, body6, firstC, rightC, Try.f6, Option.getD_some] at q0
  subst q0
  repeat w_go ar_rely
  refine Goes.stop (fun _ r₁ => ?_)
  replace hF := ar_rely hF r₁
  clear r₁
  refine goL_ld23 (n := 60) (p := w.heap.size) hF rfl rfl (by k_ne) rfl rfl loud6 hP4 (evP_cell (hnp4 0) (fun h => h) (show w.heap.size < w4.heap.size by omega)) (evP_cell (hnp4 1) (fun h => h) (show w.heap.size < w4.heap.size by omega)) fun _ hF => ?_
  refine goL0 (n := 60) (m := 0) ?_
  walk_nrm
  repeat w_go ar_rely
  u_in ar_rely hF
  refine goes_call (c := body12) rfl rfl (by k_ne) rfl Try.func12 nm12 fb12 ⟨by u_nil, ?_⟩
  simp only [nt12]
  walk_nrm
  refine Goes.stop (fun _ r₁ => ?_)
  replace hF := ar_rely hF r₁
  clear r₁
  refine Goes.stop (fun w₁ r₁ => ?_)
  replace hF := ar_rely hF r₁
  clear r₁
  have hs1 : w₁.heap.size = w4.heap.size := at_size hF
  refine ⟨by omega, ?_⟩
  refine sumReach (A := A) (B := B) (J := p) (N := N1) (by omega) hM1.1 hM1.2 (hL4.mono (by omega)) ?_
  intro S5 w5 hA5 hL5 hN5
  replace hA5 : Aft w4 w5 8 := ((Aft.refl _).at hF).trans hA5
  clear hF
  rw [hs1] at hN5
  clear hs1
  have hP5 : w5.heap[w.heap.size]? = some (.cells #[.int .i64 A, .int .i64 B] 23) := (hA5.old _ (by omega)).trans hP4
  have hnp5 : ∀ i, ¬ S5 (.cell ⟨w.heap.size, i, none⟩) := fun i => hN5.not (hnp4 i) (by omega)
  have hz5 := hA5.size
  replace hR3 := (hA5.old _ (by omega)).trans hR3
  have hrn4 : ∀ i, ¬ S4 (.cell ⟨w2.heap.size + 1, i, none⟩) := fun i => hN4.not (hrn3 i) (by omega)
  have hrn5 : ∀ i, ¬ S5 (.cell ⟨w2.heap.size + 1, i, none⟩) := fun i => hN5.not (hrn4 i) (by omega)
  refine Reach.walk (B := w5.heap.size) (n := 90 + (40 + 60 + 100 * J)) (Nat.le_refl _) (Stop := fun g w' => w5.heap.size ≤ w'.heap.size ∧ Reach Try.prog S5 g w' Post) ?_ (fun _ _ h => h)
  have hF := atRel_refl w5
  refine goL0 (n := 90) (m := 40 + 60 + 100 * J) ?_
  walk_nrm
  repeat w_but "T6d" ar_rely
  rw [T6d_eq]
  generalize q0 : S6g = X0
  simp only [S6g, T6d, T6c, T6b, T6, body6, firstC, rightC, Try.f6, Option.getD_some] at q0
  subst q0
  repeat w_but "T6e" ar_rely
  rw [T6e_eq]
  generalize q0 : S6h = X0
  generalize q1 : S6i = X1
  simp only [S6h, S6i, T6e, T6d, T6c, T6b, T6, body6, firstC, rightC, Try.f6, Option.getD_some] at q0 q1
  subst q0; subst q1
  repeat w_but "code.loop" ar_rely
  u_c stepG_loop ar_rely hF
  refine Goes.stop (fun _ r₁ => ?_)
  replace hF := ar_rely hF r₁
  clear r₁
  refine sumsLoop (R := w2.heap.size + 1) (A := A) (B := B) (J := J) (p := p) (m := 40) (fun i hi => rowI_cell hR3 hi) (fun i hi => evP_cell (hrn5 i) (fun h => h) (show w2.heap.size + 1 < w5.heap.size by omega)) (by omega) hp (fun w₂ a todo hF ha ht => ?_) J 0 (by omega) _ _ _ _ _ _ _ _ _ _ _ _ _ _ _ _ _ _ _ _ _ _ _ _ _ _ _ _ _ _ _ _ _ _ _ _ _ _ _ _ _ _ _ _ _ _ _ _ _ _ _ _ _ _ _ _ _ _ _ _ _ _ _ _ _ _ _ _ _ _ _ _ _ _ _ _ _ _ _ _ _ _ _ _ _ _ _ _ _ _ _ _ _ _ _ _ _ _ _ _ _ _ _ _ _ _ _ _ _ _ hF
  refine Goes.stop (fun w₃ r₁ => ?_)
  replace hF := ar_rely hF r₁
  clear r₁
  have hs3 : w₃.heap.size = w5.heap.size := at_size hF
  refine ⟨by omega, Reach.done (hend S5 w₃ a todo ?_ (hL5.mono (by omega)) ha ht)⟩
  exact ((((hA2.trans hA3).trans hA4).trans hA5).at hF).mono (Nat.zero_le _)
end
end Go.Proofs.Ytapjmifhhbpikaa

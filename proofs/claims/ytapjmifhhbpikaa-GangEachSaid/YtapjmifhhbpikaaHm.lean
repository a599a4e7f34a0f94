/- The gang, in a row: the reference's Each beside leavers. (Printed by hm.py.) -/
import Derived.Test.YtapjmifhhbpikaaHk
import Derived.Test.YtapjmifhhbpikaaHj
import Derived.OwnWalk
set_option linter.unusedVariables false
set_option linter.unusedSimpArgs false
namespace Go.Proofs.Ytapjmifhhbpikaa
open Go.Conc Go.ConcN Go.ConcM Go.RowKit Go.Conc.Lib Go.ConcR.Gen
open Go.ConcR (KK wgBlock WgAt stA smA rd wr mk)
theorem evP_cell' {Shun Fresh : Loc → Prop} {B : Nat} {e : Event} {ad : Addr} (he : e.loc = .cell ad) (h1 : ¬ Shun (.cell ad)) (h2 : ¬ Fresh (.cell ad)) (h3 : ad.block < B) : EvP Shun Fresh B e := by
  obtain ⟨l, x, s⟩ := e
  simp only at he
  subst he
  refine ⟨fun z hz => ?_, by simp, by simp, by simp, ?_⟩
  · simp only [ofEvent_cell0, MemAct.touch?, Option.some.injEq] at hz
    subst hz
    exact ⟨fun h => absurd h h1, h2⟩
  · rw [ofEvent_cell0]; exact h3
theorem evP_room {Shun Fresh : Loc → Prop} {B : Nat} {e : Event} {k : Mark} (he : e = ⟨.mark k, false, true⟩) (hk : Neutral k) : EvP Shun Fresh B e := by
  unfold Neutral at hk
  subst hk
  subst he
  refine ⟨fun z hz => ?_, by simp, by simp, by simp, ?_⟩
  · simp [MemAct.ofEvent, MemAct.touch?] at hz
  · simp [MemAct.ofEvent, MemAct.low]
section
variable {E : Event → Prop} {Stop : Goroutine → World → Prop} {n : Nat} {b : Frame} {a : Act} {kk : List Item} {cs : List Frame} {W w : World} {ops : Array Oper} {i : Nat} {rest : List Nat} {o : Oper}
theorem run_sl1 {x : Operand} {z : Int} (hop : o.op = .buildSlice 33 1 #[(0, x)]) (hx : a.eval x = .int .i64 z) (w : World) : (execOp a.eval o).run Try.prog w = .ok (.value (.slice (some ⟨w.heap.size, 0, none⟩) 1 1)) (w.alloc (.cells #[.int .i64 z] 3)) ∧ (execOp a.eval o).events Try.prog w #[] = #[] := by
  constructor
  · unfold execOp
    simp only [hop, List.map_toArray, List.map_cons, List.map_nil, hx]
    simp [go_sem]
  · unfold execOp
    simp only [hop, List.map_toArray, List.map_cons, List.map_nil, hx]
    simp [go_sem]
/-- append(s, x...), x of one element, s its own. -/
theorem goL_app {s x : Operand} {v : Value} {k base blk : Nat} {xs : List Value} {u : Int} (hF : AtRel W w) (ho : ops[i]? = some o) (hw : Region.wanted o (yielded ops a.tmps) = true) (hk : b.kind ≠ .early)
    (hop : o.op = .call { callee := .builtin .append, args := #[s, x], argTypes := #[33, 33] }) (hs : a.eval s = v) (hx : a.eval x = .slice (some ⟨blk, 0, none⟩) 1 1) (hq : (Try.prog.funcs[b.fn]?).any (·.norace) = false)
    (hown : W.ownsRow base 3 1 v k xs) (hc : W.cell? ⟨blk, 0, none⟩ = some (.int .i64 u)) (hn : k ≤ 1000) (hb : base ≤ W.heap.size)
    (hE : ∀ e ad, e.loc = .cell ad → ad.block = blk ∨ some ad.block = v.ownBlock → E e) (hM : ∀ e m, e = ⟨.mark m, false, true⟩ → Neutral m → E e)
    (hgo : ∀ v' w', w'.ownsRow base 3 1 v' (k + 1) (xs ++ [.int .i64 u]) → W.grownBy w' v.ownBlock → Goes Try.prog true AtRel (DE E) Stop n (G (b.at (a.put o.dst v') (.inRegion ops rest :: kk)) cs) w') : Goes Try.prog true AtRel (DE E) Stop (n + 1) (G (b.at a (.inRegion ops (i :: rest) :: kk)) cs) w := by
  refine Goes.step rfl fun w₁ r => ?_
  obtain ⟨d, rfl⟩ := ar_rely hF r
  obtain ⟨it, hit, hzz⟩ := Option.map_eq_some_iff.1 info3
  simp only [Prod.mk.injEq] at hzz
  obtain ⟨hz, hsz, hby⟩ := hzz
  have hown' : (W.at d).ownsRow base 3 1 v k xs := hown
  have hnews : ∀ j w0, [Value.int .i64 u][j]? = some w0 → (W.at d).cell? ((⟨blk, 0, none⟩ : Addr).add j) = some w0 := by
    intro j w0 h
    rcases j with _ | j
    · simp at h; subst h; exact hc
    · simp at h
  have h63 : k + 1 ≤ maxLen := by unfold maxLen; omega
  obtain ⟨v', w', hr, h1, h2, _⟩ := run_append_own (P := Try.prog) (W.at d) base 33 o.type 3 it (.int .i64 0) 1 8 und33 hit hz hsz hby rfl Nat.one_pos v k xs hown' ⟨blk, 0, none⟩ 1 1 [.int .i64 u] (by simp) hnews (by simp [Value.oneCell']) h63 (by omega) hb
  have hev := events_append_where (P := Try.prog) (W.at d) base 33 o.type 3 it (.int .i64 0) 1 8 und33 hit hz hsz hby v k xs hown' ⟨blk, 0, none⟩ 1 1 [.int .i64 u] (by simp) hnews (by simp [Value.oneCell']) h63 (by omega)
  have hrun : (execOp a.eval o).run Try.prog (W.at d) = .ok (.value v') w' := by
    unfold execOp
    simp only [hop, resolve, invoke, builtin, Sem.run_bind, Sem.run_pure, Result.andThen_ok, List.map_toArray, List.map_cons, List.map_nil, hs, hx, hr]
  rw [stepG_value ho hw hk hrun]
  unfold listed
  rw [events_append_op s x 33 hop hs hx, seen_eq hq (fun e he f => by
    rcases hev e he with ⟨ad, h, _⟩ | ⟨m, rfl, hm⟩
    · rw [h]; simp
    · unfold Neutral at hm; subst hm; simp)]
  simp only [goes_go]
  refine ⟨fun e he => ?_, hgo v' w' h1 ⟨h2.os, h2.tape, h2.output, h2.size, h2.block⟩⟩
  rcases hev e he with ⟨ad, h, hh⟩ | ⟨m, h, hm⟩
  · exact hE e ad h (hh.imp (fun x => x.2) id)
  · exact hM e m h hm
end
/-- The first k results. -/
def lstD (A B : Int) (k : Nat) : List Value := (List.range k).map fun j => .int .i64 (doV A B j)
theorem lstD_succ (A B : Int) (k : Nat) : lstD A B k ++ [.int .i64 (doV A B k)] = lstD A B (k + 1) := by simp [lstD, List.range_succ]
noncomputable def body13 : Code := Try.f13.body.getD .skip
noncomputable def SA13 : Code := firstC body13
noncomputable def SB13 : Code := firstC (rightC body13)
noncomputable def SC13 : Code := firstC (firstC (rightC (rightC body13)))
noncomputable def LL13 : Code := (findLoop body13).getD .skip
noncomputable def RR13 : Code := rightC (rightC (rightC body13))
set_option maxRecDepth 100000 in
theorem body13_eq : body13 = .seq SA13 (.seq SB13 (.seq (.seq SC13 (.block 0 (.loop LL13))) RR13)) := by
  simp only [SA13, SB13, SC13, LL13, RR13, body13, firstC, rightC, findLoop, Try.f13, Option.getD_some]
theorem fb13 : Try.f13.body = some body13 := by simp only [body13, Try.f13, Option.getD_some]
theorem nt13 : Try.f13.ntmps = 19 := by kernel_rfl
theorem loud13 : (Try.prog.funcs[(base 13).fn]?).any (·.norace) = false := by kernel_rfl
theorem Aft.grown {w w' : World} {k : Nat} (h : w.grownBy w' (some k)) (hk : w.heap.size ≤ k) : Aft w w' 0 := ⟨h.size, h.tape, h.output, h.os ▸ .refl _, fun x hx => h.block x hx (by intro e; cases e; omega)⟩
section
variable {J p : Nat} {A B : Int} {b₀ : Frame} {a₀ : Act} {ops₀ : Array Oper} {i₀ : Nat} {rest₀ : List Nat} {k₀ : List Item} {cs : List Frame} {Shun : Loc → Prop} {w0 : World} {Post : (Loc → Prop) → Goroutine → World → Prop}
set_option maxRecDepth 100000 in
set_option maxHeartbeats 16000000 in
/-- The rounds that are left. -/
theorem refLoop (hJ : J ≤ 256) (hp : w0.heap.size ≤ p) (hnp : ∀ l, Shun l → ∃ ad, l = .cell ad ∧ ad.block < w0.heap.size)
    (hk : ∀ w' v, Aft w0 w' 1 → w'.ownsRow (p + 1) 3 1 v J (lstD A B J) → Reach Try.prog Shun (G (b₀.at (a₀.put ((ops₀[i₀]?).bind (·.dst)) v) (.inRegion ops₀ rest₀ :: k₀)) cs) w' Post) :
    ∀ (r i : Nat), i + r = J → ∀ (v s7 s8 s9 s10 s11 s12 s13 s14 s15 s16 s17 s18 : Value) (w : World), Aft w0 w 1 → w.heap[p]? = some (.cells #[.int .i64 A, .int .i64 B] 23) → w.ownsRow (p + 1) 3 1 v i (lstD A B i) →
      Reach Try.prog Shun (G ((base 13).at ⟨#[.int .i64 (J : Int), .agg #[.int .i64 A, .int .i64 B], undef, .pointer (some ⟨p, 0, none⟩), .slice none 0 0, v, .int .i64 (i : Int), s7, s8, s9, s10, s11, s12, s13, s14, s15, s16, s17, s18], []⟩ [.code LL13, .inLoop LL13, .inBlock 0, .code RR13]) (b₀.at a₀ (.inRegion ops₀ (i₀ :: rest₀) :: k₀) :: cs)) w Post := by
  intro r
  induction r with
  | zero =>
    intro i hi v s7 s8 s9 s10 s11 s12 s13 s14 s15 s16 s17 s18 w hA hP hO
    obtain rfl : i = J := by omega
    refine Reach.walk (B := w.heap.size) (n := 60 + 0) (Nat.le_refl _) (Stop := fun g w' => w.heap.size ≤ w'.heap.size ∧ Reach Try.prog Shun g w' Post) ?_ (fun _ _ h => h)
    have hF := atRel_refl w
    refine goL0 (n := 60) (m := 0) ?_
    generalize hX : Item.code LL13 = X
    simp only [LL13, body13, firstC, rightC, findLoop, Try.f13, Option.getD_some] at hX
    subst hX
    have hlt : ¬ ((i : Int) < (i : Int)) := by omega
    repeat w_but "RR13" ar_rely
    generalize hX : Item.code RR13 = X
    simp only [RR13, body13, firstC, rightC, findLoop, Try.f13, Option.getD_some] at hX
    subst hX
    repeat w_go ar_rely
    u_leave1 Try.func13 ar_rely hF
    refine Goes.stop (fun _ r₁ => ?_)
    replace hF := ar_rely hF r₁
    clear r₁
    refine Goes.stop (fun w₁ r₁ => ?_)
    replace hF := ar_rely hF r₁
    clear r₁
    refine ⟨Nat.le_of_eq (at_size hF).symm, hk w₁ v (hA.at hF) ?_⟩
    obtain ⟨d, rfl⟩ := hF
    exact hO
  | succ r ih =>
    intro i hi v s7 s8 s9 s10 s11 s12 s13 s14 s15 s16 s17 s18 w hA hP hO
    have hz := hA.size
    have hlt : ((i : Int) < (J : Int)) := by omega
    have hpl : p < w.heap.size := (Array.getElem?_eq_some_iff.1 hP).1
    have nos : ∀ ad : Addr, w0.heap.size ≤ ad.block → ¬ Shun (.cell ad) := fun ad h hs => by obtain ⟨x, e, hb⟩ := hnp _ hs; cases e; omega
    refine Reach.walk (B := w.heap.size + 2) (n := 30 + ((20 + (10 + ((20 + ((20 + ((30 + (20 + ((20 + ((40 + 0) + 1)) + 1))) + 1)) + 1)) + 1))) + 1)) (Nat.le_add_right _ _) (Stop := fun g w' => w.heap.size + 2 ≤ w'.heap.size ∧ Reach Try.prog Shun g w' Post) ?_ (fun _ _ h => h)
    have hF := atRel_refl w
    refine goL0 (n := 30) (m := (20 + (10 + ((20 + ((20 + ((30 + (20 + ((20 + ((40 + 0) + 1)) + 1))) + 1)) + 1)) + 1))) + 1) ?_
    generalize hX : Item.code LL13 = X
    simp only [LL13, body13, firstC, rightC, findLoop, Try.f13, Option.getD_some] at hX
    subst hX
    repeat w_go ar_rely
    refine Goes.stop (fun _ r₁ => ?_)
    replace hF := ar_rely hF r₁
    clear r₁
    refine goL_ld23 (n := 20 + (10 + ((20 + ((20 + ((30 + (20 + ((20 + ((40 + 0) + 1)) + 1))) + 1)) + 1)) + 1))) (p := p) hF rfl rfl (by k_ne) rfl rfl loud13 hP (evP_cell (nos _ hp) (fun h => h) (show p < w.heap.size + 2 by omega)) (evP_cell (nos _ hp) (fun h => h) (show p < w.heap.size + 2 by omega)) fun _ hF => ?_
    refine goL0 (n := 20) (m := 10 + ((20 + ((20 + ((30 + (20 + ((20 + ((40 + 0) + 1)) + 1))) + 1)) + 1)) + 1)) ?_
    walk_nrm
    repeat w_go ar_rely
    u_in ar_rely hF
    refine goes_call (c := body11) rfl rfl (by k_ne) rfl Try.func11 nm11 fb11 ⟨by u_nil, ?_⟩
    simp only [nt11]
    walk_nrm
    refine Goes.stop (fun _ r₁ => ?_)
    replace hF := ar_rely hF r₁
    clear r₁
    refine doL (E := EvP Shun NoF (w.heap.size + 2)) (m := 20 + ((20 + ((40 + 0) + 1)) + 1)) (j := i) hF (evP_cell (nos _ (show w0.heap.size ≤ w.heap.size by omega)) (fun h => h) (show w.heap.size < w.heap.size + 2 by omega)) (evP_cell (nos _ (show w0.heap.size ≤ w.heap.size by omega)) (fun h => h) (show w.heap.size < w.heap.size + 2 by omega)) fun _ hF => ?_
    have hO1 := hO.alloc (.cells #[.int .i64 A, .int .i64 B] 23)
    refine goL0 (n := 20) (m := (20 + ((40 + 0) + 1)) + 1) ?_
    walk_nrm
    repeat w_go ar_rely
    refine Goes.stop (fun _ r₁ => ?_)
    replace hF := ar_rely hF r₁
    clear r₁
    refine goL_new (n := 20 + ((40 + 0) + 1)) (v := fun s => .slice (some ⟨s, 0, none⟩) 1 1) hF rfl rfl (by k_ne) (run_sl1 (z := doV A B i) rfl rfl) fun _ hF => ?_
    have hO2 := hO1.alloc (.cells #[.int .i64 (doV A B i)] 3)
    simp only [size_al] at hF ⊢
    refine goL0 (n := 20) (m := (40 + 0) + 1) ?_
    walk_nrm
    repeat w_go ar_rely
    refine Goes.stop (fun _ r₁ => ?_)
    replace hF := ar_rely hF r₁
    clear r₁
    have hlo := hO.lt
    refine goL_app (n := 40 + 0) (u := doV A B i) (blk := w.heap.size + 1) hF rfl rfl (by k_ne) rfl rfl rfl loud13 hO2 (by rw [show w.heap.size + 1 = (w.alloc (.cells #[.int .i64 A, .int .i64 B] 23)).heap.size from (size_al _ _).symm]; simp only [World.cell?, alloc_at_new]; rfl) (by omega) (by simp only [size_al]; omega) (fun e ad he hh => ?_) (fun e k he hk => evP_room he hk) fun v' w' hO' hG => ?_
    · rcases hh with h | h
      · exact evP_cell' he (nos _ (by omega)) (fun h : NoF _ => h) (by omega)
      · have := hlo _ h.symm
        exact evP_cell' he (nos _ (by omega)) (fun h : NoF _ => h) (by omega)
    have hF := atRel_refl w'
    rw [lstD_succ] at hO'
    have wi : IntKind.i64.wrap ((i : Int) + 1) = ((i + 1 : Nat) : Int) := by rw [IntKind.wrap_i64]; omega
    refine goL0 (n := 40) (m := 0) ?_
    walk_nrm
    repeat w_nl ar_rely
    u_c stepG_inLoop ar_rely hF
    refine Goes.stop (fun _ r₁ => ?_)
    replace hF := ar_rely hF r₁
    clear r₁
    refine Goes.stop (fun w₃ r₁ => ?_)
    replace hF := ar_rely hF r₁
    clear r₁
    obtain ⟨d, rfl⟩ := hF
    have hGs := hG.size
    simp only [size_al] at hGs
    refine ⟨hGs, ih (i + 1) (by omega) v' _ _ _ _ _ _ _ _ _ _ _ _ (w'.at d) ?_ ?_ hO'⟩
    · refine ⟨by show w0.heap.size + 1 ≤ w'.heap.size; omega, hG.tape.trans hA.tape, hG.output.trans hA.output, ?_, fun k hk => ?_⟩
      · show OsLater w0.os w'.os
        rw [hG.os]
        exact hA.os
      · refine (hG.block k (by simp only [size_al]; omega) ?_).trans ?_
        · intro e
          have := (hlo k e.symm).1
          omega
        · rw [alloc_old (by simp only [size_al]; omega), alloc_old (by omega)]
          exact hA.old k hk
    · refine (hG.block p (by simp only [size_al]; omega) ?_).trans ?_
      · intro e
        have := (hlo p e.symm).1
        omega
      · rw [alloc_old (by simp only [size_al]; omega), alloc_old (by omega)]
        exact hP
set_option maxRecDepth 100000 in
set_option maxHeartbeats 16000000 in
/-- ████ ref.Each. ████ -/
theorem refReach (hJ : J ≤ 256) {w : World} (hS : LowS Shun w.heap.size)
    (hk : ∀ w' v, Aft w w' 1 → w'.ownsRow (w.heap.size + 1) 3 1 v J (lstD A B J) → Reach Try.prog Shun (G (b₀.at (a₀.put ((ops₀[i₀]?).bind (·.dst)) v) (.inRegion ops₀ rest₀ :: k₀)) cs) w' Post) :
    Reach Try.prog Shun (G ((base 13).at ⟨#[.int .i64 (J : Int), .agg #[.int .i64 A, .int .i64 B], undef, undef, undef, undef, undef, undef, undef, undef, undef, undef, undef, undef, undef, undef, undef, undef, undef], []⟩ [.code body13]) (b₀.at a₀ (.inRegion ops₀ (i₀ :: rest₀) :: k₀) :: cs)) w Post := by
  refine Reach.walk (B := w.heap.size + 1) (n := 20 + ((40 + 0) + 1)) (Nat.le_add_right _ _) (Stop := fun g w' => w.heap.size + 1 ≤ w'.heap.size ∧ Reach Try.prog Shun g w' Post) ?_ (fun _ _ h => h)
  have hF := atRel_refl w
  refine goL0 (n := 20) (m := (40 + 0) + 1) ?_
  rw [body13_eq]
  generalize q0 : SA13 = X0
  generalize q1 : SB13 = X1
  generalize q2 : SC13 = X2
  simp only [SA13, SB13, SC13, body13, firstC, rightC, Try.f13, Option.getD_some] at q0 q1 q2
  subst q0; subst q1; subst q2
  repeat w_go ar_rely
  refine Goes.stop (fun _ r₁ => ?_)
  replace hF := ar_rely hF r₁
  clear r₁
  refine goL_new (n := 40 + 0) (v := fun s => .pointer (some ⟨s, 0, none⟩)) hF rfl rfl (by k_ne) (run_box23 rfl rfl) fun _ hF => ?_
  refine goL0 (n := 40) (m := 0) ?_
  walk_nrm
  repeat w_but "code.loop" ar_rely
  u_c stepG_loop ar_rely hF
  refine Goes.stop (fun _ r₁ => ?_)
  replace hF := ar_rely hF r₁
  clear r₁
  refine Goes.stop (fun w₁ r₁ => ?_)
  replace hF := ar_rely hF r₁
  clear r₁
  have hA : Aft w w₁ 1 := (Aft.alloc _ _).at hF
  refine ⟨hA.size, refLoop (w0 := w) hJ (Nat.le_refl _) hS hk J 0 (by omega) _ _ _ _ _ _ _ _ _ _ _ _ _ w₁ hA ?_ (World.ownsRow_nil _ _ _ _)⟩
  obtain ⟨d, rfl⟩ := hF
  exact alloc_at_new _ _
end
end Go.Proofs.Ytapjmifhhbpikaa

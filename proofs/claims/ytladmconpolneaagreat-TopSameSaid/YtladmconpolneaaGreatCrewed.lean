/- forest.Crewed: a forest built by a crew. -/
import Derived.Test.YtladmconpolneaaGreatOne
import Derived.Test.YtladmconpolneaaGreatCrBuilt
import Derived.Maps.OwnOps
import Derived.Maps.OwnSet
import Derived.Maps.Views
import Derived.StillTailTactics
set_option linter.unusedVariables false
set_option linter.unusedSimpArgs false
namespace Go.Proofs.YtladmconpolneaaGreat
open Go.RowKit
theorem run_make_trees (J : Nat) (hJ : J ≤ 256) : ∀ w : World, (Instr.makeSlice 36 (.int .i64 (J : Int)) (.int .i64 (J : Int))).run Tryz.prog w = .ok (.slice (some ⟨w.heap.size, 0, none⟩) J J) (w.alloc (.cells (List.replicate J (.slice none 0 0)).toArray 65)) := by
  intro w
  obtain ⟨i0, hi, hz0, hz1, hz2⟩ := info_parts Tryz.info65
  have hr := run_make (P := Tryz.prog) w 36 65 i0 _ Tryz.underlying36 hi hz0 .i64 .i64 J J (by omega) (Int.le_refl _) (by rw [hz2]; omega) (by omega)
  simp only [Int.toNat_natCast, hz1] at hr
  have e : madeCells #[.slice none 0 0] (J * 1) = (List.replicate J (Value.slice none 0 0)).toArray := by
    apply Array.ext'
    unfold madeCells
    simp only [Array.toList_map, Array.toList_range]
    apply List.ext_getElem (by simp)
    intro i h1 h2
    simp [Nat.mod_one]
  rw [hr, ← e]
  rfl
/-- How a map's element reads: as itself. -/
def heldR (v : Value) : Option (DataW Value × List MemPlace) := some (.held v, [])
/-- A tree that lies at a slice's header. -/
def TreeH (W : World) (F : List Int) (dim leaf depth n : Nat) (v : Value) : Prop := ∃ A c, ∃ t : List Node, v = .slice A t.length c ∧ TreeR W t [.slice A t.length c] ∧ Reach F dim leaf depth n t []
theorem TreeH.keepT {W W' : World} {T : List TypeId} {F : List Int} {dim leaf depth n : Nat} {v : Value} (h : TreeH W F dim leaf depth n v) (hk : KeepT T W W') (h3 : 70 ∉ T) (h4 : 3 ∉ T) (h5 : 21 ∉ T) : TreeH W' F dim leaf depth n v := by
  obtain ⟨A, c, t, e, h1, h2⟩ := h
  exact ⟨A, c, t, e, h1.keepT hk h3 h4 h5, h2⟩
/-- What Crewed holds between two events. -/
structure CwAt (w W6 W : World) (E : List Cr.Ev) (J n dim leaf depth : Nat) (F : List Int) (g mb q : Nat) : Prop where
  map : ∃ D, W.ownsMap Tryz.prog 3 heldR mb q D ∧ ∀ y ∈ E.take q, y.what = 4 → ∃ v, (∀ z, D.atKey (.int .i64 y.job) z = .held v) ∧ TreeH W F dim leaf depth n v
  out : ∃ vs : List Value, vs.length = J ∧ W.heap[g]? = some (.cells vs.toArray 65 (0, 0)) ∧ ∀ j : Nat, (∃ y ∈ E.take q, y.what = 6 ∧ y.job = (j : Int)) → ∃ v, vs[j]? = some v ∧ TreeH W F dim leaf depth n v
  kt : KeepT [65] W6 W
  bel : Below w.heap.size w W
theorem CwAt.below {w W6 W W' : World} {E : List Cr.Ev} {J n dim leaf depth : Nat} {F : List Int} {g mb q : Nat} (h : CwAt w W6 W E J n dim leaf depth F g mb q) (hb : Below W.heap.size W W') : CwAt w W6 W' E J n dim leaf depth F g mb q := by
  have hk : KeepT [] W W' := KeepT.below hb
  obtain ⟨D, m1, m2⟩ := h.map
  obtain ⟨vs, o1, o2, o3⟩ := h.out
  refine ⟨⟨D, m1.kept (row := none) (grown_of_below hb) (by simp), fun y hy h4 => ?_⟩, ⟨vs, o1, hk.2 _ _ _ _ o2 (by simp), fun j hj => ?_⟩, h.kt.trans (hk.mono (by simp)), h.bel.trans (hb.mono h.bel.size)⟩
  · obtain ⟨v, v1, v2⟩ := m2 y hy h4
    exact ⟨v, v1, v2.keepT hk (by simp) (by simp) (by simp)⟩
  · obtain ⟨v, v1, v2⟩ := o3 j hj
    exact ⟨v, v1, v2.keepT hk (by simp) (by simp) (by simp)⟩
theorem take_mem {α : Type} {E : List α} {q : Nat} (hq : q < E.length) {y : α} (hy : y ∈ E.take (q + 1)) : y ∈ E.take q ∨ y = E[q] := by
  rw [List.take_succ_eq_append_getElem hq, List.mem_append, List.mem_singleton] at hy
  exact hy
/-- An event that is no build and no put. -/
theorem CwAt.skip {w W6 W : World} {E : List Cr.Ev} {J n dim leaf depth : Nat} {F : List Int} {g mb q : Nat} (h : CwAt w W6 W E J n dim leaf depth F g mb q) (hq : q < E.length) (h4 : E[q].what ≠ 4) (h6 : E[q].what ≠ 6) : CwAt w W6 W E J n dim leaf depth F g mb (q + 1) := by
  obtain ⟨D, m1, m2⟩ := h.map
  obtain ⟨vs, o1, o2, o3⟩ := h.out
  refine ⟨⟨D, m1.mono (Nat.le_succ _), fun y hy hw => ?_⟩, ⟨vs, o1, o2, fun j ⟨y, hy, hw, hj⟩ => ?_⟩, h.kt, h.bel⟩
  · rcases take_mem hq hy with hy | rfl
    · exact m2 y hy hw
    · exact absurd hw h4
  · rcases take_mem hq hy with hy | rfl
    · exact o3 j ⟨y, hy, hw, hj⟩
    · exact absurd hw h6
theorem keepT_map {P : Program} {H : Type} {k : TypeId} {R : Value → Option (DataW H × List MemPlace)} {W W' : World} {b n : Nat} {D : DataW H} (h : W.ownsMap P k R b n D) (hg : W.grownBy W' (some b)) : KeepT [] W W' := by
  obtain ⟨es, clock, hb, _⟩ := h
  refine ⟨hg.size, fun i c t fr hi _ => ?_⟩
  rw [hg.block i (lt_of_block hi) (fun e => by injection e with e; subst e; rw [hb] at hi; cases hi)]
  exact hi
theorem key_int (j : Nat) (hj : j ≤ 256) : keyOf Tryz.prog 3 (.int .i64 (j : Int)) = some (.int .i64 (j : Int)) :=
  Maps.keyOf_int_mk Tryz.underlying3 (by
    have a : IntKind.i64.min = -9223372036854775808 := by decide
    have b : IntKind.i64.max = 9223372036854775807 := by decide
    simp [Lit.wf]
    omega)
theorem CwAt.built {w W6 W W' : World} {E : List Cr.Ev} {J n dim leaf depth : Nat} {F : List Int} {g mb q : Nat} (h : CwAt w W6 W E J n dim leaf depth F g mb q) (D : DataW Value) (m1 : W.ownsMap Tryz.prog 3 heldR mb q D)
    (m2 : ∀ y ∈ E.take q, y.what = 4 → ∃ v, (∀ z, D.atKey (.int .i64 y.job) z = .held v) ∧ TreeH W F dim leaf depth n v) (hq : q < E.length) (h4 : E[q].what = 4) (j : Nat) (hj : E[q].job = (j : Int)) (hjl : j ≤ 256) (v : Value) (hv : TreeH W F dim leaf depth n v) (hmb : w.heap.size ≤ mb)
    (m' : W'.ownsMap Tryz.prog 3 heldR mb (q + 1) (D.put (.int .i64 (j : Int)) (.held v))) (hg : W.grownBy W' (some mb)) : CwAt w W6 W' E J n dim leaf depth F g mb (q + 1) := by
  have hk := keepT_map m1 hg
  have hkl := (Maps.int_keyed Tryz.underlying3).key (key_int j hjl)
  obtain ⟨vs, o1, o2, o3⟩ := h.out
  refine ⟨⟨_, m', fun y hy hw => ?_⟩, ⟨vs, o1, hk.2 _ _ _ _ o2 (by simp), fun i ⟨y, hy, hw, hi⟩ => ?_⟩, h.kt.trans (hk.mono (by simp)), Below.grown h.bel hg h.bel.size (fun k e => by injection e with e; omega)⟩
  · by_cases hyj : y.job = (j : Int)
    · rw [hyj]
      exact ⟨v, fun z => Maps.atKey_put_same m1.isMap hkl _ _, hv.keepT hk (by simp) (by simp) (by simp)⟩
    · rcases take_mem hq hy with hy | rfl
      · obtain ⟨u, u1, u2⟩ := m2 y hy hw
        exact ⟨u, fun z => by rw [Maps.atKey_put_other (fun e => hyj (by injection e))]; exact u1 z, u2.keepT hk (by simp) (by simp) (by simp)⟩
      · exact absurd hj hyj
  · rcases take_mem hq hy with hy | rfl
    · obtain ⟨u, u1, u2⟩ := o3 i ⟨y, hy, hw, hi⟩
      exact ⟨u, u1, u2.keepT hk (by simp) (by simp) (by simp)⟩
    · rw [h4] at hw; cases hw
theorem CwAt.putd {w W6 W : World} {E : List Cr.Ev} {J n dim leaf depth : Nat} {F : List Int} {g mb q : Nat} (h : CwAt w W6 W E J n dim leaf depth F g mb q) (hq : q < E.length) (h6 : E[q].what = 6) (j : Nat) (hj : E[q].job = (j : Int)) (hjl : j < J) (v : Value) (hv : TreeH W F dim leaf depth n v) (hg : w.heap.size ≤ g) (hne : mb ≠ g) :
    CwAt w W6 (W.setCell ⟨g, j, none⟩ v) E J n dim leaf depth F g mb (q + 1) := by
  obtain ⟨D, m1, m2⟩ := h.map
  obtain ⟨vs, o1, o2, o3⟩ := h.out
  have hk : KeepT [65] W (W.setCell ⟨g, j, none⟩ v) := KeepT.set o2 (by simp)
  refine ⟨⟨D, (m1.setCell (a := ⟨g, j, none⟩) hne v).mono (Nat.le_succ _), fun y hy hw => ?_⟩, ⟨vs.set j v, by simpa using o1, ?_, fun i ⟨y, hy, hw, hi⟩ => ?_⟩, h.kt.trans hk, h.bel.setCell hg v⟩
  · rcases take_mem hq hy with hy | rfl
    · obtain ⟨u, u1, u2⟩ := m2 y hy hw
      exact ⟨u, u1, u2.keepT hk (by simp) (by simp) (by simp)⟩
    · rw [h6] at hw; cases hw
  · have := heap_setCell_same W g j _ _ v o2
    rw [this]
    simp
  · by_cases hij : i = j
    · subst hij
      exact ⟨v, by rw [List.getElem?_set_self (by omega)], hv.keepT hk (by simp) (by simp) (by simp)⟩
    · rcases take_mem hq hy with hy | rfl
      · obtain ⟨u, u1, u2⟩ := o3 i ⟨y, hy, hw, hi⟩
        exact ⟨u, by rw [List.getElem?_set_ne (fun e => hij e.symm)]; exact u1, u2.keepT hk (by simp) (by simp) (by simp)⟩
      · rw [hj] at hi; omega
/-- All are put: the forest stands. -/
theorem CwAt.forest {w W6 W : World} {E : List Cr.Ev} {J n dim leaf depth : Nat} {F : List Int} {g mb q : Nat} (h : CwAt w W6 W E J n dim leaf depth F g mb q) (hJ : J ≤ 256) (hall : ∀ j : Nat, j < J → ∃ y ∈ E.take q, y.what = 6 ∧ y.job = (j : Int)) :
    ∃ ts : List (List Node), ts.length = J ∧ ForestAt W (.slice (some ⟨g, 0, none⟩) J J) ts ∧ ∀ t ∈ ts, Reach F dim leaf depth n t [] := by
  obtain ⟨vs, o1, o2, o3⟩ := h.out
  have key : ∀ m, m ≤ J → ∃ ts : List (List Node), ts.length = m ∧ Rows (TreeR W) 1 ts (vs.take m) ∧ ∀ t ∈ ts, Reach F dim leaf depth n t [] := by
    intro m
    induction m with
    | zero => intro _; exact ⟨[], rfl, by simpa using Rows.nil, by simp⟩
    | succ m ih =>
      intro hm
      obtain ⟨ts, t1, t2, t3⟩ := ih (by omega)
      obtain ⟨v, hv, A, c, t, rfl, q2, q3⟩ := o3 m (hall m (by omega))
      obtain ⟨hlt, he⟩ := List.getElem?_eq_some_iff.1 hv
      refine ⟨ts ++ [t], by simp [t1], ?_, fun x hx => ?_⟩
      · rw [List.take_succ_eq_append_getElem hlt, he]
        exact t2.snoc q2 rfl
      · rcases List.mem_append.1 hx with hx | hx
        · exact t3 x hx
        · rw [List.mem_singleton] at hx; subst hx; exact q3
  obtain ⟨ts, t1, t2, t3⟩ := key J (Nat.le_refl _)
  rw [← o1, List.take_length] at t2
  refine ⟨ts, t1, ⟨vs, ?_, t2⟩, t3⟩
  rw [t1]
  exact ⟨by simpa using o1, .inr ⟨g, J, vs.toArray, rfl, Nat.zero_le _, o2, Nat.le_refl _, by simp only [maxLen]; omega, by simpa using o1, by simp [← o1]⟩⟩
/-- What the walk needs of the crew's events. -/
structure EvOk (E : List Cr.Ev) (J : Nat) : Prop where
  len : E.length ≤ 100000
  b : ∀ x ∈ E, x.what = 4 → ∃ j : Nat, x.job = (j : Int) ∧ j < J
  pu : ∀ x ∈ E, x.what = 6 → ∃ j : Nat, x.job = (j : Int) ∧ j < J
  bu : ∀ q (h : q < E.length), E[q].what = 6 → ∃ y ∈ E.take q, y.what = 4 ∧ y.job = E[q].job
  all : ∀ j : Nat, j < J → ∃ y ∈ E, y.what = 6 ∧ y.job = (j : Int)
theorem evok_run (J N : Nat) (hJ : J ≤ 256) (hN : 1 ≤ N ∧ N ≤ 64) (picks : List Int) : EvOk (Cr.runK J N picks (6 * J + N + 2)).ev J := by
  obtain ⟨o1, o2, o3, -⟩ := Cr.order_final J N hN.1 picks _ rfl
  have ht := (Cr.run_trace J N hN.1 picks).length
  have hb := (Cr.run_bu J N hN.1 picks _ (Nat.le_refl _)).put
  have hj := Cr.run_jobs J N hN.1 picks _ (Nat.le_refl _)
  generalize (Cr.runK J N picks (6 * J + N + 2)).ev = E at *
  refine ⟨by rw [ht]; omega, hj, ?_, ?_, ?_⟩
  · intro x hx h6
    have := o3 x.job (by unfold Cr.orderL; exact List.mem_map.2 ⟨x, List.mem_filter.2 ⟨hx, by simp [h6]⟩, rfl⟩)
    exact ⟨x.job.toNat, by omega, by omega⟩
  · intro q hq h6
    exact hb (E.take q) E[q] (E.drop (q + 1)) (by rw [List.getElem_cons_drop, List.take_append_drop]) h6
  · intro j hjJ
    have hmem : ∀ p ∈ Cr.orderL E, ∃ y ∈ E, y.what = 6 ∧ y.job = p := by
      intro p hp
      unfold Cr.orderL at hp
      obtain ⟨y, hy, rfl⟩ := List.mem_map.1 hp
      obtain ⟨hy1, hy2⟩ := List.mem_filter.1 hy
      exact ⟨y, hy1, by simpa using hy2, rfl⟩
    apply Classical.byContradiction
    intro hno
    have hnj : (j : Int) ∉ Cr.orderL E := fun hm => hno (hmem _ hm)
    have hnd : ((j : Int) :: Cr.orderL E).Nodup := List.nodup_cons.2 ⟨hnj, o2⟩
    have hlt : ∀ p ∈ ((j : Int) :: Cr.orderL E), 0 ≤ p ∧ p < (J : Int) := by
      intro p hp
      rcases List.mem_cons.1 hp with rfl | hp
      · omega
      · exact o3 p hp
    have hm : (((j : Int) :: Cr.orderL E).map Int.toNat).Nodup := by
      have : ∀ l : List Int, l.Nodup → (∀ p ∈ l, 0 ≤ p) → (l.map Int.toNat).Nodup := by
        intro l
        induction l with
        | nil => intro _ _; simp
        | cons a l ih =>
          intro h1 h2
          obtain ⟨h3, h4⟩ := List.nodup_cons.1 h1
          rw [List.map_cons, List.nodup_cons]
          refine ⟨fun hm => ?_, ih h4 fun p hp => h2 p (List.mem_cons_of_mem _ hp)⟩
          obtain ⟨p, hp, e⟩ := List.mem_map.1 hm
          have e1 := h2 p (List.mem_cons_of_mem _ hp)
          have e2 := h2 a List.mem_cons_self
          have : p = a := by omega
          exact h3 (this ▸ hp)
      exact this _ hnd fun p hp => (hlt p hp).1
    have := nodup_le J _ hm (by
      intro i hi
      obtain ⟨p, hp, rfl⟩ := List.mem_map.1 hi
      have := hlt p hp
      omega)
    rw [List.length_map, List.length_cons, o1] at this
    omega
/-- 'm[k]' where the key is there. -/
theorem lookup_held {w : World} {t k e : TypeId} {K : Maps.Keyed Tryz.prog k} (ht : Tryz.prog.underlying t = some (.map k e)) {z : Value} (hz : (zeroValue e).run Tryz.prog w = .ok z w) {b n : Nat} {D : DataW Value} (hown : w.ownsMap Tryz.prog k heldR b n D) {key : Value} {kl : Lit} (hkey : keyOf Tryz.prog k key = some kl) {v : Value} (hat : ∀ u, D.atKey kl u = .held v) :
    (Instr.lookup t (.map (some b)) key false).run Tryz.prog w = .ok v w := by
  obtain ⟨v', ps, hrun, hv⟩ := hown.lookup K ht hz (show heldR z = some (.held z, []) from rfl) hkey
  rw [hat] at hv
  simp only [heldR, Option.some.injEq, Prod.mk.injEq, DataW.held.injEq] at hv
  rw [hrun, hv.1]
theorem TreeH.of_one {W : World} {F : List Int} {dim leaf depth n : Nat} {B c : Nat} {t : List Node} {A : Option Addr} {cells : List Value} (ho : W.ownsRow B 70 6 (.slice A t.length c) t.length cells) (hr : Rows (NodeR W) 6 t cells) (hre : Reach F dim leaf depth n t []) : TreeH W F dim leaf depth n (.slice A t.length c) :=
  ⟨A, c, t, rfl, ⟨A, c, cells, rfl, own_base0 ho (Nat.zero_le _), hr⟩, hre⟩
theorem zero65 (w : World) : (zeroValue 65).run Tryz.prog w = .ok (.slice none 0 0) w := by kernel_rfl
theorem results_cell_slot2 {P : Program} {fn : Func} {p q r : Tmp} {ty : TypeId} (h : fn.results = #[.cell p ty, .tmp q, .tmp r]) (tmps : Array Value) (w : World) (g : Nat) (t : TypeId) (cs : Array Value) (fr : Nat × Nat) (d : TypeDesc)
    (hp : tmps.getD p undef = .pointer (some ⟨g, 0, none⟩)) (hg : w.heap[g]? = some (.cells cs t fr))
    (hu : P.underlying ty = some d) (hd : (match d with | .struct _ | .array _ _ => true | _ => false) = true) (hi : (P.info? ty).map (·.size) = some cs.size) :
    (results fn tmps).run P w = .ok (.tuple #[.agg cs, tmps.getD q undef, tmps.getD r undef]) w := by
  have hp' : tmps[p]?.getD undef = .pointer (some ⟨g, 0, none⟩) := by simpa using hp
  simp [results, h, hp', asAddr, run_loadVar_row w g t ty cs fr d hg hu hd hi]
set_option maxRecDepth 100000 in
set_option maxHeartbeats 3200000 in
theorem crewed_any (w : World) (B bi dim n leaf depth J N : Nat) (F : List Int) (h : ItemsAt w B bi dim n F) (p : Par) (hpl : p.leaf = (leaf : Int)) (hpd : p.depth = (depth : Int)) (hpt : p.trees = (J : Int)) (L : Option Addr) (c : Nat) (hL : Reads w L p.list.length (u64V p.list)) (hll : p.list.length ≤ 1000) (hu : ∀ x ∈ p.list, U64 x)
    (hE : growE p = 0) (hn : 1 ≤ n ∧ n ≤ 20000) (hl1 : 1 ≤ leaf) (hJ : J ≤ 256) (hN : 1 ≤ N ∧ N ≤ 64) (picks : List Int) (A0 : Option Addr) (np c0 : Nat) (hr : Reads w A0 np (Cr.intsV picks)) (hp : ∀ x ∈ picks, -9223372036854775808 ≤ x ∧ x ≤ 9223372036854775807) :
    Calls Tryz.prog 105 #[.pointer (some ⟨bi, 0, none⟩), .agg (parV p L c), .int .i64 (N : Int), .slice A0 np c0] w fun e w' =>
      ∃ TA tc ts O oc on, e = .returned (.tuple #[.agg #[.pointer (some ⟨bi, 0, none⟩), .int .i64 (leaf : Int), .int .i64 (depth : Int), .slice TA ts.length tc], .slice O on oc, .int .i64 0]) ∧ ForestAt w' (.slice TA ts.length tc) ts ∧ ts.length = J ∧ (∀ t ∈ ts, Reach F dim leaf depth n t []) ∧ Below w.heap.size w w' := by
  obtain ⟨W0, hW0⟩ : ∃ W, (w.alloc (.cells (parV p L c) 28)).alloc (.cells #[.pointer none, .int .i64 0, .int .i64 0, .slice none 0 0] 62) = W := ⟨_, rfl⟩
  have HB0 : Hid (Below w.heap.size w W0) := by show Below _ _ _; rw [← hW0]; exact ((Below.refl _ _).alloc (Nat.le_refl _) _).alloc (by simp) _
  have G3 : Hid (W0.heap[w.heap.size]? = some (.cells (parV p L c) 28 (0, 0))) := by show _ = _; rw [← hW0, Below.heap_alloc _ _ _ (by simp)]; exact heap_alloc_new _ _
  have G4 : Hid (W0.heap[w.heap.size + 1]? = some (.cells #[.pointer none, .int .i64 0, .int .i64 0, .slice none 0 0] 62 (0, 0))) := by show _ = _; rw [← hW0]; exact alloc_at0 _ _ _ (by simp)
  have hfe : forestE p n = 0 := by unfold forestE; rw [if_pos hE, if_neg (by omega)]
  have HC : Hid (∀ W, Below w.heap.size w W → Calls Tryz.prog 50 #[.pointer (some ⟨bi, 0, none⟩), .agg (parV p L c)] W fun e w' => e = .returned (.int .i64 0) ∧ Below W.heap.size W w') := fun W hb => by
    have := fcheck_any W B bi dim n F (h.below hb) p L c
    rw [hfe] at this
    exact this
  have HRUN : Hid (∀ W, Below w.heap.size w W → Calls Tryz.prog 144 #[.int .i64 p.trees, .int .i64 (N : Int), .slice A0 np c0] W (Cr.RunPost W (Cr.runK J N picks (6 * J + N + 2)).ev)) := fun W hb => by
    rw [hpt]
    exact Cr.run_any J N picks A0 np c0 W (hr.below hb) hp hJ hN.1 hN.2
  have HBA := Lib.hid (fun W => fbare_any W bi p L c)
  have HONE := Lib.hid (fun W => one_any bi p L c W)
  have HMK : Hid (∀ w : World, (Instr.makeSlice 36 (.int .i64 p.trees) (.int .i64 p.trees)).run Tryz.prog w = .ok (.slice (some ⟨w.heap.size, 0, none⟩) J J) (w.alloc (.cells (List.replicate J (.slice none 0 0)).toArray 65))) := by
    show ∀ w, _
    rw [hpt]
    exact run_make_trees J hJ
  have hmk := HMK.out
  have hmm := @run_makeMap Tryz.prog
  have HPSX : Hid (∀ W, Below W0.heap.size W0 W → PSt w.heap.size p L c W) := fun W hb => PSt.of ((hb.block _ (lt_of_block G3.out)).trans G3.out)
  obtain ⟨d0, d1, d2, d3, d4, d5⟩ := HPSX.out W0 (Below.refl _ _)
  have HW0 := Lib.hid hW0
  rw [← hW0] at d0 d1 d2 d3 d4 d5
  have HPN := Lib.hid (And.intro hpl (And.intro hpd hpt))
  have HH := Lib.hid h
  have HT1 : Hid (∀ W b1 b2 k, Below w.heap.size w W → k < J → W.heap[b1]? = some (.cells #[.pointer (some ⟨bi, 0, none⟩)] 57 (0, 0)) → W.heap[b2]? = some (.cells (parV p L c) 28 (0, 0)) → Calls Tryz.prog 187 #[.int .i64 (k : Int), .pointer (some ⟨b1, 0, none⟩), .pointer (some ⟨b2, 0, none⟩)] W (OnePost W F dim leaf depth n)) := fun W b1 b2 k hb hk g1 g2 =>
    tree1_any W B bi dim n leaf depth J b1 b2 k F (h.below hb) p hpl hpd hpt L c (hL.below hb) hll hu hE hn hl1 hJ hk g1 g2
  have HJ := Lib.hid (And.intro hJ hN)
  have HEV0 := Lib.hid (evok_run J N hJ hN picks)
  rw [par_cell] at *
  clear hW0 h hpl hpd hpt hL hll hu hE hn hl1 hr hp hfe hJ hN
  go_enter Tryz.func105, Tryz.ntmps105
  go_wp2_with (first
    | (go_at_call 50; go_loud (rw [HW0.out]); go_loud (refine (HC.out W0 HB0.out).mono ?_); rintro e w1 ⟨rfl, hb⟩
       have HB01 := Lib.hid hb
       have HB1 := Lib.hid (HB0.out.trans (hb.mono HB0.out.size))
       obtain ⟨e0, e1, e2, e3, e4, e5⟩ := HPSX.out w1 hb
       clear hb d0 d1 d2 d3 d4 d5)
    | (go_at_call 144; go_loud (refine (HRUN.out w1 HB1.out).mono ?_); go_loud (rintro e w2 ⟨hb, EA, ec, rfl, hev⟩)
       have HB02 := Lib.hid (HB01.out.trans (hb.mono HB01.out.size))
       have HB2 := Lib.hid (HB1.out.trans (hb.mono HB1.out.size))
       have HEV := Lib.hid hev
       obtain ⟨f0, f1, f2, f3, f4, f5⟩ := HPSX.out w2 HB02.out
       clear hb hev e0 e1 e2 e3 e4 e5)
    | fail)
  refine (HBA.out w2).mono ?_
  rintro e w3 ⟨rfl, hb⟩
  have HB03 := Lib.hid (HB02.out.trans (hb.mono HB02.out.size))
  have HB3 := Lib.hid (HB2.out.trans (hb.mono HB2.out.size))
  have HB23 := Lib.hid hb
  obtain ⟨W4, hW4⟩ : ∃ W, w3.alloc (.cells #[.pointer (some ⟨bi, 0, none⟩), .int .i64 p.leaf, .int .i64 p.depth, .slice none 0 0] 62) = W := ⟨_, rfl⟩
  have HW4 := Lib.hid hW4
  have HB34 : Hid (Below w3.heap.size w3 W4) := by show Below _ _ _; rw [← hW4]; exact (Below.refl _ _).alloc (Nat.le_refl _) _
  have GF : Hid (W4.heap[w3.heap.size]? = some (.cells #[.pointer (some ⟨bi, 0, none⟩), .int .i64 p.leaf, .int .i64 p.depth, .slice none 0 0] 62 (0, 0))) := by show _ = _; rw [← hW4]; exact heap_alloc_new _ _
  have HB04 := Lib.hid (HB03.out.trans (HB34.out.mono HB03.out.size))
  have HBA4 : ∀ o : Obj, Below W4.heap.size W4 (W4.alloc o) := fun o => (Below.refl _ _).alloc (Nat.le_refl _) _
  have hq3 : ∀ o : Obj, (W4.alloc o).cell? ⟨w3.heap.size, 3, none⟩ = some (.slice none 0 0) := fun o => cell_of_row _ _ _ _ _ _ (((HBA4 o).block _ (lt_of_block GF.out)).trans GF.out)
  have hz3 : ∀ o : Obj, (W4.alloc o).frozen? ⟨w3.heap.size, 3, none⟩ = false := fun o => frozen_of_row _ _ _ _ _ (((HBA4 o).block _ (lt_of_block GF.out)).trans GF.out)
  have HSET : Hid (∀ (o : Obj) (v : Value), PSt w.heap.size p L c ((W4.alloc o).setCell ⟨w3.heap.size, 3, none⟩ v)) := fun o v => HPSX.out _ (((HB04.out.trans ((HBA4 o).mono HB04.out.size))).setCell HB03.out.size v)
  obtain ⟨g0, g1, g2, g3, g4, g5⟩ := HPSX.out W4 HB04.out
  have gs0 : ∀ (o : Obj) (v : Value), ((W4.alloc o).setCell ⟨w3.heap.size, 3, none⟩ v).cell? ⟨w.heap.size, 0, none⟩ = some (.int .i64 p.trees) := fun o v => (HSET.out o v).1
  have gs1 : ∀ (o : Obj) (v : Value), ((W4.alloc o).setCell ⟨w3.heap.size, 3, none⟩ v).cell? ⟨w.heap.size, 1, none⟩ = some (.int .i64 p.leaf) := fun o v => (HSET.out o v).2.1
  have gs2 : ∀ (o : Obj) (v : Value), ((W4.alloc o).setCell ⟨w3.heap.size, 3, none⟩ v).cell? ⟨w.heap.size, 2, none⟩ = some (.int .i64 p.depth) := fun o v => (HSET.out o v).2.2.1
  have gs3 : ∀ (o : Obj) (v : Value), ((W4.alloc o).setCell ⟨w3.heap.size, 3, none⟩ v).cell? ⟨w.heap.size, 3, none⟩ = some (.bool p.scripted) := fun o v => (HSET.out o v).2.2.2.1
  have gs4 : ∀ (o : Obj) (v : Value), ((W4.alloc o).setCell ⟨w3.heap.size, 3, none⟩ v).cell? ⟨w.heap.size, 4, none⟩ = some (.int .u64 p.seed) := fun o v => (HSET.out o v).2.2.2.2.1
  have gs5 : ∀ (o : Obj) (v : Value), ((W4.alloc o).setCell ⟨w3.heap.size, 3, none⟩ v).cell? ⟨w.heap.size, 5, none⟩ = some (.slice L p.list.length c) := fun o v => (HSET.out o v).2.2.2.2.2
  clear hW4 hb f0 f1 f2 f3 f4 f5
  go_wp2_with (first
    | (rw [HW4.out])
    | (go_at_call 145; refine (HONE.out _).mono ?_; rintro e w5 ⟨rfl, rfl⟩)
    | fail)
  generalize (Cr.runK J N picks (6 * J + N + 2)).ev = E at *
  obtain ⟨W6, hW6⟩ : ∃ W, ((((W4.alloc (.cells (Array.replicate J (.slice none 0 0)) 65)).setCell ⟨w3.heap.size, 3, none⟩ (.slice (some ⟨W4.heap.size, 0, none⟩) J J)).alloc (.cells #[.pointer (some ⟨bi, 0, none⟩)] 57)).alloc (.cells #[.int .i64 p.trees, .int .i64 p.leaf, .int .i64 p.depth, .bool p.scripted, .int .u64 p.seed, .slice L p.list.length c] 28)).alloc (.map #[] 0) = W := ⟨_, rfl⟩
  rw [hW6]
  have h34 : w3.heap.size < W4.heap.size := lt_of_block GF.out
  have HB46 : Hid (Below w3.heap.size W4 W6) := by
    show Below _ _ _
    rw [← hW6]
    exact (((((Below.refl w3.heap.size W4).alloc (Nat.le_of_lt h34) _).setCell (p := ⟨w3.heap.size, 3, none⟩) (Nat.le_refl _) _).alloc (by simp; omega) _).alloc (by simp; omega) _).alloc (by simp; omega) _
  have HB06 : Hid (Below W0.heap.size W0 W6) := HB04.out.trans (HB46.out.mono HB03.out.size)
  have HB6 : Hid (Below w.heap.size w W6) := HB0.out.trans (HB06.out.mono HB0.out.size)
  have HB26 : Hid (Below w2.heap.size w2 W6) := HB23.out.trans ((HB34.out.trans HB46.out).mono HB23.out.size)
  have GF6 : Hid (W6.heap[w3.heap.size]? = some (.cells #[.pointer (some ⟨bi, 0, none⟩), .int .i64 p.leaf, .int .i64 p.depth, .slice (some ⟨W4.heap.size, 0, none⟩) J J] 62 (0, 0))) := by
    show _ = _
    rw [← hW6, Below.heap_alloc _ _ _ (by simp; omega), Below.heap_alloc _ _ _ (by simp; omega), Below.heap_alloc _ _ _ (by simp; omega)]
    exact heap_setCell_same _ w3.heap.size 3 _ _ _ ((Below.heap_alloc _ _ _ h34).trans GF.out)
  have GG6 : Hid (W6.heap[W4.heap.size]? = some (.cells (Array.replicate J (.slice none 0 0)) 65 (0, 0))) := by
    show _ = _
    rw [← hW6, Below.heap_alloc _ _ _ (by simp; omega), Below.heap_alloc _ _ _ (by simp; omega), Below.heap_alloc _ _ _ (by simp), heap_setCell_other _ _ _ _ (by simp; omega)]
    exact heap_alloc_new _ _
  have G57 : Hid (W6.heap[W4.heap.size + 1]? = some (.cells #[.pointer (some ⟨bi, 0, none⟩)] 57 (0, 0))) := by
    show _ = _
    rw [← hW6, Below.heap_alloc _ _ _ (by simp), Below.heap_alloc _ _ _ (by simp)]
    exact alloc_at0 _ _ _ (by simp)
  have G28 : Hid (W6.heap[W4.heap.size + 1 + 1]? = some (.cells #[.int .i64 p.trees, .int .i64 p.leaf, .int .i64 p.depth, .bool p.scripted, .int .u64 p.seed, .slice L p.list.length c] 28 (0, 0))) := by
    show _ = _
    rw [← hW6, Below.heap_alloc _ _ _ (by simp)]
    exact alloc_at0 _ _ _ (by simp)
  have HM6 : Hid (W6.ownsMap Tryz.prog 3 heldR (W4.heap.size + 1 + 1 + 1) 0 (.map [])) := by
    show World.ownsMap _ _ _ _ _ _ _
    have e := World.ownsMap_made ((((W4.alloc (.cells (Array.replicate J (.slice none 0 0)) 65)).setCell ⟨w3.heap.size, 3, none⟩ (.slice (some ⟨W4.heap.size, 0, none⟩) J J)).alloc (.cells #[.pointer (some ⟨bi, 0, none⟩)] 57)).alloc (.cells #[.int .i64 p.trees, .int .i64 p.leaf, .int .i64 p.depth, .bool p.scripted, .int .u64 p.seed, .slice L p.list.length c] 28)) Tryz.prog 3 heldR
    rw [hW6] at e
    simpa using e
  have HEVK : Hid (∀ W, KeepT [65] W6 W → Cr.EvAt W EA E) := fun W hk => Cr.EvAt.of_own (own_keepT (own_keepT (T := []) HEV.out (KeepT.below HB26.out) (by simp)) hk (by decide)) HEV0.out.len
  have HCW0 : Hid (CwAt w W6 W6 E J n dim leaf depth F W4.heap.size (W4.heap.size + 1 + 1 + 1) 0) :=
    ⟨⟨_, HM6.out, fun y hy => absurd hy (by simp)⟩, ⟨List.replicate J (.slice none 0 0), by simp, by rw [List.toArray_replicate]; exact GG6.out, fun j ⟨y, hy, _⟩ => absurd hy (by simp)⟩, KeepT.refl _ _, HB6.out⟩
  have HW3 : Hid (w.heap.size ≤ w3.heap.size) := HB3.out.size
  have HW34 : Hid (w.heap.size ≤ W4.heap.size) := Nat.le_trans HB3.out.size (Nat.le_of_lt h34)
  clear hW6 HBA4 hq3 hz3 gs0 gs1 gs2 gs3 gs4 gs5 g0 g1 g2 g3 g4 g5 HM6 GG6 GF HB34 HB46 h34
  go_wp2
  go_loopg [51] E.length (fun gk b wr => ∃ q : Nat, gk = E.length - q ∧ q ≤ E.length ∧ b = .int .i64 (q : Int) ∧ CwAt w W6 wr E J n dim leaf depth F W4.heap.size (W4.heap.size + 1 + 1 + 1) q)
  case atStart => exact ⟨0, rfl, Nat.zero_le _, rfl, HCW0.out⟩
  case round =>
    obtain ⟨q, rfl, hq, rfl, hcw⟩ := hrel
    have HCW := Lib.hid hcw
    have HKT := Lib.hid hcw.kt
    clear hcw
    by_cases hlt : q < E.length
    · obtain ⟨eg, hEA, hgl, e1, e2, e3⟩ := (HEVK.out wr HKT.out).2 q hlt
      have hlt' : (q : Int) < (E.length : Int) := by omega
      have hql : (q : Int) ≤ 100000 := by have := HEV0.out.len; omega
      subst hEA
      have HX : Hid (∀ W, Below wr.heap.size wr W → Below w.heap.size w W ∧ W.heap[W4.heap.size + 1]? = some (.cells #[.pointer (some ⟨bi, 0, none⟩)] 57 (0, 0)) ∧ W.heap[W4.heap.size + 1 + 1]? = some (.cells #[.int .i64 p.trees, .int .i64 p.leaf, .int .i64 p.depth, .bool p.scripted, .int .u64 p.seed, .slice L p.list.length c] 28 (0, 0))) := fun W hb => by
        have a := HKT.out.2 _ _ _ _ G57.out (by decide)
        have b := HKT.out.2 _ _ _ _ G28.out (by decide)
        exact ⟨HCW.out.bel.trans (hb.mono HCW.out.bel.size), (hb.block _ (lt_of_block a)).trans a, (hb.block _ (lt_of_block b)).trans b⟩
      have HBX : Hid (∀ o, Below wr.heap.size wr (wr.alloc o).drew) := fun o => bel_drew ((Below.refl _ _).alloc (Nat.le_refl _) _)
      by_cases h4 : E[q].what = 4
      · obtain ⟨j, hj, hjJ⟩ := HEV0.out.b _ (List.getElem_mem hlt) h4
        rw [h4] at e2
        rw [hj] at e3
        have HQ := Lib.hid (And.intro h4 (And.intro hj hjJ))
        have hj9 : (0 : Int) ≤ (j : Int) := by omega
        clear h4 hj hjJ
        generalize E[q].actor = ac at *
        go_wp2_with fail
        have HC0 : Hid (∀ x y z, ((wr.alloc (.cells #[x, y, z] 244)).drew).cell? ⟨wr.heap.size, 2, none⟩ = some z) := fun x y z => cell_of_row _ _ _ _ _ _ (heap_alloc_new wr (.cells #[x, y, z] 244))
        have hc0 : (wr.alloc (.cells #[.int .i64 (ac : Int), .int .i64 4, .int .i64 (j : Int)] 244)).cell? ⟨wr.heap.size, 2, none⟩ = some (.int .i64 (j : Int)) := HC0.out _ _ _
        go_region_held3 (fun W => W.cell? ⟨wr.heap.size, 2, none⟩ = some (.int .i64 (j : Int))) (first | go_keep | exact HC7.out | exact HC8.out)
          (first
            | (go_at_call 187
               refine (HT1.out _ _ _ j (HX.out _ (HBX.out _)).1 HQ.out.2.2 (HX.out _ (HBX.out _)).2.1 (HX.out _ (HBX.out _)).2.2).mono ?_
               rintro e w7 ⟨nodes, At, ct, cells, rfl, ho, hr, hre, hb7⟩
               have HCW7 := Lib.hid (HCW.out.below ((HBX.out _).trans (hb7.mono (HBX.out _).size)))
               have HTR := Lib.hid (TreeH.of_one ho hr hre)
               have HC7 : Hid (w7.cell? ⟨wr.heap.size, 2, none⟩ = some (.int .i64 (j : Int))) := (hb7.cell (by simp)).trans (HC0.out _ _ _)
               obtain ⟨D, m1, m2⟩ := HCW7.out.map
               obtain ⟨w8, hrun, hm8, hg8⟩ := m1.update (val := .slice At nodes.length ct) (Maps.int_keyed Tryz.underlying3) Tryz.underlying242 (by have := HEV0.out.len; simp only [maxLen]; omega) (key_int j (by have := HQ.out.2.2; have := HJ.out.1; omega)) (show heldR _ = some (.held _, []) from rfl)
               have HM8 := Lib.hid (And.intro m1 (And.intro m2 (And.intro hm8 hg8)))
               have HC8 : Hid (w8.cell? ⟨wr.heap.size, 2, none⟩ = some (.int .i64 (j : Int))) := by
                 have hl := World.block_lt_of_cell? w7 _ HC7.out
                 show _ = _
                 rw [← HC7.out]
                 have hx := hg8.block wr.heap.size hl (fun e => by injection e with e; have := HCW.out.map; obtain ⟨D', hD, _⟩ := this; have := hD.lt; omega)
                 simp only [World.cell?, hx]
               clear ho hr hre hb7 m1 m2 hm8 hg8))
        go_wp2
        go_roundg (E.length - (q + 1))
        case measure => omega
        case rel => exact ⟨q + 1, rfl, hlt, by go_num, HCW7.out.built D HM8.out.1 HM8.out.2.1 hlt HQ.out.1 j HQ.out.2.1 (by have := HQ.out.2.2; have := HJ.out.1; omega) _ HTR.out (by have := HW34.out; omega) HM8.out.2.2.1 HM8.out.2.2.2⟩
      · by_cases h6 : E[q].what = 6
        · obtain ⟨j, hj, hjJ⟩ := HEV0.out.pu _ (List.getElem_mem hlt) h6
          obtain ⟨y, y1, y2, y3⟩ := HEV0.out.bu q hlt h6
          obtain ⟨D, m1, m2⟩ := HCW.out.map
          obtain ⟨v, v1, v2⟩ := m2 y y1 y2
          rw [y3, hj] at v1
          obtain ⟨vs, o1, o2, o3⟩ := HCW.out.out
          rw [h6] at e2
          rw [hj] at e3
          have HQ := Lib.hid (And.intro h6 (And.intro hj hjJ))
          have HV := Lib.hid v2
          obtain ⟨At, ct, tr, rfl, -⟩ := v2
          have hj9 : (0 : Int) ≤ (j : Int) := by omega
          have hjJ' : (j : Int) < (J : Int) := by omega
          have hmlt := m1.lt
          have hfl := lt_of_block (HKT.out.2 _ _ _ _ GF6.out (by decide))
          have hgl2 := lt_of_block o2
          have q3 : ∀ o, (wr.alloc o).cell? ⟨w3.heap.size, 3, none⟩ = some (.slice (some ⟨W4.heap.size, 0, none⟩) J J) := fun o => cell_of_row _ _ _ _ _ _ ((Below.heap_alloc _ _ _ hfl).trans (HKT.out.2 _ _ _ _ GF6.out (by decide)))
          obtain ⟨u0, hu0⟩ : ∃ u0, vs[j]? = some u0 := ⟨vs[j]'(by omega), List.getElem?_eq_getElem (by omega)⟩
          have q4 : ∀ o, (wr.alloc o).cell? ⟨W4.heap.size, j, none⟩ = some u0 := fun o => (cell_of_row _ _ _ _ _ _ ((Below.heap_alloc _ _ _ hgl2).trans o2)).trans (by simpa using hu0)
          have q5 : ∀ o, (wr.alloc o).frozen? ⟨W4.heap.size, j, none⟩ = false := fun o => frozen_of_row _ _ _ _ _ ((Below.heap_alloc _ _ _ hgl2).trans o2)
          have hrun : ∀ o, (Instr.lookup 242 (.map (some (W4.heap.size + 1 + 1 + 1))) (.int .i64 (j : Int)) false).run Tryz.prog (wr.alloc o) = .ok (.slice At tr.length ct) (wr.alloc o) := fun o => lookup_held (K := Maps.int_keyed Tryz.underlying3) Tryz.underlying242 (zero65 _) (m1.alloc o) (key_int j (by have := HJ.out.1; omega)) v1
          clear h4 h6 hj hjJ y1 y2 y3 m1 m2 v1 o1 o2 o3 hmlt hfl hgl2 hu0
          generalize E[q].actor = ac at *
          go_wp2_with fail
          go_roundg (E.length - (q + 1))
          case measure => omega
          case rel => exact ⟨q + 1, rfl, hlt, by go_num, (HCW.out.below ((Below.refl _ _).alloc (Nat.le_refl _) _)).putd hlt HQ.out.1 j HQ.out.2.1 HQ.out.2.2 _ (HV.out.keepT (T := []) (KeepT.below ((Below.refl _ _).alloc (Nat.le_refl _) _)) (by simp) (by simp) (by simp)) HW34.out (by omega)⟩
        · have t4 : (((E[q]).what : Int) == 4) = false := by simp; omega
          have t6 : (((E[q]).what : Int) == 6) = false := by simp; omega
          have HQ := Lib.hid (And.intro h4 h6)
          clear h4 h6
          go_wp2_with fail
          go_roundg (E.length - (q + 1))
          case measure => omega
          case rel => exact ⟨q + 1, rfl, hlt, by go_num, (HCW.out.below ((Below.refl _ _).alloc (Nat.le_refl _) _)).skip hlt HQ.out.1 HQ.out.2⟩
    · obtain rfl : q = E.length := by omega
      have HFO := Lib.hid (HCW.out.forest HJ.out.1 (by rw [List.take_length]; exact HEV0.out.all))
      have GFW := Lib.hid (HKT.out.2 _ _ _ _ GF6.out (by decide))
      have G4W := Lib.hid (HKT.out.2 _ _ _ _ ((HB06.out.block _ (lt_of_block G4.out)).trans G4.out) (by decide))
      have HKP : Hid (∀ W, Below wr.heap.size wr W → W.cell? ⟨w3.heap.size, 0, none⟩ = some (.pointer (some ⟨bi, 0, none⟩)) ∧ W.cell? ⟨w3.heap.size, 1, none⟩ = some (.int .i64 p.leaf) ∧ W.cell? ⟨w3.heap.size, 2, none⟩ = some (.int .i64 p.depth) ∧ W.cell? ⟨w3.heap.size, 3, none⟩ = some (.slice (some ⟨W4.heap.size, 0, none⟩) J J)) := fun W hb => by
        have g := (hb.block _ (lt_of_block GFW.out)).trans GFW.out
        exact ⟨cell_of_row _ _ _ _ _ _ g, cell_of_row _ _ _ _ _ _ g, cell_of_row _ _ _ _ _ _ g, cell_of_row _ _ _ _ _ _ g⟩
      have HORD : Hid (∀ W, Below wr.heap.size wr W → Calls Tryz.prog 146 #[.slice EA E.length ec] W fun e w' => Below W.heap.size W w' ∧ ∃ A1 c1 m1, e = .returned (.slice A1 m1 c1)) := fun W hb => by
        refine (Cr.order_any E EA ec W ((HEVK.out wr HKT.out).below hb)).mono ?_
        rintro e w' ⟨h1, A1, c1, rfl, -⟩
        exact ⟨h1, A1, c1, _, rfl⟩
      obtain ⟨d0, d1, d2, d3⟩ := HKP.out wr (Below.refl _ _)
      have hxn : ¬ w3.heap.size = w.heap.size + 1 := by have := lt_of_block G4.out; have := HB03.out.size; omega
      have hxm : ¬ w.heap.size + 1 = w3.heap.size := fun e => hxn e.symm
      have HBN : Hid (Below wr.heap.size wr wr) := Below.refl _ _
      go_wp2_with fail
      go_region_held3 (fun W => W.cell? ⟨w3.heap.size, 0, none⟩ = some (.pointer (some ⟨bi, 0, none⟩)) ∧ W.cell? ⟨w3.heap.size, 1, none⟩ = some (.int .i64 p.leaf) ∧ W.cell? ⟨w3.heap.size, 2, none⟩ = some (.int .i64 p.depth) ∧ W.cell? ⟨w3.heap.size, 3, none⟩ = some (.slice (some ⟨W4.heap.size, 0, none⟩) J J))
        (first | go_keep | exact HKP.out _ HBN.out)
        (first
          | (go_at_call 146; refine (HORD.out _ (bel_drewN (Below.refl _ _) 1)).mono ?_; rintro e w8 ⟨hb8, OA, oc, on, rfl⟩; have HBM : Hid (Below wr.heap.size wr w8) := (bel_drewN (Below.refl _ _) 1).trans hb8; clear HBN; have HBN := HBM; clear HBM hb8
             have G9 := Lib.hid ((HBN.out.block _ (lt_of_block G4W.out)).trans G4W.out)
             have z0 : w8.cell? ⟨w.heap.size + 1, 0, none⟩ = some (.pointer none) := cell_of_row _ _ _ _ _ _ G9.out
             have z1 : w8.cell? ⟨w.heap.size + 1, 1, none⟩ = some (.int .i64 0) := cell_of_row _ _ _ _ _ _ G9.out
             have z2 : w8.cell? ⟨w.heap.size + 1, 2, none⟩ = some (.int .i64 0) := cell_of_row _ _ _ _ _ _ G9.out
             have z3 : w8.cell? ⟨w.heap.size + 1, 3, none⟩ = some (.slice none 0 0) := cell_of_row _ _ _ _ _ _ G9.out
             have fz : ∀ i, w8.frozen? ⟨w.heap.size + 1, i, none⟩ = false := fun i => frozen_of_row _ _ _ _ _ G9.out))
      go_wp2
      have G14 := heap_setCell_same _ (w.heap.size + 1) 3 _ _ (.slice (some ⟨W4.heap.size, 0, none⟩) J J) (heap_setCell_same _ (w.heap.size + 1) 2 _ _ (.int .i64 p.depth) (heap_setCell_same _ (w.heap.size + 1) 1 _ _ (.int .i64 p.leaf) (heap_setCell_same w8 (w.heap.size + 1) 0 _ _ (.pointer (some ⟨bi, 0, none⟩)) G9.out)))
      have hkf := keepT_set4 G9.out (.pointer (some ⟨bi, 0, none⟩)) (.int .i64 p.leaf) (.int .i64 p.depth) (.slice (some ⟨W4.heap.size, 0, none⟩) J J)
      have hbf : Below w.heap.size w8 ((((w8.setCell ⟨w.heap.size + 1, 0, none⟩ (.pointer (some ⟨bi, 0, none⟩))).setCell ⟨w.heap.size + 1, 1, none⟩ (.int .i64 p.leaf)).setCell ⟨w.heap.size + 1, 2, none⟩ (.int .i64 p.depth)).setCell ⟨w.heap.size + 1, 3, none⟩ (.slice (some ⟨W4.heap.size, 0, none⟩) J J)) :=
        ((((Below.refl _ _).setCell (p := ⟨w.heap.size + 1, 0, none⟩) (by simp) _).setCell (p := ⟨w.heap.size + 1, 1, none⟩) (by simp) _).setCell (p := ⟨w.heap.size + 1, 2, none⟩) (by simp) _).setCell (p := ⟨w.heap.size + 1, 3, none⟩) (by simp) _
      refine bodyPost_ret (results_cell_slot2 rfl _ _ (w.heap.size + 1) 62 #[.pointer (some ⟨bi, 0, none⟩), .int .i64 p.leaf, .int .i64 p.depth, .slice (some ⟨W4.heap.size, 0, none⟩) J J] (0, 0) _ rfl G14 Tryz.underlying62 rfl Tryz.size62) rfl ?_
      obtain ⟨ts, tl, tf, tr⟩ := HFO.out
      refine ⟨some ⟨W4.heap.size, 0, none⟩, J, ts, OA, oc, on, by rw [HPN.out.1, HPN.out.2.1, tl]; rfl, ?_, tl, tr, HCW.out.bel.trans ((HBN.out.mono HCW.out.bel.size).trans hbf)⟩
      rw [tl]
      exact (tf.keep (KeepF.of (T := []) (KeepT.below HBN.out) (by decide) (by decide) (by decide) (by decide))).keep (KeepF.of hkf (by decide) (by decide) (by decide) (by decide))
end Go.Proofs.YtladmconpolneaaGreat

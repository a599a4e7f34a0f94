/- Several texts of this seat, laid together (no statement of its own): their conditions stand in each theorem. -/
import Derived.Test.YtladmconpolneaaGreatMd
import Derived.Test.YtladmconpolneaaGreatMb
import Derived.Deep.RegionHeld3
import Derived.Deep.RegionLaw
import Derived.Deep.CutRange
import Derived.BigRegion
/- A growth under way, in memory: its steps. -/
set_option linter.unusedVariables false
set_option linter.unusedSimpArgs false
namespace Go.Proofs.YtladmconpolneaaGreat
open Go.RowKit
structure GrowSt (w W : World) (b : Nat) (v : Value) (cs : Array Value) (g : Nat) (sv nv : Value) (nodes : List Node) (st : List Job) (s : Src) : Prop where
  par : W.heap[w.heap.size]? = some (.cells cs 28 (0, 0))
  stack : StackAt W (w.heap.size + 1) g sv st.reverse
  nodes : ∃ cells, W.ownsRow (w.heap.size + 1) 70 6 nv nodes.length cells ∧ Rows (NodeR W) 6 nodes cells
  src : SrcAt W b v s
  ok : s.Ok
  gr : w.grownBy W (some b)
  lt : b < w.heap.size
section
variable {w W W' : World} {b : Nat} {v : Value} {cs : Array Value} {g : Nat} {sv nv : Value} {nodes : List Node} {st : List Job} {s : Src}
/-- Blocks of all types but one stay. -/
def Other (T : TypeId) (W W' : World) : Prop := W.heap.size ≤ W'.heap.size ∧ ∀ (k : Nat) cells t fr, W.heap[k]? = some (.cells cells t fr) → t ≠ T → W'.heap[k]? = W.heap[k]?
theorem Other.kept {T : TypeId} (h : Other T W W') (h1 : T ≠ 3) (h2 : T ≠ 21) : Kept W W' := ⟨h.1, fun k c t fr hk ht => h.2 k c t fr hk (by rcases ht with rfl | rfl; exact fun e => h1 e.symm; exact fun e => h2 e.symm)⟩
theorem Other.own {T : TypeId} (h : Other T W W') {base : Nat} {e : TypeId} {size n : Nat} {u : Value} {xs : List Value} (ho : W.ownsRow base e size u n xs) (he : e ≠ T) : W'.ownsRow base e size u n xs := by
  refine ⟨ho.1, ho.2.imp id fun ⟨k, cap, cur, h1, h2, h3, h4⟩ => ⟨k, cap, cur, h1, h2, ?_, h4⟩⟩
  rw [h.2 k _ _ _ h3 he]; exact h3
theorem Other.set {g i : Nat} {x : Value} {c : Array Value} {t : TypeId} {fr : Nat × Nat} (hg : W.heap[g]? = some (.cells c t fr)) : Other t W (W.setCell ⟨g, i, none⟩ x) := ⟨by simp [World.setCell], fun k cs' t' fr' hk ht' => Below.heap_setCell _ _ _ _ (by
  rintro rfl
  rw [hg] at hk
  injection hk with hk
  injection hk with _ e
  exact ht' e.symm)⟩
theorem Other.row {base : Nat} {e : TypeId} {size n : Nat} {u : Value} {xs : List Value} (ho : W.ownsRow base e size u n xs) (hg : W.grownBy W' u.ownBlock) : Other e W W' := ⟨hg.size, fun k c t fr hk ht => hg.block k (lt_of_block hk) (own_ne2' ho hk (fun e' => ht e'.symm))⟩
theorem StackAt.move {B g : Nat} {js : List Job} (h : StackAt W B g sv js) (hb : W'.heap[g]? = W.heap[g]?) (hr : ∀ k, sv.ownBlock = some k → W'.heap[k]? = W.heap[k]?) (hk : Kept W W') : StackAt W' B g sv js := by
  obtain ⟨cells, ho, hr'⟩ := h.row
  refine ⟨by rw [hb]; exact h.box, h.base, cells, ⟨ho.1, ho.2.imp id fun ⟨k, cap, cur, h1, h2, h3, h4⟩ => ⟨k, cap, cur, h1, h2, ?_, h4⟩⟩, hr'.imp fun x c hx => hx.kept hk⟩
  rw [hr k (by rw [h1]; rfl)]; exact h3
theorem GrowSt.below (h : GrowSt w W b v cs g sv nv nodes st s) (hb : Below W.heap.size W W') : GrowSt w W' b v cs g sv nv nodes st s := by
  have hk := Kept.below hb
  obtain ⟨cells, ho, hr⟩ := h.nodes
  obtain ⟨scells, hso, _⟩ := h.stack.row
  exact ⟨by rw [hb.block _ (lt_of_block h.par)]; exact h.par, h.stack.move (hb.block _ (lt_of_block h.stack.box)) (fun k hk => hb.block _ (own_ltB hso k hk)) hk, ⟨cells, own_below ho hb, hr.imp fun x c hx => hx.kept hk⟩, h.src.below hb, h.ok, h.gr.trans (grown_of_below hb), h.lt⟩
/-- The source has drawn. -/
theorem GrowSt.draw {s' : Src} (h : GrowSt w W b v cs g sv nv nodes st s) (hs : SrcAt W' b v s') (ho' : s'.Ok) (hg : W.grownBy W' (some b)) : GrowSt w W' b v cs g sv nv nodes st s' := by
  have hk := Kept.src h.src hg
  have hne : ∀ (k : Nat) c t fr, W.heap[k]? = some (.cells c t fr) → t ≠ 291 → t ≠ 294 → W'.heap[k]? = W.heap[k]? := fun k c t fr hk' h1 h2 => hg.block k (lt_of_block hk') (fun e => h.src.ne hk' h1 h2 (by injection e))
  obtain ⟨cells, ho, hr⟩ := h.nodes
  obtain ⟨scells, hso, _⟩ := h.stack.row
  refine ⟨by rw [hne _ _ _ _ h.par (by decide) (by decide)]; exact h.par, h.stack.move (hne _ _ _ _ h.stack.box (by decide) (by decide)) (fun k hk' => ?_) hk, ⟨cells, ?_, hr.imp fun x c hx => hx.kept hk⟩, hs, ho', h.gr.trans hg, h.lt⟩
  · obtain ⟨cur, hc⟩ := own_blk hso k hk'
    exact hne _ _ _ _ hc (by decide) (by decide)
  · refine own_grown ho hg (fun k hk' e => ?_)
    obtain ⟨cur, hc⟩ := own_blk ho k hk'
    exact h.src.ne hc (by decide) (by decide) (by injection e with e; exact e.symm)
/-- A job is taken off. -/
theorem GrowSt.pop {j : Job} {A : Option Addr} {c : Nat} (h : GrowSt w W b v cs g (.slice A (st.length + 1) c) nv nodes (j :: st) s) : GrowSt w (W.setCell ⟨g, 0, none⟩ (.slice A st.length c)) b v cs g (.slice A st.length c) nv nodes st s := by
  have hk : Kept W (W.setCell ⟨g, 0, none⟩ (.slice A st.length c)) := Kept.set h.stack.box (by decide)
  have hot : Other 184 W (W.setCell ⟨g, 0, none⟩ (.slice A st.length c)) := Other.set h.stack.box
  obtain ⟨cells, ho, hr⟩ := h.nodes
  obtain ⟨scells, hso, hsr⟩ := h.stack.row
  have hgb := h.stack.base
  have el : (j :: st).reverse.length = st.length + 1 := by simp
  have el2 : st.reverse.length = st.length := by simp
  rw [el] at hso
  have hp := own_prefix hso (m := st.length) (by omega) (by omega)
  have hrt := hsr.take st.length (by rw [el]; omega)
  have et : (j :: st).reverse.take st.length = st.reverse := by
    rw [List.reverse_cons, List.take_append_of_le_length (by simp), List.take_of_length_le (by simp)]
  rw [et] at hrt
  refine ⟨by rw [hot.2 _ _ _ _ h.par (by decide)]; exact h.par, ⟨heap_setCell_same W g 0 _ _ _ h.stack.box, hgb, _, ?_, hrt.imp fun x c hx => hx.kept hk⟩, ⟨cells, hot.own ho (by decide), hr.imp fun x c hx => hx.kept hk⟩, ?_, h.ok, grown_set h.gr _ _ _ (by omega), h.lt⟩
  · rw [el2]; exact hot.own hp (by decide)
  · exact h.src.set h.stack.box (by decide) (by decide) (by decide)
/-- The nodes' row is written. -/
theorem GrowSt.nodesTo {nodes' : List Node} {nv' : Value} {cells' : List Value} (h : GrowSt w W b v cs g sv nv nodes st s) (hot : Other 70 W W') (hg : Below (w.heap.size + 1) W W') (ho : W'.ownsRow (w.heap.size + 1) 70 6 nv' nodes'.length cells') (hr : Rows (NodeR W') 6 nodes' cells') : GrowSt w W' b v cs g sv nv' nodes' st s := by
  have hk := hot.kept (by decide) (by decide)
  obtain ⟨scells, hso, _⟩ := h.stack.row
  refine ⟨by rw [hot.2 _ _ _ _ h.par (by decide)]; exact h.par, h.stack.move (hot.2 _ _ _ _ h.stack.box (by decide)) (fun k hk' => ?_) hk, ⟨cells', ho, hr⟩, ?_, h.ok, ?_, h.lt⟩
  · obtain ⟨cur, hc⟩ := own_blk hso k hk'
    exact hot.2 _ _ _ _ hc (by decide)
  · exact h.src.keep fun k c t fr hk' ht => hot.2 k c t fr hk' (by rcases ht with rfl | rfl | rfl <;> decide)
  · exact ⟨hg.os.trans h.gr.os, hg.tape.trans h.gr.tape, hg.output.trans h.gr.output, Nat.le_trans h.gr.size hg.size, fun k hk' hne => by rw [hg.block k (by omega)]; exact h.gr.block k hk' hne⟩
/-- A job more. -/
theorem GrowSt.push {j : Job} {sv' : Value} (h : GrowSt w W b v cs g sv nv nodes st s) (hst : StackAt W' (w.heap.size + 1) g sv' (st.reverse ++ [j])) (hg : Below (w.heap.size + 1) W W') (hs : W.heap.size ≤ W'.heap.size) (hb : ∀ k, k < W.heap.size → k ≠ g → some k ≠ sv.ownBlock → W'.heap[k]? = W.heap[k]?) : GrowSt w W' b v cs g sv' nv nodes (j :: st) s := by
  have hk := push_kept h.stack hs hb
  obtain ⟨cells, ho, hr⟩ := h.nodes
  obtain ⟨scells, hso, _⟩ := h.stack.row
  have hne : ∀ (k : Nat) c t fr, W.heap[k]? = some (.cells c t fr) → t ≠ 183 → t ≠ 184 → W'.heap[k]? = W.heap[k]? := fun k c t fr hk' h1 h2 => hb k (lt_of_block hk') (by
    rintro rfl
    rw [h.stack.box] at hk'
    injection hk' with hk'
    injection hk' with _ e
    exact h2 e.symm) (own_ne2' hso hk' (fun e => h1 e.symm))
  refine ⟨by rw [hne _ _ _ _ h.par (by decide) (by decide)]; exact h.par, by rw [List.reverse_cons]; exact hst, ⟨cells, ⟨ho.1, ho.2.imp id fun ⟨k, cap, cur, h1, h2, h3, h4⟩ => ⟨k, cap, cur, h1, h2, (hne k _ _ _ h3 (by decide) (by decide)).trans h3, h4⟩⟩, hr.imp fun x c hx => hx.kept hk⟩, ?_, h.ok, ?_, h.lt⟩
  · exact h.src.keep fun k c t fr hk' ht => hne k c t fr hk' (by rcases ht with rfl | rfl | rfl <;> decide) (by rcases ht with rfl | rfl | rfl <;> decide)
  · exact ⟨hg.os.trans h.gr.os, hg.tape.trans h.gr.tape, hg.output.trans h.gr.output, Nat.le_trans h.gr.size hg.size, fun k hk' hne => by rw [hg.block k (by omega)]; exact h.gr.block k hk' hne⟩
end
end Go.Proofs.YtladmconpolneaaGreat

/- A node's right end is set; small facts of the growth. -/
set_option linter.unusedVariables false
set_option linter.unusedSimpArgs false
namespace Go.Proofs.YtladmconpolneaaGreat
open Go.RowKit
/-- A cell of a row that the call owns is written. -/
theorem own_setIn {w : World} {base e size n c g : Nat} {xs : List Value} (h : w.ownsRow base e size (.slice (some ⟨g, 0, none⟩) n c) n xs) (k : Nat) (hk : k < xs.length) (u : Value) :
    (w.setCell ⟨g, k, none⟩ u).ownsRow base e size (.slice (some ⟨g, 0, none⟩) n c) n (xs.set k u) := by
  have hl := h.1
  refine ⟨by simp [hl], ?_⟩
  rcases h.2 with ⟨h1, _⟩ | ⟨g', cap, cur, h1, hb, hg, h2, h3, h4, h5⟩
  · cases h1
  · simp only [Value.slice.injEq, Option.some.injEq] at h1
    obtain ⟨hg', -, rfl⟩ := h1
    injection hg' with hg'
    subst hg'
    refine .inr ⟨g, c, cur.setIfInBounds k u, rfl, hb, heap_setCell_same w g k _ _ u hg, h2, h3, by simp [h4], ?_⟩
    rw [Array.toList_setIfInBounds, List.take_set, h5]
theorem wt_ge (st : List Job) (h : ∀ j ∈ st, 0 < j.ids.length) : st.length ≤ wt st := by
  induction st with
  | nil => exact Nat.zero_le _
  | cons j st ih =>
    rw [wt_cons, List.length_cons]
    have h1 := h j (by simp)
    have h2 := ih fun k hk => h k (by simp [hk])
    omega
theorem leaf_cells (w : World) (ids : List Nat) (A : Option Addr) (c : Nat) (h : RT w 3 A ids.length (natV ids)) (hc : ids.length ≤ c) : NodeR w (leafN ids) [.bool true, .slice A ids.length c, .slice none 0 0, .int .i64 0, .int .i64 0, .int .i64 0] :=
  ⟨A, c, none, 0, rfl, h, RT.nil _ _, hc, Nat.le_refl _⟩
theorem split_cells (w : World) (nrm : List Int) (off left : Int) (A : Option Addr) (c : Nat) (h : RT w 21 A nrm.length (i32V nrm)) (hc : nrm.length ≤ c) : NodeR w (splitN nrm off left) [.bool false, .slice none 0 0, .slice A nrm.length c, .int .i64 off, .int .i64 left, .int .i64 0] :=
  ⟨none, 0, A, c, rfl, RT.nil _ _, h, Nat.le_refl _, hc⟩
section
variable {w W W' : World} {b : Nat} {v : Value} {cs : Array Value} {g : Nat} {sv nv : Value} {nodes : List Node} {st : List Job} {s : Src}
/-- A node's right end is set. -/
theorem GrowSt.right {gN cN : Nat} (h : GrowSt w W b v cs g sv (.slice (some ⟨gN, 0, none⟩) nodes.length cN) nodes st s) (up at_ : Int) (h0 : 0 ≤ up) (h1 : up < (nodes.length : Int)) :
    GrowSt w (W.setCell ⟨gN, up.toNat * 6 + 5, none⟩ (.int .i64 at_)) b v cs g sv (.slice (some ⟨gN, 0, none⟩) nodes.length cN) (setR nodes up at_) st s ∧ Other 70 W (W.setCell ⟨gN, up.toNat * 6 + 5, none⟩ (.int .i64 at_)) := by
  obtain ⟨cells, ho, hr⟩ := h.nodes
  have hu : up.toNat < nodes.length := by omega
  have hl := hr.1
  have hk : up.toNat * 6 + 5 < cells.length := by omega
  obtain ⟨cur, hc⟩ := own_blk ho gN rfl
  have hot : Other 70 W (W.setCell ⟨gN, up.toNat * 6 + 5, none⟩ (.int .i64 at_)) := Other.set hc
  have hkp := hot.kept (by decide) (by decide)
  have hb : Below (w.heap.size + 1) W (W.setCell ⟨gN, up.toNat * 6 + 5, none⟩ (.int .i64 at_)) := (Below.refl _ _).setCell (own_base ho gN rfl) _
  have e1 : setR nodes up at_ = nodes.set up.toNat ((nodes[up.toNat]'hu).withRight at_) := by
    unfold setR
    rw [if_neg (by omega), List.getD_eq_getElem?_getD, List.getElem?_eq_getElem hu, Option.getD_some]
  refine ⟨h.nodesTo hot hb (cells' := cells.set (up.toNat * 6 + 5) (.int .i64 at_)) ?_ ?_, hot⟩
  · rw [setR_length]
    exact own_setIn ho _ hk _
  · rw [e1]
    refine (hr.imp fun x c hx => hx.kept hkp).set up.toNat 5 hu (by decide) _ _ ?_
    rintro c hc5 ⟨A, ca, B, cb, rfl, h2, h3, h4, h5⟩
    exact ⟨A, ca, B, cb, rfl, h2, h3, h4, h5⟩
end
end Go.Proofs.YtladmconpolneaaGreat

/- Rows of elements that are some whole numbers each. -/
set_option linter.unusedVariables false
set_option linter.unusedSimpArgs false
namespace Go.Proofs.YtladmconpolneaaGreat
open Go.RowKit
def RI (sz : Nat) (x : List Int) (c : List Value) : Prop := c = i64V x ∧ x.length = sz
/-- A row of the call's own whose elements are whole numbers. -/
def RowAt (w : World) (B : Nat) (e : TypeId) (sz : Nat) (v : Value) (l : List (List Int)) : Prop := ∃ cells, w.ownsRow B e sz v l.length cells ∧ Rows (RI sz) sz l cells
def putL : List Value → Nat → List Value → List Value
  | cs, _, [] => cs
  | cs, p, y :: ys => putL (cs.set p y) (p + 1) ys
theorem putL_length (ys : List Value) : ∀ (cs : List Value) (p : Nat), (putL cs p ys).length = cs.length := by
  induction ys with
  | nil => intro cs p; rfl
  | cons y ys ih => intro cs p; show (putL (cs.set p y) (p + 1) ys).length = _; rw [ih]; simp
theorem putL_get (ys : List Value) : ∀ (cs : List Value) (p m : Nat), p + ys.length ≤ cs.length → (putL cs p ys)[m]? = if p ≤ m ∧ m < p + ys.length then ys[m - p]? else cs[m]? := by
  induction ys with
  | nil => intro cs p m _; rw [if_neg (by rintro ⟨h1, h2⟩; rw [List.length_nil] at h2; omega)]; rfl
  | cons y ys ih =>
    intro cs p m h
    rw [List.length_cons] at h
    show (putL (cs.set p y) (p + 1) ys)[m]? = _
    rw [ih _ _ _ (by simp; omega)]
    by_cases h1 : p + 1 ≤ m ∧ m < p + 1 + ys.length
    · rw [if_pos h1, if_pos (by simp; omega), show m - p = (m - (p + 1)) + 1 from by omega, List.getElem?_cons_succ]
    · rw [if_neg h1]
      by_cases h2 : p = m
      · subst h2
        rw [if_pos (by simp), List.getElem?_set_self (by omega), Nat.sub_self]; rfl
      · rw [if_neg (by simp; omega), List.getElem?_set_ne h2]
theorem seg_get (cs : List Value) (p n j : Nat) : ((cs.drop p).take n)[j]? = if j < n then cs[p + j]? else none := by
  rw [List.getElem?_take]
  split
  · rw [List.getElem?_drop]
  · rfl
section
variable {w : World} {B : Nat} {e : TypeId} {sz n c g : Nat} {v : Value} {l : List (List Int)} {A : Option Addr}
theorem RowsI_put {cells : List Value} (h : Rows (RI sz) sz l cells) (k : Nat) (hk : k < l.length) (y : List Int) (hy : y.length = sz) : Rows (RI sz) sz (l.set k y) (putL cells (k * sz) (i64V y)) := by
  have hl := h.1
  have hyl : (i64V y).length = sz := by rw [i64V_length, hy]
  have h1 : (k + 1) * sz ≤ l.length * sz := Nat.mul_le_mul_right _ hk
  have h2 : (k + 1) * sz = k * sz + sz := Nat.succ_mul _ _
  refine ⟨by rw [putL_length, List.length_set, hl], fun j x hj => ?_⟩
  have hjl : j < l.length := by have := (List.getElem?_eq_some_iff.mp hj).1; simpa using this
  by_cases hkj : k = j
  · subst hkj
    rw [List.getElem?_set_self hk] at hj
    injection hj with hj
    subst hj
    refine ⟨List.ext_getElem? fun m => ?_, hy⟩
    rw [seg_get, putL_get _ _ _ _ (by omega)]
    by_cases hm : m < sz
    · rw [if_pos hm, if_pos (by omega), Nat.add_sub_cancel_left]
    · rw [if_neg hm, List.getElem?_eq_none (by omega)]
  · rw [List.getElem?_set_ne hkj] at hj
    obtain ⟨h3, h4⟩ := h.2 j x hj
    refine ⟨?_, h4⟩
    rw [← h3]
    refine List.ext_getElem? fun m => ?_
    rw [seg_get, seg_get]
    by_cases hm : m < sz
    · rw [if_pos hm, if_pos hm, putL_get _ _ _ _ (by omega), if_neg]
      rcases Nat.lt_or_gt_of_ne hkj with h5 | h5
      · have h6 : (k + 1) * sz ≤ j * sz := Nat.mul_le_mul_right _ h5
        omega
      · have h6 : (j + 1) * sz ≤ k * sz := Nat.mul_le_mul_right _ h5
        have h7 : (j + 1) * sz = j * sz + sz := Nat.succ_mul _ _
        omega
    · rw [if_neg hm, if_neg hm]
theorem own_setCells (ys : List Value) : ∀ {w : World} {xs : List Value} (p : Nat), w.ownsRow B e sz (.slice (some ⟨g, 0, none⟩) n c) n xs → p + ys.length ≤ xs.length → (w.setCells g p ys).ownsRow B e sz (.slice (some ⟨g, 0, none⟩) n c) n (putL xs p ys) := by
  induction ys with
  | nil => intro w xs p h _; exact h
  | cons y ys ih =>
    intro w xs p h hp
    rw [List.length_cons] at hp
    exact ih (p + 1) (own_setIn h p (by omega) y) (by simp; omega)
theorem RowAt.len (h : RowAt w B e sz (.slice A n c) l) : True := trivial
theorem RowAt.cell (h : RowAt w B e sz (.slice (some ⟨g, 0, none⟩) l.length c) l) (k : Nat) (hk : k < l.length) : w.rangeAt g (k * sz) (i64V l[k]) ∧ w.there g (k * sz) sz ∧ (l[k]).length = sz := by
  obtain ⟨cells, ho, hr⟩ := h
  obtain ⟨c1, hc1, ⟨h1, h2⟩, h3⟩ := hr.get k hk
  have hl := hr.1
  have h4 : (k + 1) * sz ≤ l.length * sz := Nat.mul_le_mul_right _ hk
  have h5 : (k + 1) * sz = k * sz + sz := Nat.succ_mul _ _
  refine ⟨fun i u hi => ?_, fun j hj => ?_, h2⟩
  · rw [h1] at h3
    have hi2 : i < sz := by have := (List.getElem?_eq_some_iff.mp hi).1; rw [i64V_length, h2] at this; exact this
    exact (own_cell ho _ _ ((h3 i hi2).trans hi)).1
  · have hlt : k * sz + j < cells.length := by omega
    obtain ⟨q1, q2⟩ := own_cell ho (k * sz + j) _ (List.getElem?_eq_getElem hlt)
    exact ⟨by rw [q1]; rfl, q2⟩
theorem RowAt.put (h : RowAt w B e sz (.slice (some ⟨g, 0, none⟩) l.length c) l) (k : Nat) (hk : k < l.length) (y : List Int) (hy : y.length = sz) : RowAt (w.setCells g (k * sz) (i64V y)) B e sz (.slice (some ⟨g, 0, none⟩) (l.set k y).length c) (l.set k y) := by
  obtain ⟨cells, ho, hr⟩ := h
  have hl := hr.1
  have h4 : (k + 1) * sz ≤ l.length * sz := Nat.mul_le_mul_right _ hk
  have h5 : (k + 1) * sz = k * sz + sz := Nat.succ_mul _ _
  rw [List.length_set]
  refine ⟨_, ?_, RowsI_put hr k hk y hy⟩
  rw [List.length_set]
  exact own_setCells _ _ ho (by rw [i64V_length]; omega)
theorem RowAt.nil (w : World) (B : Nat) (e : TypeId) (sz : Nat) : RowAt w B e sz (.slice none 0 0) [] := ⟨[], own_nil _ _ _ _, Rows.nil⟩
theorem RowAt.slice (h : RowAt w B e sz v l) : ∃ A c, v = .slice A l.length c := by
  obtain ⟨cells, ho, _⟩ := h
  exact own_slice ho
theorem RowAt.addr (h : RowAt w B e sz (.slice A l.length c) l) (hl : 0 < l.length) : ∃ g, A = some ⟨g, 0, none⟩ := by
  obtain ⟨cells, ho, _⟩ := h
  exact own_addr ho hl
theorem RowAt.cap (h : RowAt w B e sz (.slice A l.length c) l) : l.length ≤ c := by
  obtain ⟨cells, ho, _⟩ := h
  exact own_cap ho
theorem RowAt.cut (h : RowAt w B e sz (.slice A l.length c) l) (m : Nat) (hm : m ≤ l.length) (hl : 0 < l.length) : RowAt w B e sz (.slice A m c) (l.take m) := by
  obtain ⟨cells, ho, hr⟩ := h
  have e1 : (l.take m).length = m := by simp; omega
  refine ⟨cells.take (m * sz), ?_, hr.take m hm⟩
  rw [e1]; exact own_prefix ho hm hl
/-- The row's block stays. -/
theorem RowAt.move {W : World} (h : RowAt w B e sz v l) (hk : ∀ k, v.ownBlock = some k → W.heap[k]? = w.heap[k]?) : RowAt W B e sz v l := by
  obtain ⟨cells, ho, hr⟩ := h
  exact ⟨cells, ⟨ho.1, ho.2.imp id fun ⟨k, cap, cur, h1, h2, h3, h4⟩ => ⟨k, cap, cur, h1, h2, by rw [hk k (by rw [h1]; rfl)]; exact h3, h4⟩⟩, hr⟩
theorem RowAt.lt (h : RowAt w B e sz v l) (k : Nat) (hk : v.ownBlock = some k) : B ≤ k ∧ k < w.heap.size := by
  obtain ⟨cells, ho, _⟩ := h
  exact ⟨own_base ho k hk, own_ltB ho k hk⟩
theorem RowAt.blk (h : RowAt w B e sz v l) (k : Nat) (hk : v.ownBlock = some k) : ∃ cur, w.heap[k]? = some (.cells cur e (0, 0)) := by
  obtain ⟨cells, ho, _⟩ := h
  exact own_blk ho k hk
end
theorem setCells_other (w : World) (g : Nat) (ys : List Value) : ∀ (p k : Nat) (w : World), k ≠ g → (w.setCells g p ys).heap[k]? = w.heap[k]? := by
  induction ys with
  | nil => intro p k w _; rfl
  | cons y ys ih =>
    intro p k w hk
    show ((w.setCell ⟨g, p, none⟩ y).setCells g (p + 1) ys).heap[k]? = _
    rw [ih _ _ _ hk, Below.heap_setCell _ _ _ _ hk]
theorem setCells_size (g : Nat) (ys : List Value) : ∀ (p : Nat) (w : World), (w.setCells g p ys).heap.size = w.heap.size := by
  induction ys with
  | nil => intro p w; rfl
  | cons y ys ih =>
    intro p w
    show ((w.setCell ⟨g, p, none⟩ y).setCells g (p + 1) ys).heap.size = _
    rw [ih]; simp [World.setCell]
theorem bel_setCells {B : Nat} {w : World} (g : Nat) (hg : B ≤ g) (ys : List Value) : ∀ (p : Nat) {W : World}, Below B w W → Below B w (W.setCells g p ys) := by
  induction ys with
  | nil => intro p W h; exact h
  | cons y ys ih => intro p W h; exact ih (p + 1) (h.setCell hg y)
end Go.Proofs.YtladmconpolneaaGreat

/- What comes first: comparisons. -/
set_option linter.unusedVariables false
set_option linter.unusedSimpArgs false
namespace Go.Proofs.YtladmconpolneaaGreat
open Go.RowKit
def cmpI (a b : Int) : Int := if a < b then -1 else if b < a then 1 else 0
theorem nan64_any (a : Int) (w : World) : Calls Tryz.prog 173 #[.int .i64 a] w fun e w' => e = .returned (.bool false) ∧ w = w' := by
  have h : (a == a) = true := by simp
  have h' : (a != a) = false := by simp
  go_enter Tryz.func173, Tryz.ntmps173
  go_wp2
  go_ret
  exact ⟨by simp, rfl⟩
theorem nan_any (a : Int) (w : World) : Calls Tryz.prog 174 #[.int .i64 a] w fun e w' => e = .returned (.bool false) ∧ w = w' := by
  have h : (a == a) = true := by simp
  have h' : (a != a) = false := by simp
  go_enter Tryz.func174, Tryz.ntmps174
  go_wp2
  go_ret
  exact ⟨by simp, rfl⟩
theorem cmp64_any (a b : Int) (w : World) : Calls Tryz.prog 125 #[.int .i64 a, .int .i64 b] w fun e w' => e = .returned (.int .i64 (cmpI a b)) ∧ w = w' := by
  have HN : Hid (∀ x W, Calls Tryz.prog 173 #[.int .i64 x] W fun e w' => e = .returned (.bool false) ∧ W = w') := nan64_any
  have hc : (a < b ∧ cmpI a b = -1) ∨ (¬ a < b ∧ b < a ∧ cmpI a b = 1) ∨ (¬ a < b ∧ ¬ b < a ∧ cmpI a b = 0) := by
    unfold cmpI
    by_cases h1 : a < b
    · simp [h1]
    · by_cases h2 : b < a <;> simp [h1, h2]
  generalize cmpI a b = c at *
  rcases hc with ⟨h1, rfl⟩ | ⟨h1, h2, rfl⟩ | ⟨h1, h2, rfl⟩
  all_goals
    go_enter Tryz.func125, Tryz.ntmps125
    go_wp2_with (go_at_call 173; refine (HN.out _ _).mono ?_; rintro e w1 ⟨rfl, rfl⟩)
    go_ret
    exact ⟨rfl, rfl⟩
theorem cmp_any (a b : Int) (w : World) : Calls Tryz.prog 126 #[.int .i64 a, .int .i64 b] w fun e w' => e = .returned (.int .i64 (cmpI a b)) ∧ w = w' := by
  have HN : Hid (∀ x W, Calls Tryz.prog 174 #[.int .i64 x] W fun e w' => e = .returned (.bool false) ∧ W = w') := nan_any
  have hc : (a < b ∧ cmpI a b = -1) ∨ (¬ a < b ∧ b < a ∧ cmpI a b = 1) ∨ (¬ a < b ∧ ¬ b < a ∧ cmpI a b = 0) := by
    unfold cmpI
    by_cases h1 : a < b
    · simp [h1]
    · by_cases h2 : b < a <;> simp [h1, h2]
  generalize cmpI a b = c at *
  rcases hc with ⟨h1, rfl⟩ | ⟨h1, h2, rfl⟩ | ⟨h1, h2, rfl⟩
  all_goals
    go_enter Tryz.func126, Tryz.ntmps126
    go_wp2_with (go_at_call 174; refine (HN.out _ _).mono ?_; rintro e w1 ⟨rfl, rfl⟩)
    go_ret
    exact ⟨rfl, rfl⟩
def orI (x y : Int) : Int := if x = 0 then y else x
theorem or_any (x y : Int) (g : Nat) (w : World) (h : w.heap[g]? = some (.cells #[.int .i64 x, .int .i64 y] 3 (0, 0))) : Calls Tryz.prog 124 #[.slice (some ⟨g, 0, none⟩) 2 2] w fun e w' => e = .returned (.int .i64 (orI x y)) ∧ w = w' := by
  have HG := Lib.hid h
  have c0 : w.cell? ⟨g, 0, none⟩ = some (.int .i64 x) := cell_of_row _ _ _ _ _ _ h
  have c1 : w.cell? ⟨g, 1, none⟩ = some (.int .i64 y) := cell_of_row _ _ _ _ _ _ h
  clear h
  obtain ⟨c, hcc⟩ : ∃ c, orI x y = c := ⟨_, rfl⟩
  have HC := Lib.hid hcc
  rw [hcc]
  clear hcc
  go_enter Tryz.func124, Tryz.ntmps124
  go_wp2
  go_loopg [8] 2 (fun gk i wr => ∃ k : Nat, gk = 2 - k ∧ k ≤ 2 ∧ i = .int .i64 (k : Int) ∧ wr = w ∧ (k = 0 ∨ Hid (x = 0)) ∧ (k ≤ 1 ∨ Hid (y = 0)))
  case atStart => exact ⟨0, rfl, by decide, rfl, rfl, .inl rfl, .inl (by decide)⟩
  case round =>
    obtain ⟨k, rfl, hk, rfl, rfl, hx, hy⟩ := hrel
    match k, hk, hx, hy with
    | 0, _, _, _ =>
      by_cases h0 : x = 0
      · have h0' : (x != 0) = false := by simp [h0]
        have H0 := Lib.hid h0
        clear h0
        go_wp2
        go_roundg 1
        case measure => decide
        case rel => exact ⟨1, rfl, by decide, rfl, rfl, .inr H0, .inl (by decide)⟩
      · have h0' : (x != 0) = true := by simp [h0]
        have HE : Hid (c = x) := by show c = x; rw [← HC.out]; unfold orI; rw [if_neg h0]
        go_wp2
        go_ret
        exact ⟨by rw [HE.out]; rfl, rfl⟩
    | 1, _, hx, _ =>
      have hx0 : x = 0 := by
        rcases hx with h | h
        · cases h
        · exact h.out
      have e : c = y := by rw [← HC.out]; unfold orI; rw [if_pos hx0]
      have HX : Hid (x = 0) := hx0
      clear hx0 hx
      by_cases h0 : y = 0
      · have h0' : (y != 0) = false := by simp [h0]
        have H0 := Lib.hid h0
        have HE := Lib.hid e
        clear h0 e
        go_wp2
        go_roundg 0
        case measure => decide
        case rel => exact ⟨2, rfl, by decide, rfl, rfl, .inr HX, .inr H0⟩
      · have h0' : (y != 0) = true := by simp [h0]
        have HE := Lib.hid e
        clear e
        go_wp2
        go_ret
        exact ⟨by rw [HE.out]; rfl, rfl⟩
    | 2, _, hx, hy =>
      have hx0 : x = 0 := by
        rcases hx with h | h
        · cases h
        · exact h.out
      have hy0 : y = 0 := by
        rcases hy with h | h
        · omega
        · exact h.out
      have HE : Hid (c = 0) := by show c = 0; rw [← HC.out]; unfold orI; rw [if_pos hx0]; exact hy0
      clear hx0 hy0 hx hy
      go_wp2
      go_ret
      exact ⟨by rw [HE.out]; rfl, rfl⟩
/-- Which of two tasks is ahead. -/
def aheadB (m s m' s' : Int) : Bool := decide (m' < m ∨ (m = m' ∧ s < s'))
theorem ahead_eq (m s m' s' : Int) : decide (orI (cmpI m' m) (cmpI s s') < 0) = aheadB m s m' s' := by
  unfold aheadB
  rw [decide_eq_decide]
  unfold orI cmpI
  split <;> split <;> (try split) <;> omega
theorem alloc_at0 (A : World) (o : Obj) (g : Nat) (h : A.heap.size = g) : (A.alloc o).heap[g]? = some o := by rw [← h]; exact heap_alloc_new _ _
theorem alloc_at1 (A : World) (o : Obj) (g : Nat) (h : A.heap.size = g) : (A.alloc o).drew.heap[g]? = some o := alloc_at0 A o g h
theorem alloc_at2 (A : World) (o : Obj) (g : Nat) (h : A.heap.size = g) : (A.alloc o).drew.drew.heap[g]? = some o := alloc_at0 A o g h
theorem bel_drew {B : Nat} {w W : World} (h : Below B w W) : Below B w W.drew := ⟨h.os, h.tape, h.output, h.size, h.block⟩
theorem bel3 (w : World) (a b c : Obj) : Below w.heap.size w (((w.alloc a).alloc b).alloc c).drew := bel_drew ((((Below.refl _ _).alloc (Nat.le_refl _) _).alloc (by simp) _).alloc (by simp; omega) _)
theorem ahead_any (m s m' s' : Int) (w : World) : Calls Tryz.prog 113 #[.agg #[.int .i64 m, .int .i64 s], .agg #[.int .i64 m', .int .i64 s']] w fun e w' => e = .returned (.bool (aheadB m s m' s')) ∧ Below w.heap.size w w' := by
  have HN : Hid (∀ x y W, Calls Tryz.prog 125 #[.int .i64 x, .int .i64 y] W fun e w' => e = .returned (.int .i64 (cmpI x y)) ∧ W = w') := cmp64_any
  have HM : Hid (∀ x y W, Calls Tryz.prog 126 #[.int .i64 x, .int .i64 y] W fun e w' => e = .returned (.int .i64 (cmpI x y)) ∧ W = w') := cmp_any
  have HO : Hid (∀ (x y : Int) (g : Nat) (W : World), W.heap[g]? = some (.cells #[.int .i64 x, .int .i64 y] 3 (0, 0)) → Calls Tryz.prog 124 #[.slice (some ⟨g, 0, none⟩) 2 2] W fun e w' => e = .returned (.int .i64 (orI x y)) ∧ W = w') := fun x y g W h => or_any x y g W h
  rw [← ahead_eq]
  go_enter Tryz.func113, Tryz.ntmps113
  go_wp2_with fail
  go_region_held3 (fun w' => w'.cell? ⟨w.heap.size, 0, none⟩ = some (.int .i64 m) ∧ w'.cell? ⟨w.heap.size, 1, none⟩ = some (.int .i64 s) ∧ w'.cell? ⟨w.heap.size + 1, 0, none⟩ = some (.int .i64 m') ∧ w'.cell? ⟨w.heap.size + 1, 1, none⟩ = some (.int .i64 s')) (go_keep)
    (first
    | (go_at_call 125; refine (HN.out _ _ _).mono ?_; rintro e w1 ⟨rfl, rfl⟩)
    | (go_at_call 126; refine (HM.out _ _ _).mono ?_; rintro e w1 ⟨rfl, rfl⟩)
    | (go_at_call 124; refine (HO.out _ _ _ _ (by first | exact alloc_at0 _ _ _ (by simp) | exact alloc_at1 _ _ _ (by simp) | exact alloc_at2 _ _ _ (by simp))).mono ?_; rintro e w1 ⟨rfl, rfl⟩))
  go_wp2
  go_ret
  refine ⟨rfl, ?_⟩
  exact bel3 _ _ _ _
/-- Which of two results is nearer. -/
def nearB (i f i' f' : Int) : Bool := decide (f < f' ∨ (f = f' ∧ i < i'))
theorem near_eq (i f i' f' : Int) : decide (orI (cmpI f f') (cmpI i i') < 0) = nearB i f i' f' := by
  unfold nearB
  rw [decide_eq_decide]
  unfold orI cmpI
  split <;> split <;> (try split) <;> omega
theorem near_any (i f i' f' : Int) (w : World) : Calls Tryz.prog 85 #[.agg #[.int .i64 i, .int .i64 f], .agg #[.int .i64 i', .int .i64 f']] w fun e w' => e = .returned (.bool (nearB i f i' f')) ∧ Below w.heap.size w w' := by
  have HN : Hid (∀ x y W, Calls Tryz.prog 125 #[.int .i64 x, .int .i64 y] W fun e w' => e = .returned (.int .i64 (cmpI x y)) ∧ W = w') := cmp64_any
  have HM : Hid (∀ x y W, Calls Tryz.prog 126 #[.int .i64 x, .int .i64 y] W fun e w' => e = .returned (.int .i64 (cmpI x y)) ∧ W = w') := cmp_any
  have HO : Hid (∀ (x y : Int) (g : Nat) (W : World), W.heap[g]? = some (.cells #[.int .i64 x, .int .i64 y] 3 (0, 0)) → Calls Tryz.prog 124 #[.slice (some ⟨g, 0, none⟩) 2 2] W fun e w' => e = .returned (.int .i64 (orI x y)) ∧ W = w') := fun x y g W h => or_any x y g W h
  rw [← near_eq]
  go_enter Tryz.func85, Tryz.ntmps85
  go_wp2_with fail
  go_region_held3 (fun w' => w'.cell? ⟨w.heap.size, 0, none⟩ = some (.int .i64 i) ∧ w'.cell? ⟨w.heap.size, 1, none⟩ = some (.int .i64 f) ∧ w'.cell? ⟨w.heap.size + 1, 0, none⟩ = some (.int .i64 i') ∧ w'.cell? ⟨w.heap.size + 1, 1, none⟩ = some (.int .i64 f')) (go_keep)
    (first
    | (go_at_call 125; refine (HN.out _ _ _).mono ?_; rintro e w1 ⟨rfl, rfl⟩)
    | (go_at_call 126; refine (HM.out _ _ _).mono ?_; rintro e w1 ⟨rfl, rfl⟩)
    | (go_at_call 124; refine (HO.out _ _ _ _ (by first | exact alloc_at0 _ _ _ (by simp) | exact alloc_at1 _ _ _ (by simp) | exact alloc_at2 _ _ _ (by simp))).mono ?_; rintro e w1 ⟨rfl, rfl⟩))
  go_wp2
  go_ret
  refine ⟨rfl, ?_⟩
  exact bel3 _ _ _ _
end Go.Proofs.YtladmconpolneaaGreat

/- The heap of tasks: what it does, as plain Lean; Peek, Push. -/
set_option linter.unusedVariables false
set_option linter.unusedSimpArgs false
namespace Go.Proofs.YtladmconpolneaaGreat
open Go.RowKit
abbrev El := List Int
def swapL (l : List El) (i j : Nat) : List El := (l.set i (l.getD j [])).set j (l.getD i [])
theorem swapL_length (l : List El) (i j : Nat) : (swapL l i j).length = l.length := by simp [swapL]
def upF (lt : El → El → Bool) : Nat → List El → Nat → List El
  | 0, l, _ => l
  | f + 1, l, k => if k = 0 then l else if lt (l.getD k []) (l.getD ((k - 1) / 2) []) then upF lt f (swapL l k ((k - 1) / 2)) ((k - 1) / 2) else l
def pushL (lt : El → El → Bool) (l : List El) (x : El) : List El := upF lt (l.length + 1) (l ++ [x]) l.length
def bestL (lt : El → El → Bool) (l : List El) (b q : Nat) : Nat := if q < l.length ∧ lt (l.getD q []) (l.getD b []) = true then q else b
def sinkF (lt : El → El → Bool) : Nat → List El → Nat → List El
  | 0, l, _ => l
  | f + 1, l, k => if bestL lt l (bestL lt l k (2 * k + 1)) (2 * k + 2) = k then l else sinkF lt f (swapL l k (bestL lt l (bestL lt l k (2 * k + 1)) (2 * k + 2))) (bestL lt l (bestL lt l k (2 * k + 1)) (2 * k + 2))
def popL (lt : El → El → Bool) (l : List El) : List El := sinkF lt l.length ((l.set 0 (l.getD (l.length - 1) [])).take (l.length - 1)) 0
structure HeapAt (w : World) (B h : Nat) (F v : Value) (l : List El) : Prop where
  box : w.heap[h]? = some (.cells #[F, v] 253 (0, 0))
  base : B ≤ h
  row : RowAt w B 205 4 v l
section
variable {P : Program} {ops : Array Oper} {rest : List Oper} {o : Oper} {a : Act} {Q : Exit → Act → World → Prop}
/-- 'append(v, x)', x an element of some whole numbers, as a step of a region that draws its order. -/
theorem step_append_row {w : World} {K : Act → World → Prop} {E : Prop} (base : Nat) (hgd : o.guard = none) (s x : Operand) (t e : TypeId) (z : Value) (sz bytes : Nat)
    (ho : o.op = .call { callee := .builtin .append, args := #[s, x], argTypes := #[t, t] })
    (ht : P.underlying t = some (.slice e)) (hinfo : (P.info? e).map (fun i => (i.zero, i.size, i.bytes)) = some (some z, sz, bytes)) (hz : z.cells.size = sz) (hsz : 0 < sz) (hb0 : 0 < bytes)
    (v : Value) (l : List El) (hs : a.eval s = v) (hrow : RowAt w base e sz v l) (g : Nat) (y : El) (hy : y.length = sz) (hx : a.eval x = .slice (some ⟨g, 0, none⟩) 1 1) (hg : w.heap[g]? = some (.cells (i64V y).toArray e (0, 0)))
    (hb : (l.length + 1) * bytes ≤ 140737488355328) (hbase : base ≤ w.heap.size)
    (h : ∀ A1 c1 w1, RowAt w1 base e sz (.slice A1 (l.length + 1) c1) (l ++ [y]) → w.grownBy w1 v.ownBlock → ((Value.slice A1 (l.length + 1) c1).ownBlock = v.ownBlock ∨ (Value.slice A1 (l.length + 1) c1).ownBlock = some w.heap.size) → K (a.put o.dst (.slice A1 (l.length + 1) c1)) w1) :
    if Region.wanted o (yielded ops a.tmps) = true then Oper.wp P o a w K Q else E := by
  obtain ⟨i0, hi, hz0, hz1, hz2⟩ := info_parts hinfo
  have hlen : l.length + 1 ≤ 140737488355328 := Nat.le_trans (Nat.le_mul_of_pos_right _ hb0) hb
  have hw : Region.wanted o (yielded ops a.tmps) = true := by simp [Region.wanted, hgd]
  rw [if_pos hw]
  obtain ⟨cells, hown, hr⟩ := hrow
  obtain ⟨v', w', hrun, h2, h3, _, h5⟩ := run_append_own_at (P := P) w base t o.type e i0 z sz bytes ht hi hz0 hz1 hz2 hz hsz v l.length cells hown ⟨g, 0, none⟩ 1 1 (i64V y) (by rw [i64V_length]; omega)
    (fun j u hj => World.news_of_block (cs := (i64V y).toArray) (t := e) (fr := (0, 0)) hg j u (by simpa using hj)) (i64V_one y) (by simp only [maxLen]; omega) hb hbase
  obtain ⟨A1, c1, rfl⟩ := own_slice h2
  unfold Oper.wp execOp
  simp only [ho, resolve, invoke, builtin, Sem.run_bind, Sem.run_pure, Result.andThen_ok, List.map_toArray, List.map_cons, List.map_nil, hs, hx, hrun]
  refine h A1 c1 w' ⟨cells ++ i64V y, ?_, hr.snoc ⟨rfl, hy⟩ (by rw [i64V_length, hy])⟩ h3 h5
  rw [List.length_append, List.length_singleton]; exact h2
end
theorem Tryz.info205 : (Tryz.prog.info? 205).map (fun i => (i.zero, i.size, i.bytes)) = some (some (.agg #[.int .i64 0, .int .i64 0, .int .i64 0, .int .i64 0]), 4, 32) := by kernel_rfl
theorem Tryz.size205 : (Tryz.prog.info? 205).map (·.size) = some 4 := by kernel_rfl
theorem results_cell_slot {P : Program} {fn : Func} {p q : Tmp} {ty : TypeId} (h : fn.results = #[.cell p ty, .tmp q]) (tmps : Array Value) (w : World) (g : Nat) (t : TypeId) (cs : Array Value) (fr : Nat × Nat) (d : TypeDesc)
    (hp : tmps.getD p undef = .pointer (some ⟨g, 0, none⟩)) (hg : w.heap[g]? = some (.cells cs t fr))
    (hu : P.underlying ty = some d) (hd : (match d with | .struct _ | .array _ _ => true | _ => false) = true) (hi : (P.info? ty).map (·.size) = some cs.size) :
    (results fn tmps).run P w = .ok (.tuple #[.agg cs, tmps.getD q undef]) w := by
  have hp' : tmps[p]?.getD undef = .pointer (some ⟨g, 0, none⟩) := by simpa using hp
  simp [results, h, hp', asAddr, run_loadVar_row w g t ty cs fr d hg hu hd hi]
theorem El.four {x : El} (h : x.length = 4) : ∃ a b c d, x = [a, b, c, d] := by
  match x, h with
  | [a, b, c, d], _ => exact ⟨a, b, c, d, rfl⟩
abbrev zero4 : Array Value := #[.int .i64 0, .int .i64 0, .int .i64 0, .int .i64 0]
def PeekPost (w : World) (l : List El) (e : Ending) (w' : World) : Prop :=
  (∀ x r, l = x :: r → e = .returned (.tuple #[.agg (i64V x).toArray, .bool true])) ∧ (l = [] → e = .returned (.tuple #[.agg zero4, .bool false])) ∧ Below w.heap.size w w'
theorem peek_any (B h : Nat) (F v : Value) (l : List El) (w : World) (hh : HeapAt w B h F v l) : Calls Tryz.prog 151 #[.pointer (some ⟨h, 0, none⟩)] w (PeekPost w l) := by
  obtain ⟨A, c, rfl⟩ := hh.row.slice
  have c1 : w.cell? ⟨h, 1, none⟩ = some (.slice A l.length c) := cell_of_row _ _ _ _ _ _ hh.box
  have HH := Lib.hid hh
  have HI := Lib.hid Tryz.size205
  have hlt := lt_of_block hh.box
  clear hh
  have HB1 : Hid (∀ o, Below w.heap.size w (w.alloc o)) := fun o => (Below.refl _ _).alloc (Nat.le_refl _) _
  cases l with
  | nil =>
    have c1' : w.cell? ⟨h, 1, none⟩ = some (.slice A 0 c) := c1
    clear c1
    go_enter Tryz.func151, Tryz.ntmps151
    go_wp2_with fail
    refine bodyPost_ret (results_cell_slot rfl _ _ w.heap.size 205 zero4 (0, 0) _ rfl (by first | exact heap_alloc_new _ _ | (rw [Below.heap_alloc _ _ _ (by simp)]; exact heap_alloc_new _ _)) Tryz.underlying205 rfl HI.out) rfl ?_
    exact ⟨fun x r e => (by cases e), fun _ => rfl, by first | exact HB1.out _ | exact (HB1.out _).alloc (by simp) _⟩
  | cons x r =>
    obtain ⟨g, rfl⟩ := HH.out.row.addr (by simp)
    obtain ⟨q1, q2, q3⟩ := HH.out.row.cell 0 (by simp)
    have q3' : x.length = 4 := q3
    obtain ⟨a, b, d, k, rfl⟩ := El.four q3'
    have HQ : Hid (∀ o, (w.alloc o).rangeAt g 0 [.int .i64 a, .int .i64 b, .int .i64 d, .int .i64 k]) := fun o => by
      have q0 : w.rangeAt g (0 * 4) [.int .i64 a, .int .i64 b, .int .i64 d, .int .i64 k] := q1
      rw [Nat.zero_mul] at q0
      exact World.rangeAt_alloc q0 o
    have c1' : w.cell? ⟨h, 1, none⟩ = some (.slice (some ⟨g, 0, none⟩) (r.length + 1) c) := c1
    clear c1 q1 q2 q3 q3'
    have hp : (0 : Int) < (r.length : Int) + 1 := by omega
    have hz : (((r.length : Int) + 1) == 0) = false := by rw [beq_eq_false_iff_ne]; omega
    have HZ := Lib.hid (heap_alloc_new w (.cells zero4 205))
    obtain ⟨W, hW⟩ : ∃ W, (w.alloc (.cells zero4 205)).setRow w.heap.size #[.int .i64 a, .int .i64 b, .int .i64 d, .int .i64 k] = W := ⟨_, rfl⟩
    have HW := Lib.hid hW
    have HGW : Hid (W.heap[w.heap.size]? = some (.cells #[.int .i64 a, .int .i64 b, .int .i64 d, .int .i64 k] 205 (0, 0))) := by
      show _ = _
      rw [← hW]; exact setRow_heap (w.alloc (.cells zero4 205)) w.heap.size zero4 _ 205 (0, 0) HZ.out
    have HBW : Hid (Below w.heap.size w W) := by
      show Below _ _ _
      rw [← hW]; exact (HB1.out _).trans ⟨rfl, rfl, rfl, by simp, fun i hi => setRow_other _ _ _ _ (by omega)⟩
    clear hW
    go_enter Tryz.func151, Tryz.ntmps151
    go_wp2_with (first
      | (refine wpList_load_mid rfl 205 (.tmp 16) rfl g 0 rfl [.int .i64 a, .int .i64 b, .int .i64 d, .int .i64 k] _ (HQ.out _) Tryz.underlying205 rfl HI.out ?_)
      | (refine wpList_store_row rfl 205 (.tmp 2) (.tmp 17) rfl w.heap.size rfl 205 zero4 #[.int .i64 a, .int .i64 b, .int .i64 d, .int .i64 k] rfl HZ.out HI.out rfl (by simp [Value.oneCell']) ?_; rw [HW.out]))
    refine bodyPost_ret (results_cell_slot rfl _ _ w.heap.size 205 #[.int .i64 a, .int .i64 b, .int .i64 d, .int .i64 k] (0, 0) _ rfl HGW.out Tryz.underlying205 rfl HI.out) rfl ?_
    refine ⟨fun x r e => ?_, fun e => (by cases e), HBW.out⟩
    rw [← (List.cons.inj e).1]
    rfl
end Go.Proofs.YtladmconpolneaaGreat

/- The heap of tasks: Push. -/
set_option linter.unusedVariables false
set_option linter.unusedSimpArgs false
namespace Go.Proofs.YtladmconpolneaaGreat
open Go.RowKit
/-- What 'first' answers, while the heap's own blocks change. -/
def FirstOk (w : World) (lt : El → El → Bool) : Prop := ∀ (W : World) (x y : El), KeepT [205, 253] w W → x.length = 4 → y.length = 4 → Calls Tryz.prog 112 #[.agg (i64V x).toArray, .agg (i64V y).toArray] W fun e w' => e = .returned (.bool (lt x y)) ∧ Below W.heap.size W w'
abbrev FN : Value := .func (.func 112) #[] #[]
/-- Of the blocks that stand only the heap's own two change. -/
def HStep (h : Nat) (w : World) (v : Value) (w' : World) (v' : Value) : Prop := w.heap.size ≤ w'.heap.size ∧ (∀ k, k < w.heap.size → k ≠ h → v.ownBlock ≠ some k → w'.heap[k]? = w.heap[k]?) ∧ (∀ k, v'.ownBlock = some k → k < w.heap.size → v.ownBlock = some k)
theorem HStep.trans {h : Nat} {w w1 w2 : World} {v v1 v2 : Value} (a : HStep h w v w1 v1) (b : HStep h w1 v1 w2 v2) : HStep h w v w2 v2 :=
  ⟨Nat.le_trans a.1 b.1, fun k hk hh hv => (b.2.1 k (Nat.lt_of_lt_of_le hk a.1) hh (fun e => hv (a.2.2 k e hk))).trans (a.2.1 k hk hh hv), fun k e hk => a.2.2 k (b.2.2 k e (Nat.lt_of_lt_of_le hk a.1)) hk⟩
theorem HStep.below {h : Nat} {w w' : World} {v : Value} (hb : Below w.heap.size w w') : HStep h w v w' v := ⟨hb.size, fun k hk _ _ => hb.block k hk, fun k e _ => e⟩
theorem HStep.grown {h : Nat} {w w' : World} {v v' : Value} (hg : w.grownBy w' v.ownBlock) (hn : v'.ownBlock = v.ownBlock ∨ v'.ownBlock = some w.heap.size) : HStep h w v w' v' :=
  ⟨hg.size, fun k hk _ hv => hg.block k hk (fun e => hv e.symm), fun k e hk => by
    rcases hn with hn | hn
    · rw [← hn]; exact e
    · rw [hn] at e; injection e with e; omega⟩
theorem HStep.set {h i : Nat} {w : World} {v x : Value} : HStep h w v (w.setCell ⟨h, i, none⟩ x) v := ⟨by simp [World.setCell], fun k _ hh _ => Below.heap_setCell _ _ _ _ hh, fun k e _ => e⟩
theorem HStep.cells {h g o n c : Nat} {w : World} (ys : List Value) : HStep h w (.slice (some ⟨g, 0, none⟩) n c) (w.setCells g o ys) (.slice (some ⟨g, 0, none⟩) n c) :=
  ⟨by rw [setCells_size]; exact Nat.le_refl _, fun k _ _ hv => setCells_other w g ys o k w (fun e => hv (by rw [e]; rfl)), fun k e _ => e⟩
def HeapPost (w : World) (B h : Nat) (v : Value) (l' : List El) (w' : World) : Prop := ∃ v', HeapAt w' B h FN v' l' ∧ Below B w w' ∧ KeepT [205, 253] w w' ∧ HStep h w v w' v'
theorem KeepT.set {T : List TypeId} {w : World} {g i : Nat} {x : Value} {cs : Array Value} {t : TypeId} {fr : Nat × Nat} (hg : w.heap[g]? = some (.cells cs t fr)) (ht : t ∈ T) : KeepT T w (w.setCell ⟨g, i, none⟩ x) := ⟨by simp [World.setCell], fun k c t' fr' hk ht' => by
  rw [Below.heap_setCell]; exact hk
  rintro rfl
  rw [hg] at hk
  injection hk with hk
  injection hk with _ e
  subst e
  exact ht' ht⟩
theorem KeepT.cells {T : List TypeId} {w : World} {g : Nat} {cs : Array Value} {t : TypeId} {fr : Nat × Nat} (hg : w.heap[g]? = some (.cells cs t fr)) (ht : t ∈ T) (o : Nat) (ys : List Value) : KeepT T w (w.setCells g o ys) := ⟨by rw [setCells_size]; exact Nat.le_refl _, fun k c t' fr' hk ht' => by
  rw [setCells_other w g ys o k w]; exact hk
  rintro rfl
  rw [hg] at hk
  injection hk with hk
  injection hk with _ e
  subst e
  exact ht' ht⟩
theorem KeepT.grown {T : List TypeId} {w w' : World} {v : Value} {B sz n : Nat} {e : TypeId} {xs : List Value} (ho : w.ownsRow B e sz v n xs) (hg : w.grownBy w' v.ownBlock) (he : e ∈ T) : KeepT T w w' := ⟨hg.size, fun k c t fr hk ht => by
  rw [hg.block k (lt_of_block hk) (own_ne2' ho hk (by rintro rfl; exact ht he))]; exact hk⟩
theorem HeapAt.below {w W : World} {B h : Nat} {F v : Value} {l : List El} (hh : HeapAt w B h F v l) (hb : Below w.heap.size w W) : HeapAt W B h F v l :=
  ⟨by rw [hb.block _ (lt_of_block hh.box)]; exact hh.box, hh.base, hh.row.move fun k hk => hb.block k (hh.row.lt k hk).2⟩
/-- Two elements of the heap are exchanged. -/
theorem HeapAt.swap {w : World} {B h g c : Nat} {F : Value} {l : List El} (hh : HeapAt w B h F (.slice (some ⟨g, 0, none⟩) l.length c) l) (i j : Nat) (hi : i < l.length) (hj : j < l.length) :
    HeapAt ((w.setCells g (i * 4) (i64V (l.getD j []))).setCells g (j * 4) (i64V (l.getD i []))) B h F (.slice (some ⟨g, 0, none⟩) l.length c) (swapL l i j) ∧
    Below B w ((w.setCells g (i * 4) (i64V (l.getD j []))).setCells g (j * 4) (i64V (l.getD i []))) ∧ KeepT [205, 253] w ((w.setCells g (i * 4) (i64V (l.getD j []))).setCells g (j * 4) (i64V (l.getD i []))) ∧ HStep h w (.slice (some ⟨g, 0, none⟩) l.length c) ((w.setCells g (i * 4) (i64V (l.getD j []))).setCells g (j * 4) (i64V (l.getD i []))) (.slice (some ⟨g, 0, none⟩) l.length c) := by
  have gi : l.getD i [] = l[i] := by rw [List.getD_eq_getElem?_getD, List.getElem?_eq_getElem hi]; rfl
  have gj : l.getD j [] = l[j] := by rw [List.getD_eq_getElem?_getD, List.getElem?_eq_getElem hj]; rfl
  have li : (l.getD i []).length = 4 := by rw [gi]; exact (hh.row.cell i hi).2.2
  have lj : (l.getD j []).length = 4 := by rw [gj]; exact (hh.row.cell j hj).2.2
  obtain ⟨cur, hc⟩ := hh.row.blk g rfl
  have hB := (hh.row.lt g rfl).1
  have hne : h ≠ g := by
    rintro rfl
    have := hh.box
    rw [hc] at this
    injection this with this
    injection this with _ e
    cases e
  have r1 := hh.row.put i hi _ lj
  have e1 : (l.set i (l.getD j [])).length = l.length := by simp
  have r2 := r1.put j (by rw [e1]; exact hj) _ li
  have e2 : ((l.set i (l.getD j [])).set j (l.getD i [])).length = l.length := by simp
  rw [e2] at r2
  obtain ⟨cur1, hc1⟩ := r1.blk g rfl
  refine ⟨⟨?_, hh.base, r2⟩, bel_setCells g hB _ _ (bel_setCells g hB _ _ (Below.refl _ _)), (KeepT.cells hc (by decide) _ _).trans (KeepT.cells hc1 (by decide) _ _), (HStep.cells _).trans (HStep.cells _)⟩
  rw [setCells_other w g _ _ _ _ hne, setCells_other w g _ _ _ _ hne]; exact hh.box
theorem HeapAt.gbox {w W : World} {B h : Nat} {F v : Value} {l : List El} (hh : HeapAt w B h F v l) (hg : w.grownBy W v.ownBlock) : W.heap[h]? = some (.cells #[F, v] 253 (0, 0)) := by
  obtain ⟨cells, ho, _⟩ := hh.row
  rw [hg.block h (lt_of_block hh.box) (own_ne2 ho hh.box (by decide))]; exact hh.box
theorem HeapAt.gkeep {w W : World} {B h : Nat} {F v : Value} {l : List El} (hh : HeapAt w B h F v l) (hg : w.grownBy W v.ownBlock) : KeepT [205, 253] w W := by
  obtain ⟨cells, ho, _⟩ := hh.row
  exact KeepT.grown ho hg (by decide)
theorem HeapAt.gbel {w W : World} {B h : Nat} {F v : Value} {l : List El} (hh : HeapAt w B h F v l) (hg : w.grownBy W v.ownBlock) (hB : B ≤ w.heap.size) : Below B w W := by
  obtain ⟨cells, ho, _⟩ := hh.row
  exact (Below.refl _ _).grown hg hB (own_base ho)
/-- The heap's field is written. -/
theorem HeapAt.store {w : World} {B h : Nat} {F v v' : Value} {l : List El} (hg : w.heap[h]? = some (.cells #[F, v] 253 (0, 0))) (hb : B ≤ h) (hr : RowAt w B 205 4 v' l) :
    HeapAt (w.setCell ⟨h, 1, none⟩ v') B h F v' l ∧ KeepT [205, 253] w (w.setCell ⟨h, 1, none⟩ v') ∧ Below B w (w.setCell ⟨h, 1, none⟩ v') := by
  refine ⟨⟨heap_setCell_same w h 1 _ _ _ hg, hb, hr.move fun k hk => Below.heap_setCell _ _ _ _ ?_⟩, KeepT.set hg (by decide), (Below.refl _ _).setCell hb _⟩
  rintro rfl
  obtain ⟨cur, hc⟩ := hr.blk _ hk
  rw [hg] at hc
  injection hc with hc
  injection hc with _ e
  cases e
theorem keepc {w W : World} (hb : Below w.heap.size w W) {a : Addr} {v : Value} (h : w.cell? a = some v) : W.cell? a = some v := (hb.cell (World.block_lt_of_cell? w _ h)).trans h
theorem KeepT.heap {T : List TypeId} {w W W' : World} (h : KeepT T w W) (e : W'.heap = W.heap) : KeepT T w W' := ⟨by rw [e]; exact h.1, fun k c t fr hk ht => by rw [e]; exact h.2 k c t fr hk ht⟩
theorem upF_zero (lt : El → El → Bool) (f : Nat) (l : List El) (h : 0 < f) : upF lt f l 0 = l := by
  cases f with
  | zero => omega
  | succ f => simp [upF]
set_option maxHeartbeats 1600000 in
set_option maxRecDepth 100000 in
theorem hpush_any (B h : Nat) (v : Value) (l : List El) (lt : El → El → Bool) (a b d k : Int) (w : World) (hh : HeapAt w B h FN v l) (hF : FirstOk w lt) (hB : B ≤ w.heap.size) (hn : l.length ≤ 60000) :
    Calls Tryz.prog 150 #[.pointer (some ⟨h, 0, none⟩), .agg #[.int .i64 a, .int .i64 b, .int .i64 d, .int .i64 k]] w fun e w' => e = .returned (.tuple #[]) ∧ HeapPost w B h v (pushL lt l [a, b, d, k]) w' := by
  obtain ⟨A, c, rfl⟩ := hh.row.slice
  have hlt := lt_of_block hh.box
  have HN := Lib.hid hn
  have HI := Lib.hid Tryz.size205
  have hb1 : Below w.heap.size w (w.alloc (.cells #[.int .i64 a, .int .i64 b, .int .i64 d, .int .i64 k] 205)) := (Below.refl _ _).alloc (Nat.le_refl _) _
  have hb2 : Below w.heap.size w ((w.alloc (.cells #[.int .i64 a, .int .i64 b, .int .i64 d, .int .i64 k] 205)).alloc (.cells #[.int .i64 a, .int .i64 b, .int .i64 d, .int .i64 k] 205)).drew := bel_drew (hb1.alloc (by simp) _)
  have HH2 := Lib.hid (hh.below hb2)
  have HB2 := Lib.hid hb2
  have c1 : (w.alloc (.cells #[.int .i64 a, .int .i64 b, .int .i64 d, .int .i64 k] 205)).cell? ⟨h, 1, none⟩ = some (.slice A l.length c) := cell_of_row _ _ _ _ _ _ (hh.below hb1).box
  have HF := Lib.hid hF
  obtain ⟨R, hR⟩ : ∃ R, pushL lt l [a, b, d, k] = R := ⟨_, rfl⟩
  have HR : Hid (upF lt (l.length + 1) (l ++ [[a, b, d, k]]) l.length = R) := hR
  rw [hR]
  clear hR
  clear hb1 hb2 hF hh hn
  go_enter Tryz.func150, Tryz.ntmps150
  go_wp2_with fail
  go_cut [] from 6 (fun wc => ∃ (A1 : Option Addr) (c1' : Nat), HeapAt wc B h FN (.slice A1 (l.length + 1) c1') (l ++ [[a, b, d, k]]) ∧ KeepT [205, 253] w wc ∧ Below B w wc ∧ HStep h w (.slice A l.length c) wc (.slice A1 (l.length + 1) c1'))
  case first =>
    go_region_law (first
      | (refine step_append_row B rfl _ _ 251 205 (.agg zero4) 4 32 rfl Tryz.underlying251 Tryz.info205 rfl (by decide) (by decide) (.slice A l.length c) l rfl HH2.out.row (w.heap.size + 1) [a, b, d, k] rfl rfl (alloc_at1 _ _ _ (by simp)) (by have := HN.out; omega) (by simp; omega) ?_; intro A1 c1' w1 hr1 hg1 hn1; have HNW := Lib.hid hn1; have HR1 := Lib.hid hr1; have HG1 := Lib.hid hg1; have ch := cell_of_row w1 h 1 _ _ _ (HH2.out.gbox hg1); have fh := frozen_of_row w1 h 1 _ _ (HH2.out.gbox hg1); clear hr1 hg1 hn1))
    all_goals
      obtain ⟨hst, hk2, hbs⟩ := HeapAt.store (HH2.out.gbox HG1.out) HH2.out.base HR1.out
      go_wp2
      go_meet
      case rel => exact ⟨_, _, hst, ((KeepT.below HB2.out).trans ((HH2.out.gkeep HG1.out).trans hk2)), (((HB2.out.mono hB).trans (HH2.out.gbel HG1.out (by simp; omega))).trans hbs), (HStep.below HB2.out).trans ((HStep.grown HG1.out HNW.out).trans HStep.set)⟩
  obtain ⟨A1, c1', hst, hks, hbs, hss⟩ := hcut
  have HSS := Lib.hid hss
  have HST := Lib.hid hst
  have HKS := Lib.hid hks
  have HBS := Lib.hid hbs
  clear hst hks hbs hss c1
  have e0 : (l ++ [[a, b, d, k]]).length = l.length + 1 := by simp
  generalize l ++ [[a, b, d, k]] = l1 at *
  rw [← e0] at HST HSS
  have ch := cell_of_row wc h 1 _ _ _ HST.out.box
  rw [e0] at ch
  have hn := HN.out
  go_wp2
  clear hn
  have HFW : Hid (∀ W, KeepT [205, 253] wc W → FirstOk W lt) := fun W hk W' x y hk' => HF.out W' x y ((HKS.out.trans hk).trans hk')
  have HN1 : Hid (l1.length ≤ 60001) := by show _ ≤ _; have := HN.out; omega
  have hb0 : B ≤ h := HST.out.base
  clear ch HH2 HB2 HN hlt
  go_loopg [4] (l.length + 1) (fun gk i wr => ∃ (q f c2 : Nat) (A2 : Option Addr) (l2 : List El), f = gk ∧ i = .int .i64 (q : Int) ∧ q < f ∧ q < l2.length ∧ Hid (l2.length = l1.length) ∧ Hid (upF lt f l2 q = R) ∧ Hid (HeapAt wr B h FN (.slice A2 l2.length c2) l2) ∧ Hid (Below B w wr) ∧ Hid (KeepT [205, 253] w wr) ∧ Hid (HStep h w (.slice A l.length c) wr (.slice A2 l2.length c2)))
  case atStart => exact ⟨l.length, l.length + 1, _, _, l1, rfl, rfl, by omega, by omega, Lib.hid rfl, HR, HST, HBS, HKS, HSS⟩
  case round =>
    obtain ⟨q, f, c2, A2, l2, rfl, rfl, hqf, hql, HL2, HR2, HST2, HB2, HK2, HS2⟩ := hrel
    by_cases hq : q = 0
    · subst hq
      have HE : Hid (l2 = R) := by show _ = _; rw [← HR2.out, upF_zero _ _ _ hqf]
      go_wp2
      go_end0
      exact ⟨rfl, _, by have := HST2.out; rw [HE.out] at this; exact this, HB2.out, HK2.out, by have := HS2.out; rw [HE.out] at this; exact this⟩
    · obtain ⟨f, rfl⟩ : ∃ f', f = f' + 1 := ⟨f - 1, by omega⟩
      obtain ⟨u, hu⟩ : ∃ u, (q - 1) / 2 = u := ⟨_, rfl⟩
      have hdiv : ((q : Int) - 1) / 2 = (u : Int) := by omega
      have huq : u < q := by omega
      have hR3 := HR2.out
      simp only [upF, if_neg hq, hu] at hR3
      obtain ⟨g, rfl⟩ := HST2.out.row.addr (by omega)
      obtain ⟨x1, x2, x3⟩ := HST2.out.row.cell q hql
      obtain ⟨y1, y2, y3⟩ := HST2.out.row.cell u (by omega)
      have gq : l2.getD q [] = l2[q] := by rw [List.getD_eq_getElem?_getD, List.getElem?_eq_getElem hql]; rfl
      have gu : l2.getD u [] = l2[u] := by rw [List.getD_eq_getElem?_getD, List.getElem?_eq_getElem (by omega)]; rfl
      have HSW := Lib.hid (fun (W : World) (hW : HeapAt W B h FN (.slice (some ⟨g, 0, none⟩) l2.length c2) l2) => hW.swap q u hql (by omega))
      rw [gq, gu] at hR3
      rw [gq, gu] at HSW
      generalize l2[q] = x at *
      generalize l2[u] = y at *
      obtain ⟨xa, xb, xc, xd, rfl⟩ := El.four x3
      obtain ⟨ya, yb, yc, yd, rfl⟩ := El.four y3
      have HCL : Hid (∀ W, W.heap = wr.heap → Calls Tryz.prog 112 #[.agg #[.int .i64 xa, .int .i64 xb, .int .i64 xc, .int .i64 xd], .agg #[.int .i64 ya, .int .i64 yb, .int .i64 yc, .int .i64 yd]] W fun e w' => e = .returned (.bool (lt [xa, xb, xc, xd] [ya, yb, yc, yd])) ∧ Below W.heap.size W w') := fun W hW => HF.out W _ _ (HK2.out.heap hW) x3 y3
      have ch0 : wr.cell? ⟨h, 0, none⟩ = some FN := cell_of_row wr h 0 _ _ _ HST2.out.box
      have ch1 : wr.cell? ⟨h, 1, none⟩ = some (.slice (some ⟨g, 0, none⟩) l2.length c2) := cell_of_row wr h 1 _ _ _ HST2.out.box
      have kx0 : wr.cell? ⟨g, q * 4, none⟩ = some (.int .i64 xa) := x1 0 _ rfl
      have kx1 : wr.cell? ⟨g, q * 4 + 1, none⟩ = some (.int .i64 xb) := x1 1 _ rfl
      have kx2 : wr.cell? ⟨g, q * 4 + 2, none⟩ = some (.int .i64 xc) := x1 2 _ rfl
      have kx3 : wr.cell? ⟨g, q * 4 + 3, none⟩ = some (.int .i64 xd) := x1 3 _ rfl
      have ky0 : wr.cell? ⟨g, u * 4, none⟩ = some (.int .i64 ya) := y1 0 _ rfl
      have ky1 : wr.cell? ⟨g, u * 4 + 1, none⟩ = some (.int .i64 yb) := y1 1 _ rfl
      have ky2 : wr.cell? ⟨g, u * 4 + 2, none⟩ = some (.int .i64 yc) := y1 2 _ rfl
      have ky3 : wr.cell? ⟨g, u * 4 + 3, none⟩ = some (.int .i64 yd) := y1 3 _ rfl
      have HKEEP := Lib.hid (fun (W : World) (hb : Below wr.heap.size wr W) => And.intro (keepc hb ch0) (And.intro (keepc hb ch1) (And.intro (keepc hb kx0) (And.intro (keepc hb kx1) (And.intro (keepc hb kx2) (And.intro (keepc hb kx3) (And.intro (keepc hb ky0) (And.intro (keepc hb ky1) (And.intro (keepc hb ky2) (keepc hb ky3))))))))))
      have HBL : Hid (B ≤ wr.heap.size) := by show B ≤ wr.heap.size; have := lt_of_block HST2.out.box; omega
      have HR3 := Lib.hid hR3
      have HX := Lib.hid (And.intro x2 y2)
      have hql' : (q : Int) < (l2.length : Int) := by omega
      have hul' : (u : Int) < (l2.length : Int) := by omega
      have hq0 : (0 : Int) < (q : Int) := by omega
      have hqb : (q : Int) ≤ 60001 := by have := HN1.out; have := HL2.out; omega
      have hq9 : (0 : Int) ≤ (q : Int) := by omega
      have hu9 : (0 : Int) ≤ (u : Int) := by omega
      clear hR3 gq gu x1 x2 x3 y1 y2 y3 hu
      go_wp2_with fail
      go_region_held3 (fun W => W.cell? ⟨h, 0, none⟩ = some FN ∧ W.cell? ⟨h, 1, none⟩ = some (.slice (some ⟨g, 0, none⟩) l2.length c2) ∧
          W.cell? ⟨g, q * 4, none⟩ = some (.int .i64 xa) ∧ W.cell? ⟨g, q * 4 + 1, none⟩ = some (.int .i64 xb) ∧ W.cell? ⟨g, q * 4 + 2, none⟩ = some (.int .i64 xc) ∧ W.cell? ⟨g, q * 4 + 3, none⟩ = some (.int .i64 xd) ∧
          W.cell? ⟨g, u * 4, none⟩ = some (.int .i64 ya) ∧ W.cell? ⟨g, u * 4 + 1, none⟩ = some (.int .i64 yb) ∧ W.cell? ⟨g, u * 4 + 2, none⟩ = some (.int .i64 yc) ∧ W.cell? ⟨g, u * 4 + 3, none⟩ = some (.int .i64 yd)) (first | go_keep | exact HKEEP.out _ HB4.out)
        (first | (go_at_call 112; refine (HCL.out _ (by rfl)).mono ?_; rintro e w3 ⟨rfl, hb3⟩; have HB4 : Hid (Below wr.heap.size wr w3) := (bel_drew (Below.refl _ _)).trans hb3; clear hb3))
      cases hlt : lt [xa, xb, xc, xd] [ya, yb, yc, yd] with
      | false =>
        have hE := HR3.out
        rw [hlt] at hE
        have HE := Lib.hid (show l2 = R by simpa using hE)
        have HST4 := Lib.hid (HST2.out.below HB4.out)
        have HLT := Lib.hid hlt
        clear hE hlt
        go_wp2
        go_end0
        exact ⟨rfl, _, by have := HST4.out; rw [HE.out] at this; exact this, HB2.out.trans (HB4.out.mono HBL.out), HK2.out.trans (KeepT.below HB4.out), by have := HS2.out.trans (HStep.below HB4.out); rw [HE.out] at this; exact this⟩
      | true =>
        have hE := HR3.out
        rw [hlt] at hE
        have HE := Lib.hid (show upF lt f (swapL l2 q u) u = R by simpa using hE)
        have HST4 := Lib.hid (HST2.out.below HB4.out)
        obtain ⟨z0, z1, z2, z3, z4, z5, z6, z7, z8, z9⟩ := HKEEP.out w3 HB4.out
        have HSW4 := Lib.hid (HSW.out _ HST4.out)
        obtain ⟨cur, hcur⟩ := HST4.out.row.blk g rfl
        have fg : ∀ o, w3.frozen? ⟨g, o, none⟩ = false := fun o => frozen_of_row _ _ _ _ _ hcur
        have HK3 := Lib.hid (HK2.out.trans (KeepT.below HB4.out))
        have HB3 := Lib.hid (HB2.out.trans (HB4.out.mono HBL.out))
        have HS3 := Lib.hid (HS2.out.trans (HStep.below HB4.out))
        clear HKEEP HCL HSW HST HKS HBS HR HR2 HR3 HX HB4 hE hlt HST2 ch0 ch1 kx0 kx1 kx2 kx3 ky0 ky1 ky2 ky3 z0 hcur HI HF HFW
        go_wp2_with fail
        go_region
        obtain ⟨W, hW⟩ : ∃ W, ((((((((w3.setCell { block := g, off := q * 4 } (Value.int IntKind.i64 ya)).setCell { block := g, off := q * 4 + 1 } (Value.int IntKind.i64 yb)).setCell { block := g, off := q * 4 + 2 } (Value.int IntKind.i64 yc)).setCell { block := g, off := q * 4 + 3 } (Value.int IntKind.i64 yd)).setCell { block := g, off := u * 4 } (Value.int IntKind.i64 xa)).setCell { block := g, off := u * 4 + 1 } (Value.int IntKind.i64 xb)).setCell { block := g, off := u * 4 + 2 } (Value.int IntKind.i64 xc)).setCell { block := g, off := u * 4 + 3 } (Value.int IntKind.i64 xd)).drew = W := ⟨_, rfl⟩
        rw [hW]
        obtain ⟨s1, s2, s3, s4⟩ := HSW4.out
        have S1 : Hid (HeapAt W B h FN (.slice (some ⟨g, 0, none⟩) l2.length c2) (swapL l2 q u)) := by
          show HeapAt _ _ _ _ _ _
          rw [← hW]; exact s1.below (bel_drew (Below.refl _ _))
        have S2 : Hid (Below B w W) := by
          show Below _ _ _
          rw [← hW]; exact HB3.out.trans (bel_drew s2)
        have S3 : Hid (KeepT [205, 253] w W) := by
          show KeepT _ _ _
          rw [← hW]; exact (HK3.out.trans s3).trans (KeepT.below (bel_drew (Below.refl _ _)))
        have S4 : Hid (HStep h w (.slice A l.length c) W (.slice (some ⟨g, 0, none⟩) l2.length c2)) := by
          show HStep _ _ _ _ _
          rw [← hW]; exact (HS3.out.trans s4).trans (HStep.below (bel_drew (Below.refl _ _)))
        clear hW s1 s2 s3 s4 z1 z2 z3 z4 z5 z6 z7 z8 z9 fg HSW4 HST4 HB3 HK3
        go_wp2
        go_roundg f
        case measure => omega
        case rel => exact ⟨u, f, c2, _, swapL l2 q u, rfl, rfl, by omega, by rw [swapL_length]; omega, Lib.hid (by rw [swapL_length]; exact HL2.out), HE, by rw [swapL_length]; exact S1, S2, S3, by rw [swapL_length]; exact S4⟩
end Go.Proofs.YtladmconpolneaaGreat

/- Several texts of this seat, laid together (no statement of its own): their conditions stand in each theorem. -/
import Derived.Test.YtladmconpolneaaGreatMj
import Derived.Test.YtladmconpolneaaGreatMi
import Derived.Test.YtladmconpolneaaGreatMd
/- topk: List. -/
set_option linter.unusedVariables false
set_option linter.unusedSimpArgs false
namespace Go.Proofs.YtladmconpolneaaGreat
open Go.RowKit
attribute [local go_sem] Oper.semAt_some
section
variable {F : Fence} {nF : Nat} {P : Program} {ops : Array Oper} {rest : List Oper} {o : Oper} {a : Act} {Q : Exit → Act → World → Prop}
/-- 'append(v, x)', x an element of some whole numbers, in a round of a range over a function. -/
theorem wpListIn_append_row {w : World} (base : Nat) (hgd : o.guard = none) (s x : Operand) (t e : TypeId) (z : Value) (sz bytes : Nat)
    (ho : o.op = .call { callee := .builtin .append, args := #[s, x], argTypes := #[t, t] })
    (ht : P.underlying t = some (.slice e)) (hinfo : (P.info? e).map (fun i => (i.zero, i.size, i.bytes)) = some (some z, sz, bytes)) (hz : z.cells.size = sz) (hsz : 0 < sz) (hb0 : 0 < bytes)
    (v : Value) (l : List El) (hs : a.eval s = v) (hrow : RowAt w base e sz v l) (g : Nat) (y : El) (hy : y.length = sz) (hx : a.eval x = .slice (some ⟨g, 0, none⟩) 1 1) (hg : w.heap[g]? = some (.cells (i64V y).toArray e (0, 0)))
    (hb : (l.length + 1) * bytes ≤ 140737488355328) (hbase : base ≤ w.heap.size)
    (h : ∀ A1 c1 w1, RowAt w1 base e sz (.slice A1 (l.length + 1) c1) (l ++ [y]) → w.grownBy w1 v.ownBlock → wpListIn F nF P ops Q rest (a.put o.dst (.slice A1 (l.length + 1) c1)) w1) :
    wpListIn F nF P ops Q (o :: rest) a w := by
  obtain ⟨i0, hi, hz0, hz1, hz2⟩ := info_parts hinfo
  have hlen : l.length + 1 ≤ 140737488355328 := Nat.le_trans (Nat.le_mul_of_pos_right _ hb0) hb
  obtain ⟨cells, hown, hr⟩ := hrow
  refine wpListIn_append_own_at w hgd s x t ho base e i0 z sz bytes ht hi hz0 hz1 hz2 hz hsz v l.length cells hs hown ⟨g, 0, none⟩ 1 1 (i64V y) hx (by rw [i64V_length]; omega)
    (fun j u hj => World.news_of_block (cs := (i64V y).toArray) (t := e) (fr := (0, 0)) hg j u (by simpa using hj)) (i64V_one y) (by simp only [maxLen]; omega) hb hbase ?_
  intro v1 w1 hown1 hg1 _ _
  obtain ⟨A1, c1, rfl⟩ := own_slice hown1
  refine h A1 c1 w1 ⟨cells ++ i64V y, ?_, hr.snoc ⟨rfl, hy⟩ (by rw [i64V_length, hy])⟩ hg1
  rw [List.length_append, List.length_singleton]; exact hown1
theorem wpList_append_row {w : World} (base : Nat) (hgd : o.guard = none) (s x : Operand) (t e : TypeId) (z : Value) (sz bytes : Nat)
    (ho : o.op = .call { callee := .builtin .append, args := #[s, x], argTypes := #[t, t] })
    (ht : P.underlying t = some (.slice e)) (hinfo : (P.info? e).map (fun i => (i.zero, i.size, i.bytes)) = some (some z, sz, bytes)) (hz : z.cells.size = sz) (hsz : 0 < sz) (hb0 : 0 < bytes)
    (v : Value) (l : List El) (hs : a.eval s = v) (hrow : RowAt w base e sz v l) (g : Nat) (y : El) (hy : y.length = sz) (hx : a.eval x = .slice (some ⟨g, 0, none⟩) 1 1) (hg : w.heap[g]? = some (.cells (i64V y).toArray e (0, 0)))
    (hb : (l.length + 1) * bytes ≤ 140737488355328) (hbase : base ≤ w.heap.size)
    (h : ∀ A1 c1 w1, RowAt w1 base e sz (.slice A1 (l.length + 1) c1) (l ++ [y]) → w.grownBy w1 v.ownBlock → wpList P ops Q rest (a.put o.dst (.slice A1 (l.length + 1) c1)) w1) :
    wpList P ops Q (o :: rest) a w := by
  obtain ⟨i0, hi, hz0, hz1, hz2⟩ := info_parts hinfo
  have hlen : l.length + 1 ≤ 140737488355328 := Nat.le_trans (Nat.le_mul_of_pos_right _ hb0) hb
  obtain ⟨cells, hown, hr⟩ := hrow
  refine wpList_append_own_at w hgd s x t ho base e i0 z sz bytes ht hi hz0 hz1 hz2 hz hsz v l.length cells hs hown ⟨g, 0, none⟩ 1 1 (i64V y) hx (by rw [i64V_length]; omega)
    (fun j u hj => World.news_of_block (cs := (i64V y).toArray) (t := e) (fr := (0, 0)) hg j u (by simpa using hj)) (i64V_one y) (by simp only [maxLen]; omega) hb hbase ?_
  intro v1 w1 hown1 hg1 _ _
  obtain ⟨A1, c1, rfl⟩ := own_slice hown1
  refine h A1 c1 w1 ⟨cells ++ i64V y, ?_, hr.snoc ⟨rfl, hy⟩ (by rw [i64V_length, hy])⟩ hg1
  rw [List.length_append, List.length_singleton]; exact hown1
end
theorem StepD.bel {B h : Nat} {rb : Option Nat} {A C : World} (x : StepD h rb A C) (h1 : B ≤ A.heap.size) (h2 : B ≤ h) (h3 : ∀ k, rb = some k → B ≤ k) : Below B A C :=
  ⟨x.1.os, x.1.tape, x.1.output, x.1.size, fun k hk => x.2 k (by omega) (by omega) (fun e => by have := h3 k e; omega)⟩
theorem RowAt.stay {w W : World} {B : Nat} {e : TypeId} {sz : Nat} {v : Value} {l : List El} (h : RowAt w B e sz v l) (hk : ∀ k, B ≤ k → k < w.heap.size → W.heap[k]? = w.heap[k]?) : RowAt W B e sz v l := h.move fun k e => hk k (h.lt k e).1 (h.lt k e).2
theorem SelAt.putObj {W : World} {B s q h r : Nat} {most at_ : Int} {v : Value} {l : List El} (x : SelAt W B s q h most at_ v l) (o : Obj) (h1 : s < r) (h2 : q < r) (h3 : h < r) (h4 : ∀ k, v.ownBlock = some k → k < r) : SelAt (W.putObj r o) B s q h most at_ v l :=
  ⟨(World.putObj_heap_other (by omega)).trans x.box, (World.putObj_heap_other (by omega)).trans x.var, x.base, x.heap.move (World.putObj_heap_other (by omega)) (fun k hk => World.putObj_heap_other (by have := h4 k hk; omega))⟩
/-- What is no cells lies as it lay. -/
def NCs (A B : World) : Prop := ∀ (k : Nat) (o : Obj), A.heap[k]? = some o → o.isCells = false → B.heap[k]? = some o
theorem NCs.trans {A B C : World} (h : NCs A B) (k : NCs B C) : NCs A C := fun i o h1 h2 => k i o (h i o h1 h2) h2
theorem NCs.below {A B : World} (h : Below A.heap.size A B) : NCs A B := fun i o h1 _ => (h.block i (Array.getElem?_eq_some_iff.1 h1).1).trans h1
/-- What List holds while it drains. -/
structure LiAt (w W : World) (B a0 N : Nat) (l : List El) : Prop where
  nc : NCs w W
  row : ∃ v, W.heap[a0]? = some (.cells #[v] 275 (0, 0)) ∧ RowAt W N 270 3 v l
  bel : Below B w W
  size : N ≤ W.heap.size
theorem LiAt.step {w W W' : World} {B a0 N : Nat} {l : List El} (h : LiAt w W B a0 N l) (hn : ∀ (k : Nat) (o : Obj), w.heap[k]? = some o → o.isCells = false → W'.heap[k]? = W.heap[k]?) (hb : Below B W W') (hk : ∀ k, k = a0 ∨ N ≤ k → k < W.heap.size → W'.heap[k]? = W.heap[k]?) : LiAt w W' B a0 N l := by
  obtain ⟨v, h1, h2⟩ := h.row
  exact ⟨fun k o h1 h2 => (hn k o h1 h2).trans (h.nc k o h1 h2), ⟨v, (hk a0 (.inl rfl) (lt_of_block h1)).trans h1, h2.stay fun k hB hl => hk k (.inr hB) hl⟩, h.bel.trans hb, Nat.le_trans h.size hb.size⟩
theorem RowAt.keepT {w W : World} {T : List TypeId} {B : Nat} {e : TypeId} {sz : Nat} {v : Value} {l : List El} (h : RowAt w B e sz v l) (hk : KeepT T w W) (he : e ∉ T) : RowAt W B e sz v l := by
  obtain ⟨cells, h1, h2⟩ := h
  exact ⟨cells, own_keepT h1 hk he, h2⟩
theorem LiAt.keepT {w W W' : World} {T : List TypeId} {B a0 N : Nat} {l : List El} (h : LiAt w W B a0 N l) (hn : ∀ k : Nat, k < w.heap.size → W'.heap[k]? = W.heap[k]?) (hb : Below B W W') (hk : KeepT T W W') (h1 : 275 ∉ T) (h2 : 270 ∉ T) : LiAt w W' B a0 N l := by
  obtain ⟨v, g1, g2⟩ := h.row
  exact ⟨fun k o h1 h2 => (hn k (Array.getElem?_eq_some_iff.1 h1).1).trans (h.nc k o h1 h2), ⟨v, hk.2 _ _ _ _ g1 h1, g2.keepT hk h2⟩, h.bel.trans hb, Nat.le_trans h.size hb.size⟩
theorem SelAt.blocks {W W' : World} {B s q h N : Nat} {most at_ : Int} {v : Value} {l : List El} (x : SelAt W B s q h most at_ v l) (hk : ∀ k, k < N → W'.heap[k]? = W.heap[k]?) (h1 : s < N) (h2 : q < N) (h3 : h < N) (h4 : ∀ k, v.ownBlock = some k → k < N) : SelAt W' B s q h most at_ v l :=
  ⟨(hk _ h1).trans x.box, (hk _ h2).trans x.var, x.base, x.heap.move (hk _ h3) (fun k e => hk _ (h4 k e))⟩
def outE (x : El) : El := [x.getD 0 0, x.getD 1 0]
/-- What List holds while it pushes again. -/
structure LjAt (w Wm W : World) (B s q h N : Nat) (most at_ : Int) (va vo : Value) (R : List El) (k : Nat) (v : Value) (L : List El) : Prop where
  sel : SelAt W B s q h most at_ v L
  len : L.length = k
  out : RowAt W w.heap.size 54 2 vo ((R.take k).map outE)
  all : RowAt W N 270 3 va R
  ne : ∀ b, va.ownBlock = some b → v.ownBlock ≠ some b
  nc : NCs Wm W
  bel : Below B w W
theorem LjAt.below {w Wm W W' : World} {B s q h N : Nat} {most at_ : Int} {va vo : Value} {R : List El} {k : Nat} {v : Value} {L : List El} (x : LjAt w Wm W B s q h N most at_ va vo R k v L) (hb : Below W.heap.size W W') (hB : B ≤ W.heap.size) : LjAt w Wm W' B s q h N most at_ va vo R k v L :=
  ⟨x.sel.below hb, x.len, x.out.keepT (KeepT.below (T := []) hb) (by simp), x.all.keepT (KeepT.below (T := []) hb) (by simp), x.ne, x.nc.trans (NCs.below hb), x.bel.trans (hb.mono hB)⟩
theorem LjAt.push {w Wm W W' : World} {B s q h N : Nat} {most at_ : Int} {va vo : Value} {R : List El} {k : Nat} {v v' : Value} {L L' : List El} (x : LjAt w Wm W B s q h N most at_ va vo R k v L) (hh : HeapE W' B h (FE q) v' L') (hb : Below B W W') (hk : KeepT [270, 324] W W') (hs : HStep h W v W' v') :
    SelAt W' B s q h most at_ v' L' ∧ RowAt W' w.heap.size 54 2 vo ((R.take k).map outE) ∧ RowAt W' N 270 3 va R ∧ (∀ b, va.ownBlock = some b → v'.ownBlock ≠ some b) ∧ NCs Wm W' ∧ Below B w W' := by
  refine ⟨x.sel.heapTo hk hh, x.out.keepT hk (by simp), x.all.move fun b hb => hs.2.1 b (x.all.lt b hb).2 ?_ (x.ne b hb), fun b hb e => ?_, ?_, x.bel.trans hb⟩
  · rintro rfl
    obtain ⟨cur, hc⟩ := x.all.blk _ hb
    rw [x.sel.heap.box] at hc
    injection hc with hc
    injection hc with _ e
    cases e
  · exact x.ne b hb (hs.2.2 b e (x.all.lt b hb).2)
  · intro i o h1 h2
    have h3 := x.nc i o h1 h2
    refine (hs.2.1 i (Array.getElem?_eq_some_iff.1 h3).1 ?_ (fun e => ?_)).trans h3
    · rintro rfl
      rw [x.sel.heap.box] at h3
      injection h3 with h3
      subst h3
      cases h2
    · obtain ⟨cur, hc⟩ := x.sel.heap.row.blk _ e
      rw [hc] at h3
      injection h3 with h3
      subst h3
      cases h2
theorem upFE_length (lt : El → El → Bool) (f : Nat) : ∀ (l : List El) (k : Nat), (upF lt f l k).length = l.length := by
  induction f with
  | zero => intro l k; rfl
  | succ f ih =>
    intro l k
    simp only [upF]
    split
    · rfl
    · split
      · rw [ih, swapL_length]
      · rfl
theorem pushLE_length (lt : El → El → Bool) (l : List El) (x : El) : (pushL lt l x).length = l.length + 1 := by unfold pushL; rw [upFE_length, List.length_append]; rfl
theorem Tryz.infoR : (Tryz.prog.info? 54).map (fun i => (i.zero, i.size, i.bytes)) = some (some (.agg #[.int .i64 0, .int .i64 0]), 2, 16) := by kernel_rfl
def outL (l : List El) : List El := (drainN l l.length).reverse.map outE
def ListPost (w : World) (B : Nat) (l : List El) (e : Ending) (w' : World) : Prop := ∃ A c, e = .returned (.slice A l.length c) ∧ RowAt w' w.heap.size 54 2 (.slice A l.length c) (outL l) ∧ Below B w w' ∧ NCs w w'
set_option maxHeartbeats 3200000 in
set_option maxRecDepth 100000 in
theorem list_any (B s q h : Nat) (most at_ : Int) (v : Value) (l : List El) (w : World) (x : SelAt w B s q h most at_ v l) (hB : B ≤ w.heap.size) (hn : l.length ≤ 50000) :
    Calls Tryz.prog 123 #[.pointer (some ⟨s, 0, none⟩)] w (ListPost w B l) := by
  have HX := Lib.hid x
  have HBB := Lib.hid hB
  have HN := Lib.hid hn
  have c2 : (w.alloc (.cells #[.slice none 0 0] 275)).cell? ⟨s, 2, none⟩ = some (.pointer (some ⟨h, 0, none⟩)) := keepc ((Below.refl _ _).alloc (Nat.le_refl _) _) (cell_of_row _ _ _ _ _ _ x.box)
  clear x hB hn
  refine calls_marks Tryz.func123 rfl ?_
  simp only [Tryz.ntmps123, List.size_toArray, List.length_cons, List.length_nil, Nat.reduceAdd, Nat.reduceSub, Array.replicate_succ, Array.replicate_zero, List.push_toArray, List.append_toArray, List.nil_append, List.cons_append]
  go_wp2_with (first
    | (go_at_call 171; refine (drain_any h _).mono ?_; rintro e w1 ⟨rfl, hb1, hl1⟩; have HB1 := Lib.hid hb1; have HL1 := Lib.hid hl1; clear hb1 hl1)
    | fail)
  have hba : Below w.heap.size w (w.alloc (.cells #[.slice none 0 0] 275)) := (Below.refl _ _).alloc (Nat.le_refl _) _
  have HBX : Hid (w1.heap[w.heap.size + 1]? = some (.cells #[.pointer (some ⟨h, 0, none⟩)] 265 (0, 0))) := by have := HB1.out; simp at this; exact this
  have HA0 : Hid (w1.heap[w.heap.size]? = some (.cells #[.slice none 0 0] 275 (0, 0))) := (HL1.out.block _ (by simp)).trans (heap_alloc_new _ _)
  have HB01 : Hid (Below w.heap.size w w1) := hba.trans (HL1.out.mono hba.size)
  have HX1 := Lib.hid (HX.out.below HB01.out)
  have HN1 : Hid (w.heap.size + 2 ≤ w1.heap.size) := lt_of_block HBX.out
  have HLT : Hid (s < w.heap.size ∧ q < w.heap.size ∧ h < w.heap.size ∧ ∀ k, v.ownBlock = some k → B ≤ k ∧ k < w.heap.size) := ⟨lt_of_block HX.out.box, lt_of_block HX.out.var, lt_of_block HX.out.heap.box, fun k hk => HX.out.heap.row.lt k hk⟩
  have HBS : Hid (B ≤ s ∧ B ≤ q ∧ B ≤ h) := ⟨HX.out.base.1, HX.out.base.2, HX.out.heap.base⟩
  clear hba HB1 HL1 c2
  have hbel : ∀ o o' : Obj, Below w1.heap.size w1 ((w1.alloc o).alloc o') := fun o o' => ((Below.refl _ _).alloc (Nat.le_refl _) _).alloc (by simp) _
  refine wp_rangeT (α := El) (gf := 206) (lb := #[.pointer (some ⟨w.heap.size + 1, 0, none⟩)]) rfl (Go.Proofs.enters_of Tryz.func206 (by kernel_rfl) rfl) (encs := fun x : El => #[.agg (i64V x).toArray])
    (V := fun pre x W => x.length = 3 ∧ ∃ k, k < l.length ∧ pre = drainN l k) (T := StepD h v.ownBlock) (Kp := KpD [w.heap.size + 1, h, s, q] v.ownBlock)
    (S := fun xs W' => xs = drainN l l.length ∧ ∃ v', SelAt W' B s q h most at_ v' [] ∧ v'.ownBlock = v.ownBlock) (Sp := fun _ _ => True)
    (fun o o' _ _ => drain_seq _ B s q h (w.heap.size + 1) most at_ v l (HX1.out.below (hbel o o')) (((hbel o o').block _ (lt_of_block HBX.out)).trans HBX.out) (by have := HN.out; omega) (by have := HBB.out; have := HB01.out.size; have := (hbel o o').size; omega)) (fun _ => rfl)
    (fun pre W => LiAt w W B w.heap.size w1.heap.size pre) (fun _ _ _ => False)
    ?_ ?_ ?_ ?_ ?_ ?_ ?_ ?_ ?_ ?_ ?round ?done ?stop
  · intro A C hs k o hk ho _
    have h1 := HLT.out
    have h2 := HN1.out
    rw [hs.2 k (lt_of_block ho) (by omega) (fun e => by have := (h1.2.2.2 k e).2; omega)]
    exact ho
  · intro pre A C hI hs
    have h1 := HLT.out
    have h2 := HN1.out
    refine hI.step (fun k o h3 h4 => hs.2 k (Array.getElem?_eq_some_iff.1 (hI.nc k o h3 h4)).1 (fun e => by
      subst e
      rw [HX.out.heap.box] at h3
      injection h3 with h3
      subst h3
      cases h4) (fun e => by
      obtain ⟨cur, hc⟩ := HX.out.heap.row.blk _ e
      rw [hc] at h3
      injection h3 with h3
      subst h3
      cases h4)) (hs.bel (by have := HBB.out; have := hI.size; omega) HBS.out.2.2 (fun k e => (h1.2.2.2 k e).1)) (fun k hk hl => hs.2 k hl (by omega) (fun e => by have := (h1.2.2.2 k e).2; omega))
  · intro c pre A C hI _; exact hI
  · intro pre W o o' hI ho hc _
    exact hI.keepT (T := []) (fun k hk => World.putObj_heap_other (by have := HN1.out; omega)) (bel_putObj (Below.refl _ _) (by have := HBB.out; have := HN1.out; omega)) (KeepT.putObj o' ho hc) (by simp) (by simp)
  · intro c pre W o o' hI; exact hI.elim
  · intro A C D h1 h2; exact h1.trans h2
  · intro W o o' ho hc
    refine ⟨bel_putObj (Below.refl _ _) (Nat.zero_le _), fun k hk => World.putObj_heap_other ?_⟩
    have h1 := HLT.out
    have h2 := HN1.out
    rcases hk with hk | hk
    · simp at hk; omega
    · have := (h1.2.2.2 k hk).2; omega
  · rintro xs W o' ⟨rfl, v', h1, h2⟩
    have h3 := HLT.out
    have h4 := HN1.out
    exact ⟨rfl, v', h1.putObj o' (by omega) (by omega) (by omega) (fun k hk => by rw [h2] at hk; have := (h3.2.2.2 k hk).2; omega), h2⟩
  · intro pre W o' _; trivial
  · intro o o' _ _
    have := HBB.out
    have := HN1.out
    exact ⟨(NCs.below HB01.out).trans (NCs.below (hbel o o')), ⟨_, ((hbel o o').block _ (lt_of_block HA0.out)).trans HA0.out, RowAt.nil _ _ _ _⟩, ((HB01.out.mono HBB.out).trans ((hbel o o').mono (by omega))), (hbel o o').size⟩
  case round =>
    rintro y pre x W hI ⟨hx3, k, hk, hpre⟩ hsm
    obtain ⟨xa, xb, xc, rfl⟩ := El.three hx3
    have HI0 := Lib.hid hI
    have HI := Lib.hid Tryz.size270
    have hrW : w1.heap.size + 1 < W.heap.size := by
      cases h9 : W.heap[w1.heap.size + 1]? with
      | none => rw [h9] at hsm; cases hsm
      | some o => exact lt_of_block h9
    have HRW := Lib.hid hrW
    have hpl : pre.length ≤ 50000 := by rw [hpre, drainN_length]; have := HN.out; omega
    have HPL := Lib.hid hpl
    clear hI hsm hrW hx3 hk hpre hpl
    gi_wp2_with (first
      | (refine wpListIn_store_row rfl 270 (.tmp 4) (.tmp 13) rfl W.heap.size rfl 270 zero3 #[.int .i64 xa, .int .i64 xb, .int .i64 xc] rfl (heap_alloc_new _ _) HI.out rfl (by simp [Value.oneCell']) ?_)
      | fail)
    have HBW : Hid (Below W.heap.size W ((W.alloc (.cells zero3 270)).setRow W.heap.size #[.int .i64 xa, .int .i64 xb, .int .i64 xc])) := bel_setRow ((Below.refl _ _).alloc (Nat.le_refl _) _) (Nat.le_refl _)
    have G4 : Hid (((W.alloc (.cells zero3 270)).setRow W.heap.size #[.int .i64 xa, .int .i64 xb, .int .i64 xc]).heap[W.heap.size]? = some (.cells #[.int .i64 xa, .int .i64 xb, .int .i64 xc] 270 (0, 0))) := setRow_heap (W.alloc (.cells zero3 270)) W.heap.size zero3 _ 270 (0, 0) (heap_alloc_new _ _)
    have HBN : Hid (B ≤ w1.heap.size ∧ w1.heap.size ≤ W.heap.size) := ⟨by have := HBB.out; have := HN1.out; omega, HI0.out.size⟩
    generalize (W.alloc (.cells zero3 270)).setRow W.heap.size #[.int .i64 xa, .int .i64 xb, .int .i64 xc] = W1 at *
    refine ⟨Stays.below HBW.out, ?_⟩
    rintro o ho ⟨o1, ho1, ho2⟩
    have hk0 := KeepT.putObj o ho1 ho2
    have hbw2 : Below w1.heap.size W (W1.putObj (w1.heap.size + 1) o) := bel_putObj (HBW.out.mono HBN.out.2) (by omega)
    have HI2 := Lib.hid (HI0.out.keepT (fun k hk => hbw2.block k (by have := HN1.out; omega)) (hbw2.mono HBN.out.1) ((KeepT.below (T := []) HBW.out).trans hk0) (by simp) (by simp))
    have G42 : Hid ((W1.putObj (w1.heap.size + 1) o).heap[W.heap.size]? = some (.cells #[.int .i64 xa, .int .i64 xb, .int .i64 xc] 270 (0, 0))) := (World.putObj_heap_other (by have := HRW.out; omega)).trans G4.out
    have HBW2 := Lib.hid hbw2
    clear hbw2 hk0 ho1 ho2 HBW G4
    generalize W1.putObj (w1.heap.size + 1) o = W2 at *
    obtain ⟨va, ga, ra⟩ := HI2.out.row
    obtain ⟨A, cA, rfl⟩ := ra.slice
    have c1 : W2.cell? ⟨w.heap.size, 0, none⟩ = some (.slice A pre.length cA) := cell_of_row _ _ _ _ _ _ ga
    have HBZ : Hid (Below W2.heap.size W2 (W2.alloc (.cells #[.int .i64 xa, .int .i64 xb, .int .i64 xc] 270))) := (Below.refl _ _).alloc (Nat.le_refl _) _
    have HRA := Lib.hid (ra.keepT (KeepT.below (T := []) HBZ.out) (by simp))
    have HGA := Lib.hid ((HBZ.out.block _ (lt_of_block ga)).trans ga)
    have HNW2 : Hid (w1.heap.size ≤ W2.heap.size) := HI2.out.size
    clear ra ga
    gi_wp2_with (first
      | (refine wpListIn_load_row rfl 270 (.tmp 4) rfl W.heap.size rfl 270 #[.int .i64 xa, .int .i64 xb, .int .i64 xc] (0, 0) _ G42.out Tryz.underlying270 rfl HI.out ?_)
      | (gi_at_builtin; refine wpListIn_append_row w1.heap.size rfl _ _ 275 270 (.agg zero3) 3 24 rfl Tryz.underlying275 Tryz.info270 rfl (by decide) (by decide) (.slice A pre.length cA) pre rfl HRA.out W2.heap.size [xa, xb, xc] rfl rfl (heap_alloc_new _ _) (by have := HPL.out; omega) (by have := HNW2.out; simp; omega) ?_
         intro A1 c1' w5 hr5 hg5
         have hga5 := (hg5.block _ (lt_of_block HGA.out) (by obtain ⟨cells, hown, _⟩ := HRA.out; exact own_ne2 hown HGA.out (by decide))).trans HGA.out
         have c15 : w5.cell? ⟨w.heap.size, 0, none⟩ = some (.slice A pre.length cA) := cell_of_row _ _ _ _ _ _ hga5
         have f15 : w5.frozen? ⟨w.heap.size, 0, none⟩ = false := frozen_of_row _ _ _ _ _ hga5
         have HR5 := Lib.hid hr5
         have HG5 := Lib.hid hg5
         have HGA5 := Lib.hid hga5
         clear hr5 hg5 hga5)
      | fail)
    have hob : ∀ k, (Value.slice A pre.length cA).ownBlock = some k → w1.heap.size ≤ k := fun k hk => (HRA.out.lt k hk).1
    have hn1 := HN1.out
    have hlt := HLT.out
    have hnw := HNW2.out
    have hk5 : ∀ k, k < w1.heap.size → k ≠ w.heap.size → (w5.setCell ⟨w.heap.size, 0, none⟩ (.slice A1 (pre.length + 1) c1')).heap[k]? = W2.heap[k]? := fun k hk hne =>
      (Below.heap_setCell _ _ _ _ hne).trans ((HG5.out.block k (by simp; omega) (fun e => by have := hob k e.symm; omega)).trans (HBZ.out.block k (by omega)))
    have hb5 : Below B W2 (w5.setCell ⟨w.heap.size, 0, none⟩ (.slice A1 (pre.length + 1) c1')) :=
      ((HBZ.out.mono (by have := HBN.out.1; omega)).grown HG5.out (by have := HBN.out.1; simp; omega) (fun k e => by have := hob k e; have := HBN.out.1; omega)).setCell (p := ⟨w.heap.size, 0, none⟩) HBB.out _
    refine ⟨(Stays.below HBZ.out).trans ((Stays.grown HG5.out (fun k hk => ?_)).trans (Stays.setCell HGA5.out)), ⟨(HBW2.out.mono (Nat.zero_le _)).trans (hb5.mono (Nat.zero_le _)), fun k hk => ?_⟩, ⟨fun k o h1 h2 => (hk5 k (by have := (Array.getElem?_eq_some_iff.1 h1).1; omega) (by have := (Array.getElem?_eq_some_iff.1 h1).1; omega)).trans (HI2.out.nc k o h1 h2), ⟨_, heap_setCell_same w5 w.heap.size 0 _ _ _ HGA5.out, ?_⟩, HI2.out.bel.trans hb5, Nat.le_trans HI2.out.size hb5.size⟩⟩
    · obtain ⟨cur, hc⟩ := HRA.out.blk k hk
      exact ⟨_, _, _, hc⟩
    · have h1 : k < w1.heap.size ∧ k ≠ w.heap.size := by
        rcases hk with hk | hk
        · simp at hk; omega
        · have := (hlt.2.2.2 k hk).2; omega
      exact (hk5 k h1.1 h1.2).trans (HBW2.out.block k h1.1)
    · exact HR5.out.keepT (T := [275]) (KeepT.set HGA5.out (by simp)) (by simp)
  case done =>
    rintro xs W ⟨rfl, v', hx', hv'⟩ hI hK
    have hlt := HLT.out
    have hn1 := HN1.out
    obtain ⟨va, ga, ra⟩ := hI.row
    have hdl := drainN_length l l.length
    obtain ⟨D, hD⟩ : ∃ D, drainN l l.length = D := ⟨_, rfl⟩
    have HOUT : Hid (outL l = D.reverse.map outE) := by show outL l = _; unfold outL; rw [hD]
    rw [hD] at ra hdl
    obtain ⟨A, c, rfl⟩ := ra.slice
    have HDL := Lib.hid hdl
    have HRV := Lib.hid (reverse_any w1.heap.size _ D W ra (by have := HN.out; omega) hI.size)
    rw [hdl] at HRV ga ra
    have c1 : W.cell? ⟨w.heap.size, 0, none⟩ = some (.slice A l.length c) := cell_of_row _ _ _ _ _ _ ga
    have hne : ∀ b, (Value.slice A l.length c).ownBlock = some b → ∃ cur, W.heap[b]? = some (.cells cur 270 (0, 0)) := fun b hb => ra.blk b hb
    have HNCW := Lib.hid hI.nc
    have HNE := Lib.hid hne
    have HXW := Lib.hid hx'
    have HV' := Lib.hid hv'
    have HK := Lib.hid hK
    have HGA := Lib.hid ga
    have HBW := Lib.hid hI.bel
    have hlb : (l.length : Int) ≤ 50000 := by have := HN.out; omega
    have hl0 : (0 : Int) ≤ (l.length : Int) := by omega
    clear hx' hv' hI hK ga ra hD hdl hne
    go_wp2_with (first
      | (go_at_call 172; refine HRV.out.mono ?_; rintro e w2 ⟨rfl, hr2, hb2, hs2⟩
         have HX2 := Lib.hid (HXW.out.blocks (fun k hk => hb2.block k hk) (by omega) (by omega) (by omega) (fun k e => by rw [HV'.out] at e; have := (hlt.2.2.2 k e).2; omega))
         have HR2 := Lib.hid hr2
         have HK2 : Hid (NCs W w2) := fun k o h1 h2 => (hs2.2 k (Array.getElem?_eq_some_iff.1 h1).1 (fun e => by
           obtain ⟨cur, hc⟩ := HNE.out _ e
           rw [hc] at h1
           injection h1 with h1
           subst h1
           cases h2)).trans h1
         have hga2 := (hb2.block w.heap.size (by omega)).trans HGA.out
         have HB2 : Hid (Below B w w2) := HBW.out.trans (hb2.mono (by have := HBB.out; omega))
         have c12 : w2.cell? ⟨w.heap.size, 0, none⟩ = some (.slice A l.length c) := cell_of_row _ _ _ _ _ _ hga2
         clear hr2 hb2 hs2 hga2)
      | fail)
    have HNV : Hid (∀ b, (Value.slice A l.length c).ownBlock = some b → v'.ownBlock ≠ some b) := fun b hb e => by
      have h1 := (HR2.out.lt b hb).1
      rw [HV'.out] at e
      have := (hlt.2.2.2 b e).2
      omega
    have HRL : Hid (D.reverse.length = l.length) := by show _ = _; rw [List.length_reverse]; exact HDL.out
    generalize D.reverse = R at *
    have HJ0 : Hid (LjAt w W w2 B s q h w1.heap.size most at_ (.slice A l.length c) (.slice none 0 0) R 0 v' []) := ⟨HX2.out, rfl, RowAt.nil _ _ _ _, HR2.out, HNV.out, HK2.out, HB2.out⟩
    have HBN : Hid (B ≤ w.heap.size ∧ w.heap.size < w1.heap.size) := ⟨HBB.out, by omega⟩
    clear HNV HX2 HR2 HK2 HB2 c12 c1 HXW HV' HGA HBW HRV HNE
    generalize w1.heap.size = N at *
    go_loopg [5, 22] l.length (fun gk o i wr => ∃ (k : Nat) (A2 : Option Addr) (c2 : Nat) (v2 : Value) (L : List El), gk = l.length - k ∧ k ≤ l.length ∧ o = .slice A2 k c2 ∧ i = .int .i64 (k : Int) ∧ Hid (LjAt w W wr B s q h N most at_ (.slice A l.length c) (.slice A2 k c2) R k v2 L))
    case atStart => exact ⟨0, none, 0, v', [], rfl, Nat.zero_le _, rfl, rfl, HJ0⟩
    case round =>
      obtain ⟨k, A2, c2, v2, L, rfl, hk, rfl, rfl, HJ⟩ := hrel
      by_cases hkn : k = l.length
      · subst hkn
        have HRT := Lib.hid (List.take_of_length_le (Nat.le_of_eq HRL.out))
        go_wp2
        refine ⟨by simp, .inl ⟨_, _, rfl, run_takeDeferred (HJ.out.nc _ _ HK.out rfl), ?_⟩⟩
        refine ⟨_, results_tmp rfl _ _ _, A2, c2, rfl, ?_, bel_putObj HJ.out.bel (by have := HBN.out; omega), fun k o h1 h2 => (World.putObj_heap_other (by have := (Array.getElem?_eq_some_iff.1 h1).1; have := HBN.out.2; omega)).trans (HJ.out.nc k o (HNCW.out k o h1 h2) h2)⟩
        have h5 := HJ.out.out
        rw [HRT.out, ← HOUT.out] at h5
        exact h5.keepT (KeepT.putObj _ (HJ.out.nc _ _ HK.out rfl) rfl) (by simp)
      · have hkl : (k : Int) < (l.length : Int) := by omega
        have hkn' : k < l.length := by omega
        have hk9 : (0 : Int) ≤ (k : Int) := by omega
        have hkb : (k : Int) ≤ 50000 := by omega
        have hall := HJ.out.all
        have hrl := HRL.out
        rw [← hrl] at hall
        obtain ⟨gR, rfl⟩ := hall.addr (by omega)
        obtain ⟨x1, x2, x3⟩ := hall.cell k (by omega)
        have htk : (R.take (k + 1)).map outE = (R.take k).map outE ++ [outE R[k]] := by rw [List.take_succ_eq_append_getElem (by omega), List.map_append]; rfl
        generalize R[k] = x at *
        obtain ⟨xa, xb, xc, rfl⟩ := El.three x3
        have kx0 : wr.cell? ⟨gR, k * 3, none⟩ = some (.int .i64 xa) := x1 0 _ rfl
        have kx1 : wr.cell? ⟨gR, k * 3 + 1, none⟩ = some (.int .i64 xb) := x1 1 _ rfl
        have kx2 : wr.cell? ⟨gR, k * 3 + 2, none⟩ = some (.int .i64 xc) := x1 2 _ rfl
        have HTK : Hid ((R.take (k + 1)).map outE = (R.take k).map outE ++ [[xa, xb]]) := htk
        clear hall x1 x2 x3 htk hrl
        have HBA : Hid (Below wr.heap.size wr (wr.alloc (.cells #[.int .i64 xa, .int .i64 xb, .int .i64 xc] 270))) := (Below.refl _ _).alloc (Nat.le_refl _) _
        have HBR : Hid (B ≤ wr.heap.size) := Nat.le_trans HBN.out.1 HJ.out.bel.size
        have HJ3 := Lib.hid (HJ.out.below HBA.out HBR.out)
        have G7 : Hid ((wr.alloc (.cells #[.int .i64 xa, .int .i64 xb, .int .i64 xc] 270)).heap[wr.heap.size]? = some (.cells #[.int .i64 xa, .int .i64 xb, .int .i64 xc] 270 (0, 0))) := heap_alloc_new _ _
        have HSN : Hid (s < w.heap.size ∧ h < wr.heap.size ∧ (∀ b, v2.ownBlock = some b → b < wr.heap.size) ∧ w.heap.size ≤ wr.heap.size) := ⟨hlt.1, lt_of_block HJ.out.sel.heap.box, fun b e => (HJ.out.sel.heap.row.lt b e).2, HJ.out.bel.size⟩
        go_wp2_with fail
        clear kx0 kx1 kx2 HJ
        have HBR3 : Hid (B ≤ (wr.alloc (.cells #[.int .i64 xa, .int .i64 xb, .int .i64 xc] 270)).heap.size ∧ w.heap.size ≤ (wr.alloc (.cells #[.int .i64 xa, .int .i64 xb, .int .i64 xc] 270)).heap.size) := ⟨Nat.le_trans HBR.out HBA.out.size, Nat.le_trans HSN.out.2.2.2 HBA.out.size⟩
        generalize wr.alloc (.cells #[.int .i64 xa, .int .i64 xb, .int .i64 xc] 270) = W3 at *
        clear HBA
        generalize wr.heap.size = k5 at *
        have HCL : Hid (∀ W, W.heap = W3.heap → Calls Tryz.prog 168 #[.pointer (some ⟨h, 0, none⟩), .agg #[.int .i64 xa, .int .i64 xb, .int .i64 xc]] W fun e w' => e = .returned (.tuple #[]) ∧ HeapPostE q W B h v2 (pushL ltE L [xa, xb, xc]) w') := fun W hW =>
          hpushE_any q B h v2 L ltE xa xb xc W (HJ3.out.sel.heap.move (by rw [hW]) (fun k _ => by rw [hW])) (firstE_ok (w := W) (by rw [hW]; exact HJ3.out.sel.var) (by rw [hW]; exact HJ3.out.sel.box) rfl) (by rw [hW]; exact HBR3.out.1) (by have := HN.out; have := HJ3.out.len; omega)
        have p2 : W3.cell? ⟨s, 2, none⟩ = some (.pointer (some ⟨h, 0, none⟩)) := cell_of_row _ _ _ _ _ _ HJ3.out.sel.box
        have p5 : W3.cell? ⟨k5, 0, none⟩ = some (.int .i64 xa) := cell_of_row _ _ _ _ _ _ G7.out
        have p6 : W3.cell? ⟨k5, 1, none⟩ = some (.int .i64 xb) := cell_of_row _ _ _ _ _ _ G7.out
        have p7 : W3.cell? ⟨k5, 2, none⟩ = some (.int .i64 xc) := cell_of_row _ _ _ _ _ _ G7.out
        have HKEEPP := Lib.hid (fun (W : World) (hk : KeepT [270, 324] W3 W) => cell_of_row W s 2 _ _ _ (hk.2 _ _ _ _ HJ3.out.sel.box (by decide)))
        have HGK : Hid (∀ W v5, HStep h W3 v2 W v5 → W.heap[k5]? = some (.cells #[.int .i64 xa, .int .i64 xb, .int .i64 xc] 270 (0, 0))) := fun W v5 hs => (hs.2.1 k5 (lt_of_block G7.out) (fun e => by have := HSN.out.2.1; omega) (fun e => by have := HSN.out.2.2.1 k5 e; omega)).trans G7.out
        go_region_held3 (fun W => W.cell? ⟨s, 2, none⟩ = some (.pointer (some ⟨h, 0, none⟩)) ∧ W.cell? ⟨k5, 0, none⟩ = some (.int .i64 xa) ∧ W.cell? ⟨k5, 1, none⟩ = some (.int .i64 xb) ∧ W.cell? ⟨k5, 2, none⟩ = some (.int .i64 xc)) (first | go_keep | exact ⟨HKEEPP.out _ HK9.out, cell_of_row _ _ _ _ _ _ (HGK.out _ _ HS9.out), cell_of_row _ _ _ _ _ _ (HGK.out _ _ HS9.out), cell_of_row _ _ _ _ _ _ (HGK.out _ _ HS9.out)⟩)
          (first | (go_at_call 168; refine (HCL.out _ (by rfl)).mono ?_; rintro e w9 ⟨rfl, v9, hh9, hb9, hk9, hs9⟩; have HB9 : Hid (Below B W3 w9) := (bel_drew (Below.refl _ _)).trans hb9; have HK9 : Hid (KeepT [270, 324] W3 w9) := hk9; have HS9 : Hid (HStep h W3 v2 w9 v9) := hs9; have H9 := Lib.hid hh9; clear hh9 hb9 hk9 hs9))
        have HP9 := Lib.hid (HJ3.out.push H9.out HB9.out HK9.out HS9.out)
        have G9 := Lib.hid (HGK.out _ _ HS9.out)
        have HZ9 : Hid (w.heap.size ≤ w9.heap.size) := Nat.le_trans HBR3.out.2 HB9.out.size
        have q0 : w9.cell? ⟨k5, 0, none⟩ = some (.int .i64 xa) := cell_of_row _ _ _ _ _ _ G9.out
        have q1 : w9.cell? ⟨k5, 1, none⟩ = some (.int .i64 xb) := cell_of_row _ _ _ _ _ _ G9.out
        have HLL : Hid ((pushL ltE L [xa, xb, xc]).length = k + 1) := by show _ = _; rw [pushLE_length, HJ3.out.len]
        have HTL : Hid (((R.take k).map outE).length = k) := by show _ = _; rw [List.length_map, List.length_take, HRL.out]; omega
        have HBZ : Hid (Below w9.heap.size w9 (w9.alloc (.cells #[.int .i64 xa, .int .i64 xb] 54))) := (Below.refl _ _).alloc (Nat.le_refl _) _
        have HRO := Lib.hid (HP9.out.2.1.keepT (KeepT.below (T := []) HBZ.out) (by simp))
        clear p2 p5 p6 p7 HKEEPP HGK HCL G9 G7 H9 HB9 HK9 HS9 HJ3
        go_wp2_with (first
          | (refine wpList_append_row w.heap.size rfl _ _ 44 54 (.agg #[.int .i64 0, .int .i64 0]) 2 16 rfl Tryz.underlying44 Tryz.infoR rfl (by decide) (by decide) (.slice A2 k c2) ((R.take k).map outE) rfl HRO.out w9.heap.size [xa, xb] rfl rfl (heap_alloc_new _ _) (by rw [HTL.out]; omega) (by have := HZ9.out; simp; omega) ?_
             intro A3 c3 w10 hr10 hg10
             rw [HTL.out] at hr10 ⊢
             have HR10 := Lib.hid hr10
             have HG10 := Lib.hid hg10
             clear hr10 hg10)
          | fail)
        obtain ⟨f1, f2, f3, f4, f5, f6⟩ := HP9.out
        have hkt : KeepT [54] w9 w10 := by
          obtain ⟨cells, hown, _⟩ := HRO.out
          exact (KeepT.below HBZ.out).trans (KeepT.grown hown HG10.out (by simp))
        have hmk : NCs W w10 := fun k o h1 h2 => by
          have h3 := f5 k o h1 h2
          have h4 := (HBZ.out.block k (Array.getElem?_eq_some_iff.1 h3).1).trans h3
          rw [HG10.out.block k (Array.getElem?_eq_some_iff.1 h4).1 (fun e => by
            obtain ⟨cur, hc⟩ := HRO.out.blk k e.symm
            rw [hc] at h4
            injection h4 with h4
            subst h4
            cases h2)]
          exact h4
        have hbl : Below B w w10 := by
          refine (f6.trans (HBZ.out.mono (Nat.le_trans HBN.out.1 HZ9.out))).grown HG10.out ?_ ?_
          · have := HZ9.out; have := HBN.out.1; have := HBZ.out.size; omega
          · intro b hb; have := (HRO.out.lt b hb).1; have := HBN.out.1; omega
        have HJ10 : Hid (LjAt w W w10 B s q h N most at_ (.slice (some ⟨gR, 0, none⟩) l.length c) (.slice A3 (k + 1) c3) R (k + 1) v9 (pushL ltE L [xa, xb, xc])) :=
          ⟨f1.keepT hkt (by decide) (by decide) (by decide) (by decide), HLL.out, by rw [HTK.out]; exact HR10.out, f3.keepT hkt (by decide), f4, hmk, hbl⟩
        clear f1 f2 f3 f4 f5 f6 hkt hmk hbl
        go_roundg (l.length - (k + 1))
        case measure => omega
        case rel => exact ⟨k + 1, A3, c3, v9, _, rfl, by omega, by simp, by simp, HJ10⟩
  case stop =>
    rintro c pre W _ h _
    exact h.elim
end Go.Proofs.YtladmconpolneaaGreat

/- marks.Covers, of a tree's leaves. -/
set_option linter.unusedVariables false
set_option linter.unusedSimpArgs false
namespace Go.Proofs.YtladmconpolneaaGreat
open Go.RowKit
attribute [local go_sem] Oper.semAt_some
theorem results_cell_one {P : Program} {fn : Func} {p : Tmp} {ty : TypeId} (h : fn.results = #[.cell p ty]) (tmps : Array Value) (w : World) (g : Nat) (v : Value) (hp : tmps.getD p undef = .pointer (some ⟨g, 0, none⟩)) (hl : (loadVar ty ⟨g, 0, none⟩).run P w = .ok v w) :
    (results fn tmps).run P w = .ok v w := by
  have hp' : tmps[p]?.getD undef = .pointer (some ⟨g, 0, none⟩) := by simpa using hp
  simp [results, h, hp', asAddr, hl]
theorem loadVar_bool (w : World) (g : Nat) (v : Value) (hc : w.cell? ⟨g, 0, none⟩ = some v) : (loadVar 4 ⟨g, 0, none⟩).run Tryz.prog w = .ok v w := by
  simp [loadVar, hc, go_sem]
/-- The set holds just these ids. -/
def MetIs (X c : Nat) (l : List Nat) : Prop := c = l.length ∧ ∀ i, X.testBit i = decide (i ∈ l)
theorem MetIs.nil : MetIs 0 0 [] := ⟨rfl, fun i => by simp⟩
theorem MetIs.add {X c id : Nat} {l : List Nat} (h : MetIs X c l) (hi : id ∉ l) : X.testBit id = false ∧ MetIs (X ||| 2 ^ id) (c + 1) (l ++ [id]) := by
  refine ⟨by rw [h.2]; simpa using hi, by rw [h.1]; simp, fun i => ?_⟩
  rw [Nat.testBit_or, h.2, Nat.testBit_two_pow]
  by_cases h1 : i ∈ l <;> by_cases h2 : id = i <;> simp [h1, h2, eq_comm] <;> (first | (intro h3; exact absurd h3.symm h2) | omega | skip)
theorem Stays.mstep {B m g : Nat} {W W' : World} {B' n c X : Nat} (h : MStep m g W W') (hm : MarksAt W B' m g n c X) : Stays B W W' := fun k o _ ho hc => by
  rw [h.2 k (Array.getElem?_eq_some_iff.1 ho).1 (by rintro rfl; rw [hm.box] at ho; injection ho with ho; subst ho; cases hc) (by rintro rfl; rw [hm.word] at ho; injection ho with ho; subst ho; cases hc)]
  exact ho
def flatV (pre : List LV) : List Nat := (pre.map (·.1)).flatten
/-- What Covers holds between two rounds. -/
structure CvAt (w W : World) (b4 b5 m g n : Nat) (l : List Nat) : Prop where
  set : ∃ c X, MarksAt W w.heap.size m g n c X ∧ MetIs X c l
  b5 : W.heap[b5]? = some (.cells #[.pointer (some ⟨m, 0, none⟩)] 146 (0, 0))
  b4 : W.heap[b4]? = some (.cells #[.bool false] 4 (0, 0))
  bel : Below w.heap.size w W
theorem CvAt.keep {w W W' : World} {b4 b5 m g n : Nat} {l : List Nat} (h : CvAt w W b4 b5 m g n l) (hk : KeepT [] W W') (hb : Below w.heap.size w W') : CvAt w W' b4 b5 m g n l := by
  obtain ⟨c, X, h1, h2⟩ := h.set
  exact ⟨⟨c, X, h1.keepT hk (by simp) (by simp), h2⟩, hk.2 _ _ _ _ h.b5 (by simp), hk.2 _ _ _ _ h.b4 (by simp), hb⟩
set_option maxHeartbeats 1600000 in
set_option maxRecDepth 100000 in
theorem covers_any (w : World) (ns : List Node) (B cap b1 n : Nat) (Vp : Option Addr) (cells : List Value) (h2 : w.ownsRow B 70 6 (.slice Vp ns.length cap) ns.length cells) (h3 : Rows (NodeR w) 6 ns cells) (hlen : ns.length ≤ 60000 ∧ ∀ x ∈ ns, x.ids.length ≤ 60000)
    (hb : w.heap[b1]? = some (.cells #[.slice Vp ns.length cap] 65 (0, 0))) (hn : 1 ≤ n ∧ n ≤ 64) (hnd : (lf ns).flatten.Nodup) (hlt : ∀ i ∈ (lf ns).flatten, i < n) (hln : (lf ns).flatten.length = n) :
    Calls Tryz.prog 62 #[.int .i64 (n : Int), .func (.func 102) #[] #[.pointer (some ⟨b1, 0, none⟩)]] w fun e w' => e = .returned (.bool true) ∧ Below w.heap.size w w' := by
  have H2 := Lib.hid h2
  have H3 := Lib.hid h3
  have HL := Lib.hid hlen
  have HB := Lib.hid hb
  have HN := Lib.hid hn
  have HD := Lib.hid (And.intro hnd (And.intro hlt hln))
  have HM : Hid (∀ W, Calls Tryz.prog 75 #[.int .i64 (n : Int)] W fun e w' => ∃ m g, e = .returned (.pointer (some ⟨m, 0, none⟩)) ∧ MarksAt w' W.heap.size m g n 0 0 ∧ Below W.heap.size W w') := fun W => mnew_any n W hn
  clear h2 h3 hlen hb hn hnd hlt hln
  refine calls_marks Tryz.func62 rfl ?_
  simp only [Tryz.ntmps62, List.size_toArray, List.length_cons, List.length_nil, Nat.reduceAdd, Nat.reduceSub, Array.replicate_succ, Array.replicate_zero, List.push_toArray, List.append_toArray, List.nil_append, List.cons_append]
  go_wp2_with (first
    | (go_at_call 75; refine (HM.out _).mono ?_; rintro e w2 ⟨m, g, rfl, hm2, hb2⟩; have HM2 := Lib.hid hm2; have HB2 := Lib.hid hb2; clear hm2 hb2)
    | fail)
  have hba : Below w.heap.size w (w.alloc (.cells #[.bool false] 4)) := (Below.refl _ _).alloc (Nat.le_refl _) _
  have hs2 : w.heap.size < w2.heap.size := Nat.lt_of_lt_of_le (by simp) HB2.out.size
  have hb02 : Below w.heap.size w w2 := hba.trans (HB2.out.mono hba.size)
  have hbw : Below w2.heap.size w2 (w2.alloc (.cells #[.pointer (some ⟨m, 0, none⟩)] 146)) := (Below.refl _ _).alloc (Nat.le_refl _) _
  have HC0 : Hid (CvAt w (w2.alloc (.cells #[.pointer (some ⟨m, 0, none⟩)] 146)) w.heap.size w2.heap.size m g n []) :=
    ⟨⟨0, 0, (show MarksAt w2 w.heap.size m g n 0 0 from ⟨HM2.out.box, HM2.out.word, ⟨Nat.le_trans hba.size HM2.out.base.1, Nat.le_trans hba.size HM2.out.base.2.1, HM2.out.base.2.2⟩, HM2.out.bd⟩).keepT (KeepT.below (T := []) hbw) (by simp) (by simp), MetIs.nil⟩, heap_alloc_new _ _, (hbw.block _ hs2).trans ((HB2.out.block _ (by simp)).trans (heap_alloc_new _ _)), hb02.trans (hbw.mono hb02.size)⟩
  have HBX := Lib.hid ((HC0.out.bel.block _ (lt_of_block HB.out)).trans HB.out)
  generalize w2.alloc (.cells #[.pointer (some ⟨m, 0, none⟩)] 146) = W0 at *
  have HS2 := Lib.hid hs2
  have HSZ : Hid (w.heap.size ≤ W0.heap.size) := HC0.out.bel.size
  clear hba hs2 hb02 hbw
  generalize w2.heap.size = b5 at *
  have hkeep : ∀ o o' : Obj, KeepT [] W0 ((W0.alloc o).alloc o') := fun o o' => (KeepT.below ((Below.refl _ _).alloc (Nat.le_refl _) _)).trans (KeepT.below ((Below.refl _ _).alloc (Nat.le_refl _) _))
  have hbel : ∀ o o' : Obj, Below w.heap.size w ((W0.alloc o).alloc o') := fun o o' => HC0.out.bel.trans (((Below.refl _ _).alloc HSZ.out _).alloc (by have := HSZ.out; simp; omega) _)
  refine wp_rangeT (α := LV) (gf := 102) (lb := #[.pointer (some ⟨b1, 0, none⟩)]) rfl (Go.Proofs.enters_of Tryz.func102 (by kernel_rfl) rfl) (encs := fun x : LV => #[.slice x.2.1 x.1.length x.2.2])
    (V := fun pre x W => RT W 3 x.2.1 x.1.length (natV x.1) ∧ ∃ k, k < ns.length ∧ pre.map (·.1) = lf (ns.take k) ∧ lf (ns.take (k + 1)) = lf (ns.take k) ++ [x.1] ∧ Below w.heap.size w W) (T := fun A B => Below A.heap.size A B) (Kp := KpB w.heap.size [210, 23]) (S := fun xs _ => xs.map (·.1) = lf ns) (Sp := fun _ _ => True)
    (fun o o' _ _ => leaves_seq w _ ns B cap b1 Vp cells [210, 23] H2.out H3.out HL.out (hbel o o') ((hkeep o o').2 _ _ _ _ HBX.out (by simp))) (fun _ => rfl)
    (fun pre W => CvAt w W w.heap.size b5 m g n (flatV pre)) (fun _ _ _ => False)
    ?_ ?_ ?_ ?_ ?_ ?_ ?_ ?_ ?_ ?_ ?round ?done ?stop
  · intro A B h; exact Stays.below h
  · intro s A B h hb; exact h.keep (KeepT.below hb) (h.bel.trans (hb.mono h.bel.size))
  · intro c s A B h _; exact h
  · intro s W o o' h h4 h5 h6; exact h.keep (KeepT.putObj o' h4 h5) (bel_putObj h.bel (by have := HSZ.out; omega))
  · intro c s W o o' h; exact h.elim
  · intro A B C h k; exact h.trans k
  · intro W o o' h1 h2; exact KpB.putObj o' h1 h2 (by have := HSZ.out; omega)
  · intro s W o' h; exact h
  · intro s W o' h; exact h
  · intro o o' _ _; exact HC0.out.keep (hkeep o o') (hbel o o')
  case round =>
    rintro l pre ⟨ids, Ai, ci⟩ W hI ⟨hrt, k, hk, hp, hs, hbv⟩ _
    have hsub : ∃ suf, (lf ns).flatten = flatV pre ++ (ids ++ suf) := by
      refine ⟨((lf (ns.drop (k + 1)))).flatten, ?_⟩
      have e1 : lf ns = lf (ns.take (k + 1)) ++ lf (ns.drop (k + 1)) := by
        unfold lf
        rw [← List.map_append, ← List.filter_append, List.take_append_drop]
      rw [e1, hs, List.flatten_append, List.flatten_append, flatV, hp]
      simp
    have HSUB := Lib.hid hsub
    gi_wp2
    refine ⟨Stays.refl _ _, ?_⟩
    rintro o ho
    try simp only [forall_exists_index, and_imp]
    intro o1 ho1 ho2
    have hk0 := KeepT.putObj o ho1 ho2
    have HI1 := Lib.hid (hI.keep hk0 (bel_putObj (o := o) (r := W0.heap.size + 1) hI.bel (by have := HSZ.out; omega)))
    have HRT : Hid (RT (W.putObj (W0.heap.size + 1) o) 3 Ai ids.length (natV ids)) := hrt.keep fun q cs fr hq => (hk0.2 _ _ _ _ hq (by simp)).trans hq.symm
    have HKP : Hid (KpB w.heap.size [210, 23] W (W.putObj (W0.heap.size + 1) o)) := KpB.putObj o ho1 ho2 (by have := HSZ.out; omega)
    generalize W.putObj (W0.heap.size + 1) o = W1 at *
    have HIL : Hid (ids.length ≤ 64) := by
      obtain ⟨suf, h⟩ := hsub
      have := HD.out.2.2
      rw [h] at this
      have := HN.out.2
      simp at *
      show _ ≤ _
      omega
    clear hI hrt hk hp hs hbv hsub ho1 hk0
    gi_wp2
    gi_loopw [15] (fun i wr => ∃ q : Nat, q ≤ ids.length ∧ i = .int .i64 (q : Int) ∧ Hid (CvAt w wr w.heap.size b5 m g n (flatV pre ++ ids.take q)) ∧ Hid (KpB w.heap.size [210, 23] W wr) ∧ Hid (Stays W0.heap.size W1 wr) ∧ Hid (RT wr 3 Ai ids.length (natV ids)))
      (fun i _ => ids.length - (intOf i).toNat)
    case atStart => exact ⟨0, Nat.zero_le _, rfl, by rw [List.take_zero, List.append_nil]; exact HI1, HKP, Lib.hid (Stays.refl _ _), HRT⟩
    case round =>
      obtain ⟨q, hq, rfl, HC, HK, HST, HRT2⟩ := hrel
      by_cases hql : q = ids.length
      · subst hql
        gi_wp2
        refine ⟨HST.out, HK.out, ?_⟩
        have := HC.out
        rw [List.take_length] at this
        show CvAt w wr w.heap.size b5 m g n (flatV (pre ++ [(ids, Ai, ci)]))
        rw [show flatV (pre ++ [(ids, Ai, ci)]) = flatV pre ++ ids by simp [flatV]]
        exact this
      · have hqn : q < ids.length := by omega
        have hql' : (q : Int) < (ids.length : Int) := by omega
        have hq9 : (0 : Int) ≤ (q : Int) := by omega
        have hqb : (q : Int) ≤ 64 := by have := HIL.out; omega
        obtain ⟨ad, rfl, hc⟩ := HRT2.out.1.nat q hqn
        have hgd : ids.getD q 0 = ids[q] := by rw [List.getD_eq_getElem?_getD, List.getElem?_eq_getElem hqn]; rfl
        rw [hgd] at hc
        obtain ⟨c, X, hm, hmi⟩ := HC.out.set
        obtain ⟨suf, hsf⟩ := HSUB.out
        have hnd := HD.out.1
        have hlt := HD.out.2.1 ids[q] (by rw [hsf]; simp)
        have hni : ids[q] ∉ flatV pre ++ ids.take q := by
          have e : ids = ids.take q ++ ids[q] :: ids.drop (q + 1) := by rw [← List.drop_eq_getElem_cons hqn, List.take_append_drop]
          rw [hsf] at hnd
          have h1 : (flatV pre ++ ids).Nodup := by
            rw [← List.append_assoc] at hnd
            exact (List.nodup_append.1 hnd).1
          rw [e, ← List.append_assoc] at h1
          intro hmem
          have := (List.nodup_append.1 h1).2.2 _ hmem
          exact this _ List.mem_cons_self rfl
        have htk : ids.take (q + 1) = ids.take q ++ [ids[q]] := List.take_succ_eq_append_getElem hqn
        obtain ⟨hbit, hmi2⟩ := hmi.add hni
        have hcl : c ≤ 1000 := by
          have h1 := hmi.1
          have h2 := HD.out.2.2
          have h3 := HN.out.2
          rw [hsf] at h2
          simp at h1 h2
          omega
        have HAD := Lib.hid (madd_any w.heap.size m g n c X ids[q] wr hm hlt hcl)
        have HBIT := Lib.hid hbit
        have HMI := Lib.hid hmi2
        have HTK := Lib.hid htk
        have HCB := Lib.hid (And.intro HC.out.b5 (And.intro HC.out.b4 HC.out.bel))
        have HMM := Lib.hid hm
        have c5 : wr.cell? ⟨b5, 0, none⟩ = some (.pointer (some ⟨m, 0, none⟩)) := cell_of_row _ _ _ _ _ _ HC.out.b5
        clear hgd hsf hnd hlt hni htk hbit hmi2 hcl hm hmi hql
        generalize ids[q] = id at *
        gi_wp2_with (first
          | (refine ⟨trivial, rfl, ?_⟩; gi_at_call 78; refine (CallsIn.inRound l (callsIn_wide.2 HAD.out)).mono ?_
             rintro e w5 ⟨he, hb, hk, hs, hm⟩
             rw [HBIT.out] at he hm
             subst he
             have HB5 := Lib.hid hb
             have HK5 := Lib.hid hk
             have HS5 := Lib.hid (Stays.mstep (B := W0.heap.size) hs HMM.out)
             have HM5 : Hid (MarksAt w5 w.heap.size m g n (c + 1) (X ||| 2 ^ id)) := hm
             clear hb hk hs hm)
          | fail)
        go_roundw
        case rel =>
          refine ⟨q + 1, by omega, by simp, Lib.hid ⟨⟨c + 1, _, HM5.out, ?_⟩, HK5.out.2 _ _ _ _ HCB.out.1 (by simp), HK5.out.2 _ _ _ _ HCB.out.2.1 (by simp), HCB.out.2.2.trans HB5.out⟩, Lib.hid (HK.out.trans ⟨HB5.out, HK5.out⟩), Lib.hid (HST.out.trans HS5.out), Lib.hid (HRT2.out.keep fun r cs fr hr => (HK5.out.2 _ _ _ _ hr (by simp)).trans hr.symm)⟩
          rw [HTK.out, ← List.append_assoc]
          exact HMI.out
        case measure => simp [intOf]; omega
  case done =>
    rintro xs W hS hI hK
    obtain ⟨c, X, hm, hmi⟩ := hI.set
    have hfl : flatV xs = (lf ns).flatten := by rw [flatV, hS]
    have hcn : c = n := by rw [hmi.1, hfl, HD.out.2.2]
    subst hcn
    have c5 : W.cell? ⟨b5, 0, none⟩ = some (.pointer (some ⟨m, 0, none⟩)) := cell_of_row _ _ _ _ _ _ hI.b5
    have c4 : W.cell? ⟨w.heap.size, 0, none⟩ = some (.bool false) := cell_of_row _ _ _ _ _ _ hI.b4
    have f4 : W.frozen? ⟨w.heap.size, 0, none⟩ = false := frozen_of_row _ _ _ _ _ hI.b4
    have HLN := Lib.hid (mlen_any w.heap.size m g c c X W hm)
    have HI4 := Lib.hid hI.b4
    have HBE := Lib.hid hI.bel
    have HK := Lib.hid hK
    have hmx : max (c : Int) 0 = (c : Int) := by omega
    clear hS hI hK hm hmi hfl
    go_wp2_with (first
      | (go_at_call 76; refine HLN.out.mono ?_; rintro e w2 ⟨rfl, rfl⟩)
      | fail)
    have hne : W0.heap.size ≠ w.heap.size := by have := lt_of_block HC0.out.b4; omega
    have HK2 := (Below.heap_setCell w2 ⟨w.heap.size, 0, none⟩ (.bool true) W0.heap.size hne).trans HK.out
    refine ⟨by simp, .inl ⟨_, _, rfl, run_takeDeferred HK2, ?_⟩⟩
    refine ⟨.bool true, ?_, rfl, ?_⟩
    · refine results_cell_one rfl _ _ w.heap.size _ rfl (loadVar_bool _ _ _ ?_)
      refine cell_of_row _ _ _ #[.bool true] 4 (0, 0) ((World.putObj_heap_other hne.symm).trans ?_)
      exact heap_setCell_same w2 w.heap.size 0 _ _ _ HI4.out
    · exact bel_putObj (HBE.out.setCell (Nat.le_refl _) _) HSZ.out
  case stop =>
    rintro c pre W _ h _
    exact h.elim
end Go.Proofs.YtladmconpolneaaGreat

/- What a grown list of nodes is: a tree in pre-order. Plain Lean. -/
set_option linter.unusedVariables false
set_option linter.unusedSimpArgs false
namespace Go.Proofs.YtladmconpolneaaGreat
open Go.RowKit
inductive BT
  | leaf (ids : List Nat)
  | split (nrm : List Int) (off : Int) (l r : BT)
def BT.size : BT → Nat
  | .leaf _ => 1
  | .split _ _ l r => 1 + l.size + r.size
def BT.leaves : BT → Nat
  | .leaf _ => 1
  | .split _ _ l r => l.leaves + r.leaves
def BT.ids : BT → List Nat
  | .leaf l => l
  | .split _ _ l r => l.ids ++ r.ids
/-- Its nodes, in pre-order, the first at place a. -/
def BT.nodes : BT → Nat → List Node
  | .leaf l, _ => [leafN l]
  | .split nrm off l r, a => (splitN nrm off ((a : Int) + 1)).withRight ((a + 1 + l.size : Nat) : Int) :: (l.nodes (a + 1) ++ r.nodes (a + 1 + l.size))
theorem BT.nodes_length : ∀ (t : BT) (a : Nat), (t.nodes a).length = t.size
  | .leaf _, _ => rfl
  | .split _ _ l r, a => by rw [BT.nodes, List.length_cons, List.length_append, l.nodes_length, r.nodes_length, BT.size]; omega
theorem BT.size_leaves : ∀ (t : BT), t.size + 1 = 2 * t.leaves
  | .leaf _ => rfl
  | .split _ _ l r => by have := l.size_leaves; have := r.size_leaves; rw [BT.size, BT.leaves]; omega
theorem BT.size_pos (t : BT) : 0 < t.size := by have := t.size_leaves; cases t <;> simp [BT.size] <;> omega
/-- It was grown of ids, at depth d. -/
inductive Good (F : List Int) (dim leaf depth : Nat) : BT → List Nat → Nat → Prop
  | leaf (ids : List Nat) (d : Nat) (h : ids.length ≤ leaf ∨ d = depth) : Good F dim leaf depth (.leaf ids) ids d
  | split (ids : List Nat) (d : Nat) (nrm : List Int) (off : Int) (L R : List Nat) (l r : BT) (h : ¬ (ids.length ≤ leaf ∨ d = depth)) (hc : Chosen F dim ids nrm off L R) (hl : Good F dim leaf depth l L (d + 1)) (hr : Good F dim leaf depth r R (d + 1)) :
      Good F dim leaf depth (.split nrm off l r) ids d
/-- What comes of a list of nodes when each job that waits becomes a tree. -/
def fin : List Node → List Job → List BT → List Node
  | nodes, j :: st, t :: ts => fin (setR nodes j.up (nodes.length : Int) ++ t.nodes nodes.length) st ts
  | nodes, _, _ => nodes
def GoodAll (F : List Int) (dim leaf depth : Nat) : List Job → List BT → Prop
  | [], [] => True
  | j :: st, t :: ts => Good F dim leaf depth t j.ids j.depth ∧ GoodAll F dim leaf depth st ts
  | _, _ => False
theorem fin_split (A : List Node) (nrm : List Int) (off : Int) (l r : BT) (st : List Job) (ts : List BT) (L R : List Nat) (d : Nat) :
    fin (A ++ [splitN nrm off ((A.length : Int) + 1)]) (⟨L, d, -1⟩ :: ⟨R, d, (A.length : Int)⟩ :: st) (l :: r :: ts) = fin (A ++ (BT.split nrm off l r).nodes A.length) st ts := by
  have e1 : (A ++ [splitN nrm off ((A.length : Int) + 1)]).length = A.length + 1 := by simp
  have e2 : setR (A ++ [splitN nrm off ((A.length : Int) + 1)]) (-1) ((A.length + 1 : Nat) : Int) = A ++ [splitN nrm off ((A.length : Int) + 1)] := by unfold setR; rw [if_pos (by decide)]
  show fin (setR (setR (A ++ [splitN nrm off ((A.length : Int) + 1)]) (-1) (((A ++ [splitN nrm off ((A.length : Int) + 1)]).length : Nat) : Int) ++ l.nodes (A ++ [splitN nrm off ((A.length : Int) + 1)]).length) (A.length : Int) ((setR (A ++ [splitN nrm off ((A.length : Int) + 1)]) (-1) (((A ++ [splitN nrm off ((A.length : Int) + 1)]).length : Nat) : Int) ++ l.nodes (A ++ [splitN nrm off ((A.length : Int) + 1)]).length).length : Int) ++ r.nodes (setR (A ++ [splitN nrm off ((A.length : Int) + 1)]) (-1) (((A ++ [splitN nrm off ((A.length : Int) + 1)]).length : Nat) : Int) ++ l.nodes (A ++ [splitN nrm off ((A.length : Int) + 1)]).length).length) st ts = _
  rw [e1, e2]
  have e3 : (A ++ [splitN nrm off ((A.length : Int) + 1)] ++ l.nodes (A.length + 1)).length = A.length + 1 + l.size := by rw [List.length_append, e1, l.nodes_length]
  rw [e3]
  have e4 : setR (A ++ [splitN nrm off ((A.length : Int) + 1)] ++ l.nodes (A.length + 1)) (A.length : Int) ((A.length + 1 + l.size : Nat) : Int) = A ++ [(splitN nrm off ((A.length : Int) + 1)).withRight ((A.length + 1 + l.size : Nat) : Int)] ++ l.nodes (A.length + 1) := by
    unfold setR
    rw [if_neg (by omega)]
    have e5 : ((A.length : Int)).toNat = A.length := by simp
    rw [e5]
    have e6 : (A ++ [splitN nrm off ((A.length : Int) + 1)] ++ l.nodes (A.length + 1)).getD A.length (leafN []) = splitN nrm off ((A.length : Int) + 1) := by
      rw [List.getD_eq_getElem?_getD, List.getElem?_append_left (by simp), List.getElem?_append_right (Nat.le_refl _), Nat.sub_self]; rfl
    rw [e6, List.append_assoc, List.set_append_right _ _ (Nat.le_refl _), Nat.sub_self]
    simp
  rw [e4]
  congr 1
  rw [BT.nodes]
  simp [List.append_assoc]
theorem reach_fin {F : List Int} {dim leaf depth n : Nat} {nodes : List Node} {st : List Job} (h : Reach F dim leaf depth n nodes st) : ∀ ts, GoodAll F dim leaf depth st ts → ∃ t, Good F dim leaf depth t (List.range n) 0 ∧ fin nodes st ts = t.nodes 0 := by
  induction h with
  | start =>
    intro ts hts
    match ts, hts with
    | [t], hts => exact ⟨t, hts.1, by simp [fin, setR]⟩
  | @step nodes st0 nodes' st' h hs ih =>
    cases hs with
    | leaf j st hj =>
      intro ts hts
      exact ih (.leaf j.ids :: ts) ⟨.leaf _ _ hj, hts⟩
    | split j st nrm off L R hj hc =>
      intro ts hts
      match ts, hts with
      | l :: r :: ts, hts =>
        obtain ⟨t, ht, he⟩ := ih (.split nrm off l r :: ts) ⟨.split _ _ nrm off L R l r hj hc hts.1 hts.2.1, hts.2.2⟩
        refine ⟨t, ht, ?_⟩
        rw [← he]
        have := fin_split (setR nodes j.up (nodes.length : Int)) nrm off l r st ts L R (j.depth + 1)
        rw [setR_length] at this
        rw [this]
        rfl
theorem reach_tree {F : List Int} {dim leaf depth n : Nat} {nodes : List Node} (h : Reach F dim leaf depth n nodes []) : ∃ t, Good F dim leaf depth t (List.range n) 0 ∧ nodes = t.nodes 0 := by
  obtain ⟨t, h1, h2⟩ := reach_fin h [] trivial
  exact ⟨t, h1, h2⟩
/-- The leaves' ids are the ids. -/
theorem chosen_perm {F : List Int} {dim : Nat} {ids : List Nat} {nrm : List Int} {off : Int} {L R : List Nat} (h : Chosen F dim ids nrm off L R) : (L ++ R).Perm ids := by
  cases h with
  | good i k hi hk hg =>
    unfold leftL rightL
    have := List.filter_append_perm (fun id => !sideL (subL (rowL F dim i) (rowL F dim k)) (offL (rowL F dim i) (rowL F dim k)) (rowL F dim id)) ids
    simpa using this
  | flat ht => rw [List.take_append_drop]
theorem good_perm {F : List Int} {dim leaf depth : Nat} {t : BT} {ids : List Nat} {d : Nat} (h : Good F dim leaf depth t ids d) : t.ids.Perm ids := by
  induction h with
  | leaf ids d h => exact .refl _
  | split ids d nrm off L R l r h hc hl hr ih1 ih2 => exact (ih1.append ih2).trans (chosen_perm hc)
theorem good_size {F : List Int} {dim leaf depth : Nat} {t : BT} {ids : List Nat} {d : Nat} (hl : 1 ≤ leaf) (h : Good F dim leaf depth t ids d) (h1 : 1 ≤ ids.length) : t.leaves ≤ ids.length := by
  induction h with
  | leaf ids d h => exact h1
  | split ids d nrm off L R l r h hc hl' hr ih1 ih2 =>
    have hok := chosen_ok hc (by omega)
    have a := ih1 hok.left
    have b := ih2 hok.right
    have c := hok.sum
    show l.leaves + r.leaves ≤ _
    omega
end Go.Proofs.YtladmconpolneaaGreat

/- Several texts of this seat, laid together (no statement of its own): their conditions stand in each theorem. -/
import Derived.Test.YtladmconpolneaaGreatMc
import Derived.Deep.MidRow
/- A split is chosen. -/
set_option linter.unusedVariables false
set_option linter.unusedSimpArgs false
namespace Go.Proofs.YtladmconpolneaaGreat
open Go.RowKit
/-- A pair was tried that parts badly. -/
def Tried (F : List Int) (dim : Nat) (ids : List Nat) : Prop := ∃ i k, i < ids.length ∧ k < ids.length ∧ i ≠ k ∧
  goodB (leftL F dim (subL (rowL F dim (ids.getD i 0)) (rowL F dim (ids.getD k 0))) (offL (rowL F dim (ids.getD i 0)) (rowL F dim (ids.getD k 0))) ids).length (rightL F dim (subL (rowL F dim (ids.getD i 0)) (rowL F dim (ids.getD k 0))) (offL (rowL F dim (ids.getD i 0)) (rowL F dim (ids.getD k 0))) ids).length = false
theorem tried_of (F : List Int) (dim : Nat) (ids : List Nat) (i k p q : Nat) (hi : i < ids.length) (hk : k < ids.length) (hik : i ≠ k) (hp : ids.getD i 0 = p) (hq : ids.getD k 0 = q) (h : goodB (leftL F dim (subL (rowL F dim p) (rowL F dim q)) (offL (rowL F dim p) (rowL F dim q)) ids).length (rightL F dim (subL (rowL F dim p) (rowL F dim q)) (offL (rowL F dim p) (rowL F dim q)) ids).length = false) : Tried F dim ids := by
  subst hp hq
  exact ⟨i, k, hi, hk, hik, h⟩
/-- What is chosen of ids. -/
inductive Chosen (F : List Int) (dim : Nat) (ids : List Nat) : List Int → Int → List Nat → List Nat → Prop
  | good (i k : Nat) (hi : i ∈ ids) (hk : k ∈ ids) (hg : goodB (leftL F dim (subL (rowL F dim i) (rowL F dim k)) (offL (rowL F dim i) (rowL F dim k)) ids).length (rightL F dim (subL (rowL F dim i) (rowL F dim k)) (offL (rowL F dim i) (rowL F dim k)) ids).length = true) :
      Chosen F dim ids (subL (rowL F dim i) (rowL F dim k)) (offL (rowL F dim i) (rowL F dim k)) (leftL F dim (subL (rowL F dim i) (rowL F dim k)) (offL (rowL F dim i) (rowL F dim k)) ids) (rightL F dim (subL (rowL F dim i) (rowL F dim k)) (offL (rowL F dim i) (rowL F dim k)) ids)
  | flat (ht : Tried F dim ids) : Chosen F dim ids (List.replicate dim 0) 0 (ids.take (half ids)) (ids.drop (half ids))
theorem grown_blk {w w' : World} {b k : Nat} {o : Obj} (h : w.grownBy w' (some b)) (hk : w.heap[k]? = some o) (hne : k ≠ b) : w'.heap[k]? = some o := by
  rw [h.block k (lt_of_block hk) (fun e => hne (by injection e))]; exact hk
theorem SrcAt.ne {w : World} {b : Nat} {v : Value} {s : Src} (h : SrcAt w b v s) {k : Nat} {cs : Array Value} {t : TypeId} {fr : Nat × Nat} (hk : w.heap[k]? = some (.cells cs t fr)) (h1 : t ≠ 291) (h2 : t ≠ 294) : k ≠ b := by
  rintro rfl
  cases s with
  | scr l =>
    obtain ⟨_, A, c, hg, _⟩ := h
    rw [hg] at hk
    injection hk with hk
    injection hk with _ e
    exact h1 e.symm
  | mix st =>
    have hg := h.2
    rw [hg] at hk
    injection hk with hk
    injection hk with _ e
    exact h2 e.symm
theorem own_blk {w : World} {base : Nat} {e : TypeId} {size n : Nat} {v : Value} {xs : List Value} (h : w.ownsRow base e size v n xs) (k : Nat) (hk : v.ownBlock = some k) : ∃ cur, w.heap[k]? = some (.cells cur e (0, 0)) := by
  rcases h.2 with ⟨rfl, _⟩ | ⟨g, cap, cur, rfl, _, hg, _⟩
  · simp [Value.ownBlock] at hk
  · have : g = k := by simpa [Value.ownBlock] using hk
    rw [← this]; exact ⟨cur, hg⟩
/-- A source's draw leaves the items as they were. -/
theorem ItemsAt.grown {w w' : World} {B bi dim n b : Nat} {F : List Int} {v : Value} {s : Src} (h : ItemsAt w B bi dim n F) (hs : SrcAt w b v s) (hg : w.grownBy w' (some b)) : ItemsAt w' B bi dim n F := by
  obtain ⟨A, c, h1, h2⟩ := h.box
  refine ⟨h.hdim, h.hn, h.len, h.bd, h.base, A, c, grown_blk hg h1 (hs.ne h1 (by decide) (by decide)), own_grown h2 hg (fun k hk e => ?_)⟩
  obtain ⟨cur, hc⟩ := own_blk h2 k hk
  exact hs.ne hc (by decide) (by decide) (by injection e with e; exact e.symm)
theorem RT.grown {w w' : World} {e : TypeId} {A : Option Addr} {n b : Nat} {vs : List Value} {v : Value} {s : Src} (h : RT w e A n vs) (hs : SrcAt w b v s) (hg : w.grownBy w' (some b)) (h1 : e ≠ 291) (h2 : e ≠ 294) : RT w' e A n vs :=
  h.keep fun k cells fr hk => by rw [hg.block k (lt_of_block hk) (fun e => hs.ne hk h1 h2 (by injection e))]
theorem grown_of_below {w w' : World} {r : Option Nat} (h : Below w.heap.size w w') : w.grownBy w' r := ⟨h.os, h.tape, h.output, h.size, fun k hk _ => h.block k hk⟩
theorem grown_of_below' {w w' : World} {r : Option Nat} {B : Nat} (h : Below B w w') (hB : w.heap.size ≤ B) : w.grownBy w' r := ⟨h.os, h.tape, h.output, h.size, fun k hk _ => h.block k (by omega)⟩
theorem Tryz.info187 : (Tryz.prog.info? 187).map (·.size) = some 5 := by kernel_rfl
theorem there_of_block {w : World} {g : Nat} {cs : Array Value} {t : TypeId} (h : w.heap[g]? = some (.cells cs t (0, 0))) (o n : Nat) (hn : o + n ≤ cs.size) : w.there g o n := fun j hj => by
  refine ⟨?_, frozen_of_row _ _ _ _ _ h⟩
  rw [cell_of_row _ _ _ _ _ _ h, Array.getElem?_eq_getElem (by omega)]
  rfl
theorem range_of_block {w : World} {g : Nat} {cs : Array Value} {t : TypeId} {fr : Nat × Nat} (h : w.heap[g]? = some (.cells cs t fr)) (o : Nat) (vs : List Value) (hv : ∀ j v, vs[j]? = some v → cs[o + j]? = some v) : w.rangeAt g o vs := fun j v hj => by
  rw [cell_of_row _ _ _ _ _ _ h]; exact hv j v hj
/-- A plane's store into a split. -/
theorem split_plane {w : World} {g : Nat} {a0 a1 a2 a3 a4 x y : Value} (h : w.heap[g]? = some (.cells #[a0, a1, a2, a3, a4] 187 (0, 0))) : (w.setCells g 0 [x, y]).heap[g]? = some (.cells #[x, y, a2, a3, a4] 187 (0, 0)) := by
  have h1 := heap_setCell_same w g 0 _ _ x h
  exact heap_setCell_same _ g 1 _ _ y h1
theorem grown_set {w wr : World} {r : Option Nat} (h : w.grownBy wr r) (g i : Nat) (x : Value) (hg : w.heap.size ≤ g) : w.grownBy (wr.setCell ⟨g, i, none⟩ x) r :=
  ⟨h.os, h.tape, h.output, by simpa [World.setCell] using h.size, fun k hk hne => by rw [Below.heap_setCell _ _ _ _ (by show k ≠ g; omega)]; exact h.block k hk hne⟩
theorem grown_setR {w wr : World} {r : Option Nat} (h : w.grownBy wr r) (g : Nat) (cs : Array Value) (hg : w.heap.size ≤ g) : w.grownBy (wr.setRow g cs) r :=
  ⟨h.os, h.tape, h.output, by simpa using h.size, fun k hk hne => by rw [setRow_other _ _ _ _ (by omega)]; exact h.block k hk hne⟩
theorem SrcAt.set {w : World} {b g i : Nat} {v x : Value} {s : Src} (h : SrcAt w b v s) {cs : Array Value} {t : TypeId} {fr : Nat × Nat} (hg : w.heap[g]? = some (.cells cs t fr)) (h0 : t ≠ 23) (h1 : t ≠ 291) (h2 : t ≠ 294) : SrcAt (w.setCell ⟨g, i, none⟩ x) b v s :=
  h.keep fun j cs' t' fr' hj ht => Below.heap_setCell _ _ _ _ (by
    rintro rfl
    rw [hg] at hj
    injection hj with hj
    injection hj with _ e
    rw [← e] at ht
    rcases ht with ht | ht | ht
    · exact h0 ht
    · exact h1 ht
    · exact h2 ht)
abbrev zero5 : Array Value := #[.slice none 0 0, .int .i64 0, .slice none 0 0, .slice none 0 0, .int .i64 0]
/-- A choice under way. -/
structure ChSt (w W : World) (b : Nat) (v a0 a1 a2 a3 a4 : Value) (s : Src) : Prop where
  out : W.heap[w.heap.size + 1]? = some (.cells #[a0, a1, a2, a3, a4] 187 (0, 0))
  res : W.heap[w.heap.size]? = some (.cells zero5 187 (0, 0))
  src : SrcAt W b v s
  ok : s.Ok
  gr : w.grownBy W (some b)
  lt : b < w.heap.size
theorem ChSt.room {w W : World} {b : Nat} {v a0 a1 a2 a3 a4 : Value} {s : Src} (h : ChSt w W b v a0 a1 a2 a3 a4 s) : w.heap.size + 1 < W.heap.size := lt_of_block h.out
theorem ChSt.below {w W W' : World} {b : Nat} {v a0 a1 a2 a3 a4 : Value} {s : Src} (h : ChSt w W b v a0 a1 a2 a3 a4 s) (hb : Below W.heap.size W W') : ChSt w W' b v a0 a1 a2 a3 a4 s :=
  ⟨by rw [hb.block _ (lt_of_block h.out)]; exact h.out, by rw [hb.block _ (lt_of_block h.res)]; exact h.res, h.src.below hb, h.ok, h.gr.trans (grown_of_below hb), h.lt⟩
theorem ChSt.draw {w W W' : World} {b : Nat} {v a0 a1 a2 a3 a4 : Value} {s s' : Src} (h : ChSt w W b v a0 a1 a2 a3 a4 s) (hs : SrcAt W' b v s') (ho : s'.Ok) (hg : W.grownBy W' (some b)) : ChSt w W' b v a0 a1 a2 a3 a4 s' :=
  ⟨grown_blk hg h.out (by have := h.lt; omega), grown_blk hg h.res (by have := h.lt; omega), hs, ho, h.gr.trans hg, h.lt⟩
theorem ChSt.setP {w W : World} {b : Nat} {v a0 a1 a2 a3 a4 : Value} {s : Src} (h : ChSt w W b v a0 a1 a2 a3 a4 s) (x y : Value) : ChSt w (W.setCells (w.heap.size + 1) 0 [x, y]) b v x y a2 a3 a4 s := by
  have h1 := heap_setCell_same W (w.heap.size + 1) 0 _ _ x h.out
  refine ⟨split_plane h.out, ?_, (h.src.set (i := 0) (x := x) h.out (by decide) (by decide) (by decide)).set (i := 1) (x := y) h1 (by decide) (by decide) (by decide), h.ok, grown_set (grown_set h.gr (w.heap.size + 1) 0 x (by omega)) (w.heap.size + 1) 1 y (by omega), h.lt⟩
  show ((W.setCell _ _).setCell _ _).heap[_]? = _
  rw [Below.heap_setCell _ _ _ _ (by show w.heap.size ≠ w.heap.size + 1; omega), Below.heap_setCell _ _ _ _ (by show w.heap.size ≠ w.heap.size + 1; omega)]
  exact h.res
theorem ChSt.set2 {w W : World} {b : Nat} {v a0 a1 a2 a3 a4 : Value} {s : Src} (h : ChSt w W b v a0 a1 a2 a3 a4 s) (x : Value) : ChSt w (W.setCell ⟨w.heap.size + 1, 2, none⟩ x) b v a0 a1 x a3 a4 s :=
  ⟨heap_setCell_same W _ 2 _ _ x h.out, by rw [Below.heap_setCell _ _ _ _ (by show w.heap.size ≠ w.heap.size + 1; omega)]; exact h.res, h.src.set h.out (by decide) (by decide) (by decide), h.ok, grown_set h.gr _ _ _ (by omega), h.lt⟩
theorem ChSt.set3 {w W : World} {b : Nat} {v a0 a1 a2 a3 a4 : Value} {s : Src} (h : ChSt w W b v a0 a1 a2 a3 a4 s) (x : Value) : ChSt w (W.setCell ⟨w.heap.size + 1, 3, none⟩ x) b v a0 a1 a2 x a4 s :=
  ⟨heap_setCell_same W _ 3 _ _ x h.out, by rw [Below.heap_setCell _ _ _ _ (by show w.heap.size ≠ w.heap.size + 1; omega)]; exact h.res, h.src.set h.out (by decide) (by decide) (by decide), h.ok, grown_set h.gr _ _ _ (by omega), h.lt⟩
theorem ChSt.set4 {w W : World} {b : Nat} {v a0 a1 a2 a3 a4 : Value} {s : Src} (h : ChSt w W b v a0 a1 a2 a3 a4 s) (x : Value) : ChSt w (W.setCell ⟨w.heap.size + 1, 4, none⟩ x) b v a0 a1 a2 a3 x s :=
  ⟨heap_setCell_same W _ 4 _ _ x h.out, by rw [Below.heap_setCell _ _ _ _ (by show w.heap.size ≠ w.heap.size + 1; omega)]; exact h.res, h.src.set h.out (by decide) (by decide) (by decide), h.ok, grown_set h.gr _ _ _ (by omega), h.lt⟩
/-- The choice's end. -/
theorem ChSt.done {w W : World} {b : Nat} {v a0 a1 a2 a3 a4 : Value} {s : Src} (h : ChSt w W b v a0 a1 a2 a3 a4 s) (cs : Array Value) : (∃ s', SrcAt (W.setRow w.heap.size cs) b v s' ∧ s'.Ok) ∧ w.grownBy (W.setRow w.heap.size cs) (some b) := by
  refine ⟨⟨s, h.src.keep fun j cs' t' fr' hj ht => setRow_other _ _ _ _ (by
    rintro rfl
    rw [h.res] at hj
    injection hj with hj
    injection hj with _ e
    rw [← e] at ht
    rcases ht with ht | ht | ht <;> cases ht), h.ok⟩, grown_setR h.gr _ _ (Nat.le_refl _)⟩
theorem leftL_le (F : List Int) (dim : Nat) (nrm : List Int) (off : Int) (ids : List Nat) : (leftL F dim nrm off ids).length ≤ ids.length := List.length_filter_le _ _
theorem rightL_le (F : List Int) (dim : Nat) (nrm : List Int) (off : Int) (ids : List Nat) : (rightL F dim nrm off ids).length ≤ ids.length := List.length_filter_le _ _
theorem five_one (A : Option Addr) (n c : Nat) (off : Int) (B : Option Addr) (m d : Nat) (C : Option Addr) (l e : Nat) (k : Int) : (#[.slice A n c, .int .i64 off, .slice B m d, .slice C l e, .int .i64 k] : Array Value).all (·.oneCell') = true := by simp [Value.oneCell']
/-- Rows of the call's own while the choice's block is written. -/
theorem own_set187 {w : World} {base : Nat} {e : TypeId} {size n g i : Nat} {v x : Value} {xs : List Value} {cs : Array Value} (h : w.ownsRow base e size v n xs) (hg : w.heap[g]? = some (.cells cs 187 (0, 0))) (he : e ≠ 187) : (w.setCell ⟨g, i, none⟩ x).ownsRow base e size v n xs :=
  ownsRow_setCell_other h (a := ⟨g, i, none⟩) (fun e' => own_ne2 h hg he e'.symm) x
def ChoosePost (w : World) (b : Nat) (v : Value) (F : List Int) (dim : Nat) (ids : List Nat) (e : Ending) (w' : World) : Prop :=
  ∃ nrm off L R tries N d A c C c', e = .returned (.agg #[.slice N nrm.length d, .int .i64 off, .slice A L.length c, .slice C R.length c', .int .i64 tries]) ∧ Chosen F dim ids nrm off L R ∧
    w'.ownsRow w.heap.size 21 1 (.slice N nrm.length d) nrm.length (i32V nrm) ∧ w'.ownsRow w.heap.size 3 1 (.slice A L.length c) L.length (natV L) ∧ w'.ownsRow w.heap.size 3 1 (.slice C R.length c') R.length (natV R) ∧
    (∃ s', SrcAt w' b v s' ∧ s'.Ok) ∧ w.grownBy w' (some b)
set_option maxRecDepth 100000 in
set_option maxHeartbeats 1600000 in
theorem choose_any {B bi dim n b : Nat} {F : List Int} {v : Value} {s : Src} (w : World) (h : ItemsAt w B bi dim n F) (hs : SrcAt w b v s) (hso : s.Ok) (ids : List Nat) (A : Option Addr) (c : Nat) (hr : RT w 3 A ids.length (natV ids)) (hid : ∀ i ∈ ids, i < n) (h2 : 2 ≤ ids.length) (hl : ids.length ≤ 1000000) (hc : ids.length ≤ c) :
    Calls Tryz.prog 99 #[.pointer (some ⟨bi, 0, none⟩), .slice A ids.length c, v] w (ChoosePost w b v F dim ids) := by
  have hblt := hs.lt
  have HIT : Hid (∀ W, w.grownBy W (some b) → ItemsAt W B bi dim n F) := fun W hg => h.grown hs hg
  have HIDS : Hid (∀ W, w.grownBy W (some b) → Reads W A ids.length (natV ids)) := fun W hg => (hr.grown hs hg (by decide) (by decide)).1
  have HI187 := Lib.hid Tryz.info187
  have HI68 := Lib.hid Tryz.info68
  have HID := Lib.hid hid
  have hd := h.hdim
  have hz1 : (#[.slice none 0 0, .int .i64 0, .slice none 0 0, .slice none 0 0, .int .i64 0] : Array Value).all (·.oneCell') = true := by simp [Value.oneCell']
  have HZ := Lib.hid hz1
  have HS0 := Lib.hid hs
  have HSO := Lib.hid hso
  have HG0 : Hid (((w.alloc (.cells #[.slice none 0 0, .int .i64 0, .slice none 0 0, .slice none 0 0, .int .i64 0] 187)).alloc (.cells #[.slice none 0 0, .int .i64 0, .slice none 0 0, .slice none 0 0, .int .i64 0] 187)).heap[w.heap.size + 1]? = some (.cells #[.slice none 0 0, .int .i64 0, .slice none 0 0, .slice none 0 0, .int .i64 0] 187 (0, 0))) := by
    show _ = _
    have := heap_alloc_new (w.alloc (.cells #[.slice none 0 0, .int .i64 0, .slice none 0 0, .slice none 0 0, .int .i64 0] 187)) (.cells #[.slice none 0 0, .int .i64 0, .slice none 0 0, .slice none 0 0, .int .i64 0] 187)
    rw [World.size_alloc] at this
    exact this
  clear h hs hso hr hid hz1
  have h1' : (1 : Int) < (ids.length : Int) := by omega
  go_enter Tryz.func99, Tryz.ntmps99
  go_wp2_with (refine wpList_store_row rfl 187 (.tmp 7) (.tmp 14) rfl (w.heap.size + 1) rfl 187 #[.slice none 0 0, .int .i64 0, .slice none 0 0, .slice none 0 0, .int .i64 0] #[.slice none 0 0, .int .i64 0, .slice none 0 0, .slice none 0 0, .int .i64 0] rfl HG0.out HI187.out rfl HZ.out ?_)
  go_frame
  go_loopg [] 4 (fun gk wr => ∃ (k : Nat) (a0 a1 a2 a3 : Value) (s' : Src), gk = 4 - k ∧ k ≤ 4 ∧ (k = 0 ∨ Tried F dim ids) ∧ ChSt w wr b v a0 a1 a2 a3 (.int .i64 (k : Int)) s')
  case atStart =>
    refine ⟨0, _, _, _, _, s, rfl, by decide, .inl rfl, ⟨setRow_heap _ _ _ _ _ _ HG0.out, ?_, ?_, HSO.out, ?_, hblt⟩⟩
    · rw [setRow_other _ _ _ _ (by omega), Below.heap_alloc _ _ _ (by simp), heap_alloc_new]
    · exact HS0.out.below ((((Below.refl w.heap.size w).alloc (Nat.le_refl _) _).alloc (by simp) _).trans ⟨rfl, rfl, rfl, by simp, fun i hi => setRow_other _ _ _ _ (by omega)⟩)
    · exact grown_of_below ((((Below.refl w.heap.size w).alloc (Nat.le_refl _) _).alloc (by simp) _).trans ⟨rfl, rfl, rfl, by simp, fun i hi => setRow_other _ _ _ _ (by omega)⟩)
  case round =>
    obtain ⟨k, a0, a1, a2, a3, s1, rfl, hk, htr, hst⟩ := hrel
    have HTR := Lib.hid htr
    clear htr
    have HST := Lib.hid hst
    by_cases hlt : k < 4
    · have hlt' : (k : Int) < 4 := by omega
      have c4 : wr.cell? ⟨w.heap.size + 1, 4, none⟩ = some (.int .i64 (k : Int)) := cell_of_row _ _ _ _ _ _ hst.out
      have f4 : wr.frozen? ⟨w.heap.size + 1, 4, none⟩ = false := frozen_of_row _ _ _ _ _ hst.out
      have HSTA := Lib.hid (hst.set4 (.int .i64 ((k : Int) + 1)))
      clear hst
      go_wp2_with fail
      generalize wr.setCell ⟨w.heap.size + 1, 4, none⟩ (.int .i64 ((k : Int) + 1)) = WA at *
      refine (pair_any b ids.length v s1 WA HSTA.out.src HSTA.out.ok h2 hl).mono ?_
      rintro e w1 ⟨i, j, hi, hj, hij, rfl, hs2, hg2⟩
      have HST1 := Lib.hid (HSTA.out.draw hs2 (Src.draw_ok (Src.draw_ok HSTA.out.ok).2).2 hg2)
      clear hs2 hg2 HSTA c4 f4
      obtain ⟨ai, rfl, hci⟩ := (HIDS.out w1 HST1.out.gr).nat i hi
      obtain ⟨aj, eaj, hcj⟩ := (HIDS.out w1 HST1.out.gr).nat j hj
      obtain rfl : ai = aj := Option.some.inj eaj
      have him : ids.getD i 0 ∈ ids := by rw [List.getD_eq_getElem?_getD, List.getElem?_eq_getElem hi]; exact List.getElem_mem hi
      have hjm : ids.getD j 0 ∈ ids := by rw [List.getD_eq_getElem?_getD, List.getElem?_eq_getElem hj]; exact List.getElem_mem hj
      obtain ⟨p, hp⟩ : ∃ p, ids.getD i 0 = p := ⟨_, rfl⟩
      obtain ⟨q, hq⟩ : ∃ q, ids.getD j 0 = q := ⟨_, rfl⟩
      rw [hp] at hci him
      rw [hq] at hcj hjm
      have hi' : (i : Int) < (ids.length : Int) := by omega
      have hj' : (j : Int) < (ids.length : Int) := by omega
      have hit1 := HIT.out w1 HST1.out.gr
      have HAT1 := Lib.hid (at_any w1 hit1 p (HID.out p him))
      have HLP := Lib.hid (rowL_length hit1.len p (HID.out p him))
      have HLQ := Lib.hid (rowL_length hit1.len q (HID.out q hjm))
      have HBP := Lib.hid (rowL_bd hit1.bd dim p)
      have HBQ := Lib.hid (rowL_bd hit1.bd dim q)
      have HTRI := Lib.hid (tried_of F dim ids i j p q hi hj hij hp hq)
      clear hp hq eaj hit1
      go_wp2_with fail
      refine HAT1.out.mono ?_
      rintro e w2 ⟨P, cP, rfl, hoP, hb2⟩
      have HST2 := Lib.hid (HST1.out.below hb2)
      have HOP := Lib.hid hoP
      have hcj2 : w2.cell? (ai.add j) = some (.int .i64 (q : Int)) := (hb2.cell (World.block_lt_of_cell? w1 _ hcj)).trans hcj
      have HAT2 := Lib.hid (at_any w2 (HIT.out w2 HST2.out.gr) q (HID.out q hjm))
      have hsz1 := HST1.out.room
      have hszb := hb2.size
      clear hoP hb2
      go_wp2_with fail
      refine HAT2.out.mono ?_
      rintro e w3 ⟨Q, cQ, rfl, hoQ, hb3⟩
      have HST3 := Lib.hid (HST2.out.below hb3)
      have HOP3 := Lib.hid (own_below HOP.out hb3)
      have HOQ := Lib.hid hoQ
      have hszb3 := hb3.size
      have HBE := Lib.hid (between_any (rowL F dim p) (rowL F dim q) P Q cP cQ w3 (own_reads HOP3.out) (own_reads hoQ) (by rw [HLP.out, HLQ.out]) HBP.out HBQ.out (by rw [HLP.out]; exact hd.2))
      clear hoQ hb3
      go_wp2_with fail
      refine HBE.out.mono ?_
      rintro e w4 ⟨N, cN, rfl, hoN, hb4⟩
      have HST4 := Lib.hid (HST3.out.below hb4)
      have HON := Lib.hid hoN
      have hszb4 := hb4.size
      have HSB := Lib.hid (subL_bd HBP.out HBQ.out)
      have HOB := Lib.hid (offL_bd HBP.out HBQ.out (by rw [HLP.out]; exact hd.2))
      have HSL := Lib.hid (subL_length (rowL F dim p) (rowL F dim q))
      have HCH := Lib.hid (Chosen.good (F := F) (dim := dim) (ids := ids) p q him hjm)
      clear hoN hb4
      generalize subL (rowL F dim p) (rowL F dim q) = nrm at *
      generalize offL (rowL F dim p) (rowL F dim q) = off at *
      obtain ⟨W5, hW5⟩ : ∃ W5, w4.setCells (w.heap.size + 1) 0 [.slice N nrm.length cN, .int .i64 off] = W5 := ⟨_, rfl⟩
      have HW5 := Lib.hid hW5
      have HST5 : Hid (ChSt w W5 b v (.slice N nrm.length cN) (.int .i64 off) a2 a3 (.int .i64 ((k : Int) + 1)) s1.draw.2.draw.2) := by
        show ChSt _ _ _ _ _ _ _ _ _ _
        rw [← HW5.out]; exact HST4.out.setP _ _
      have HON5 : Hid (W5.ownsRow w3.heap.size 21 1 (.slice N nrm.length cN) nrm.length (i32V nrm)) := by
        show World.ownsRow _ _ _ _ _ _ _
        rw [← HW5.out]
        have h1 := heap_setCell_same w4 (w.heap.size + 1) 0 _ _ (.slice N nrm.length cN) HST4.out.out
        exact own_set187 (own_set187 HON.out HST4.out.out (by decide)) h1 (by decide)
      have HTH := Lib.hid (there_of_block HST4.out.out 0 2 (by simp))
      have HRG : Hid (W5.rangeAt (w.heap.size + 1) 0 [.slice N nrm.length cN, .int .i64 off]) := range_of_block HST5.out.out 0 _ (fun j v hj => by
        match j, hj with
        | 0, hj => simpa using hj
        | 1, hj => simpa using hj)
      have HPART := Lib.hid (part_any W5 (HIT.out W5 HST5.out.gr) ids (some ai) c (HIDS.out W5 HST5.out.gr) HID.out (by omega) nrm off N cN (own_reads HON5.out) HSB.out (by rw [HSL.out, HLP.out]; exact hd.2) HOB.out)
      clear hW5
      have HLle : Hid ((leftL F dim nrm off ids).length ≤ 2000000) := by show _ ≤ _; have := leftL_le F dim nrm off ids; omega
      have HRle : Hid ((rightL F dim nrm off ids).length ≤ 2000000) := by show _ ≤ _; have := rightL_le F dim nrm off ids; omega
      generalize hLL : leftL F dim nrm off ids = L at *
      generalize hRR : rightL F dim nrm off ids = R at *
      have HLL := Lib.hid hLL
      have HRR := Lib.hid hRR
      clear hLL hRR
      go_wp2_with (first
        | (refine wpList_store_mid rfl 68 (.tmp 55) (.tmp 54) rfl (w.heap.size + 1) 0 #[.slice N nrm.length cN, .int .i64 off] rfl rfl HTH.out HI68.out (plane_one _ _ _ _) ?_; rw [HW5.out])
        | (refine wpList_load_mid rfl 68 (.tmp 59) rfl (w.heap.size + 1) 0 rfl [.slice N nrm.length cN, .int .i64 off] _ HRG.out Tryz.underlying68 rfl HI68.out ?_)
        | (go_at_call 141; refine HPART.out.mono ?_; rintro e w6 ⟨AL, cL, AR, cR, rfl, hoL, hoR, hb6⟩; have HST6 := Lib.hid (HST5.out.below hb6); have HOL := Lib.hid hoL; have HOR := Lib.hid hoR; have HON6 := Lib.hid (own_below HON5.out hb6); have hszb6 := hb6.size; clear hoL hoR hb6; have c2 := cell_of_row _ (w.heap.size + 1) 2 _ _ _ HST6.out.out; have f2 := frozen_of_row _ (w.heap.size + 1) 2 _ _ HST6.out.out; have c3 := cell_of_row _ (w.heap.size + 1) 3 _ _ _ (HST6.out.set2 (.slice AL L.length cL)).out; have f3 := frozen_of_row _ (w.heap.size + 1) 3 _ _ (HST6.out.set2 (.slice AL L.length cL)).out; have d2 := cell_of_row _ (w.heap.size + 1) 2 _ _ _ ((HST6.out.set2 (.slice AL L.length cL)).set3 (.slice AR R.length cR)).out; have d3 := cell_of_row _ (w.heap.size + 1) 3 _ _ _ ((HST6.out.set2 (.slice AL L.length cL)).set3 (.slice AR R.length cR)).out))
      have HGOOD := Lib.hid (fun W => good_any AL AR L.length cL R.length cR W HLle.out HRle.out)
      have HST7 := Lib.hid ((HST6.out.set2 (.slice AL L.length cL)).set3 (.slice AR R.length cR))
      have h6 := HST6.out.out
      have h6b := (HST6.out.set2 (.slice AL L.length cL)).out
      have HOL7 := Lib.hid (own_set187 (i := 3) (x := .slice AR R.length cR) (own_set187 (i := 2) (x := .slice AL L.length cL) HOL.out h6 (by decide)) h6b (by decide))
      have HOR7 := Lib.hid (own_set187 (i := 3) (x := .slice AR R.length cR) (own_set187 (i := 2) (x := .slice AL L.length cL) HOR.out h6 (by decide)) h6b (by decide))
      have HON7 := Lib.hid (own_set187 (i := 3) (x := .slice AR R.length cR) (own_set187 (i := 2) (x := .slice AL L.length cL) HON6.out h6 (by decide)) h6b (by decide))
      have hsz5 : w.heap.size + 1 < W5.heap.size := HST5.out.room
      clear h6 h6b c2 f2 c3 f3 d2 d3
      generalize (w6.setCell ⟨w.heap.size + 1, 2, none⟩ (.slice AL L.length cL)).setCell ⟨w.heap.size + 1, 3, none⟩ (.slice AR R.length cR) = W7 at *
      refine (HGOOD.out W7).mono ?_
      rintro e w8 ⟨rfl, rfl⟩
      cases hgd : goodB L.length R.length with
      | true =>
        have HC := Lib.hid (HCH.out hgd)
        have HDONE := Lib.hid (HST7.out.done #[.slice N nrm.length cN, .int .i64 off, .slice AL L.length cL, .slice AR R.length cR, .int .i64 ((k : Int) + 1)])
        clear hgd
        go_wp2_with (first
          | (refine wpList_load_row rfl 187 (.tmp 7) rfl (w.heap.size + 1) rfl 187 #[.slice N nrm.length cN, .int .i64 off, .slice AL L.length cL, .slice AR R.length cR, .int .i64 ((k : Int) + 1)] (0, 0) _ HST7.out.out Tryz.underlying187 rfl HI187.out ?_)
          | (refine wpList_store_row rfl 187 (.tmp 6) (.tmp 71) rfl w.heap.size rfl 187 zero5 #[.slice N nrm.length cN, .int .i64 off, .slice AL L.length cL, .slice AR R.length cR, .int .i64 ((k : Int) + 1)] rfl HST7.out.res HI187.out rfl (five_one _ _ _ _ _ _ _ _ _ _ _) ?_))
        have hg := setRow_heap W7 w.heap.size zero5 #[.slice N nrm.length cN, .int .i64 off, .slice AL L.length cL, .slice AR R.length cR, .int .i64 ((k : Int) + 1)] 187 (0, 0) HST7.out.res
        refine bodyPost_ret (results_cell_row rfl _ _ _ 187 #[.slice N nrm.length cN, .int .i64 off, .slice AL L.length cL, .slice AR R.length cR, .int .i64 ((k : Int) + 1)] (0, 0) _ rfl hg Tryz.underlying187 rfl HI187.out) rfl ?_
        exact ⟨nrm, off, L, R, _, N, cN, AL, cL, AR, cR, rfl, HC.out, own_low (own_setRow HON7.out _ _ (by omega)) (by omega), own_low (own_setRow HOL7.out _ _ (by omega)) (by omega), own_low (own_setRow HOR7.out _ _ (by omega)) (by omega), HDONE.out.1, HDONE.out.2⟩
      | false =>
        have HTRN := Lib.hid (HTRI.out hgd)
        clear hgd
        go_wp2
        go_roundg (4 - (k + 1))
        case measure => omega
        case rel => exact ⟨k + 1, _, _, _, _, _, rfl, hlt, .inr HTRN.out, by have := HST7.out; rw [show ((k : Int) + 1) = ((k + 1 : Nat) : Int) from by omega] at this; exact this⟩
    · obtain rfl : k = 4 := by omega
      have HTRF : Hid (Tried F dim ids) := by
        show Tried _ _ _
        rcases HTR.out with h | h
        · cases h
        · exact h
      have c4 : wr.cell? ⟨w.heap.size + 1, 4, none⟩ = some (.int .i64 4) := cell_of_row _ _ _ _ _ _ hst.out
      have HDIM := Lib.hid (dim_any wr (HIT.out wr HST.out.gr))
      have HFLAT := Lib.hid (fun W => flat_any dim W hd.2)
      have hsz1 := hst.room
      clear hst
      go_wp2_with (go_at_call 72; refine HDIM.out.mono ?_; rintro e w1 ⟨rfl, rfl⟩)
      refine (HFLAT.out _).mono ?_
      rintro e w4 ⟨N, cN, rfl, hoN, hb4⟩
      have HST4 := Lib.hid (HST.out.below hb4)
      have HON := Lib.hid hoN
      have hszb4 := hb4.size
      clear hoN hb4 c4
      have hrl : (List.replicate dim (0 : Int)).length = dim := List.length_replicate
      generalize hnrm : List.replicate dim (0 : Int) = nrm at *
      have HNRM := Lib.hid hnrm
      clear hnrm hrl
      obtain ⟨W5, hW5⟩ : ∃ W5, w4.setCells (w.heap.size + 1) 0 [.slice N nrm.length cN, .int .i64 0] = W5 := ⟨_, rfl⟩
      have HW5 := Lib.hid hW5
      have HST5 : Hid (ChSt w W5 b v (.slice N nrm.length cN) (.int .i64 0) a2 a3 (.int .i64 4) s1) := by
        show ChSt _ _ _ _ _ _ _ _ _ _
        rw [← HW5.out]; exact HST4.out.setP _ _
      have HON5 : Hid (W5.ownsRow wr.heap.size 21 1 (.slice N nrm.length cN) nrm.length (i32V nrm)) := by
        show World.ownsRow _ _ _ _ _ _ _
        rw [← HW5.out]
        have h1 := heap_setCell_same w4 (w.heap.size + 1) 0 _ _ (.slice N nrm.length cN) HST4.out.out
        exact own_set187 (own_set187 HON.out HST4.out.out (by decide)) h1 (by decide)
      have HTH := Lib.hid (there_of_block HST4.out.out 0 2 (by simp))
      have HHALF := Lib.hid (halves_any ids A c W5 (HIDS.out W5 HST5.out.gr) h2 hc (by omega))
      clear hW5
      have hsz5 : w.heap.size + 1 < W5.heap.size := HST5.out.room
      have HCH : Hid (Chosen F dim ids nrm 0 (ids.take (half ids)) (ids.drop (half ids))) := by show Chosen _ _ _ _ _ _ _; rw [← HNRM.out]; exact Chosen.flat HTRF.out
      generalize ids.take (half ids) = L at *
      generalize ids.drop (half ids) = R at *
      go_wp2_with (first
        | (refine wpList_store_mid rfl 68 (.tmp 75) (.tmp 74) rfl (w.heap.size + 1) 0 #[.slice N nrm.length cN, .int .i64 0] rfl rfl HTH.out HI68.out (plane_one _ _ _ _) ?_; rw [HW5.out])
        | (go_at_call 143; refine HHALF.out.mono ?_; rintro e w6 ⟨AL, cL, AR, cR, rfl, hoL, hoR, hb6⟩; have HST6 := Lib.hid (HST5.out.below hb6); have HOL := Lib.hid hoL; have HOR := Lib.hid hoR; have HON6 := Lib.hid (own_below HON5.out hb6); have hszb6 := hb6.size; clear hoL hoR hb6; have c2 := cell_of_row _ (w.heap.size + 1) 2 _ _ _ HST6.out.out; have f2 := frozen_of_row _ (w.heap.size + 1) 2 _ _ HST6.out.out; have c3 := cell_of_row _ (w.heap.size + 1) 3 _ _ _ (HST6.out.set2 (.slice AL L.length cL)).out; have f3 := frozen_of_row _ (w.heap.size + 1) 3 _ _ (HST6.out.set2 (.slice AL L.length cL)).out; have HST7 := Lib.hid ((HST6.out.set2 (.slice AL L.length cL)).set3 (.slice AR R.length cR)))
        | (refine wpList_load_row rfl 187 (.tmp 7) rfl (w.heap.size + 1) rfl 187 #[.slice N nrm.length cN, .int .i64 0, .slice AL L.length cL, .slice AR R.length cR, .int .i64 4] (0, 0) _ HST7.out.out Tryz.underlying187 rfl HI187.out ?_)
        | (refine wpList_store_row rfl 187 (.tmp 6) (.tmp 83) rfl w.heap.size rfl 187 zero5 #[.slice N nrm.length cN, .int .i64 0, .slice AL L.length cL, .slice AR R.length cR, .int .i64 4] rfl HST7.out.res HI187.out rfl (five_one _ _ _ _ _ _ _ _ _ _ _) ?_))
      have h6 := HST6.out.out
      have h6b := (HST6.out.set2 (.slice AL L.length cL)).out
      have HOL7 := Lib.hid (own_set187 (i := 3) (x := .slice AR R.length cR) (own_set187 (i := 2) (x := .slice AL L.length cL) HOL.out h6 (by decide)) h6b (by decide))
      have HOR7 := Lib.hid (own_set187 (i := 3) (x := .slice AR R.length cR) (own_set187 (i := 2) (x := .slice AL L.length cL) HOR.out h6 (by decide)) h6b (by decide))
      have HON7 := Lib.hid (own_set187 (i := 3) (x := .slice AR R.length cR) (own_set187 (i := 2) (x := .slice AL L.length cL) HON6.out h6 (by decide)) h6b (by decide))
      have HDONE := Lib.hid (HST7.out.done #[.slice N nrm.length cN, .int .i64 0, .slice AL L.length cL, .slice AR R.length cR, .int .i64 4])
      have hg := setRow_heap _ w.heap.size zero5 #[.slice N nrm.length cN, .int .i64 0, .slice AL L.length cL, .slice AR R.length cR, .int .i64 4] 187 (0, 0) HST7.out.res
      refine bodyPost_ret (results_cell_row rfl _ _ _ 187 #[.slice N nrm.length cN, .int .i64 0, .slice AL L.length cL, .slice AR R.length cR, .int .i64 4] (0, 0) _ rfl hg Tryz.underlying187 rfl HI187.out) rfl ?_
      exact ⟨nrm, 0, L, R, _, N, cN, AL, cL, AR, cR, rfl, HCH.out, own_low (own_setRow HON7.out _ _ (by omega)) (by omega), own_low (own_setRow HOL7.out _ _ (by omega)) (by omega), own_low (own_setRow HOR7.out _ _ (by omega)) (by omega), HDONE.out.1, HDONE.out.2⟩
end Go.Proofs.YtladmconpolneaaGreat

/- Rows of elements of several cells. -/
set_option linter.unusedVariables false
set_option linter.unusedSimpArgs false
namespace Go.Proofs.YtladmconpolneaaGreat
open Go.RowKit
section
variable {P : Program} {ops : Array Oper} {rest : List Oper} {o : Oper} {a : Act} {Q : Exit → Act → World → Prop}
/-- 'append(v, x)', x of some cells: its box has just been laid. -/
theorem append_cells {W : World} (base : Nat) (hgd : o.guard = none) (s x : Operand) (t e : TypeId) (z : Value) (size bytes : Nat)
    (ho : o.op = .call { callee := .builtin .append, args := #[s, x], argTypes := #[t, t] })
    (ht : P.underlying t = some (.slice e)) (hinfo : (P.info? e).map (fun i => (i.zero, i.size, i.bytes)) = some (some z, size, bytes)) (hz : z.cells.size = size) (hsz : 0 < size) (hb0 : 0 < bytes)
    (v : Value) (k : Nat) (xs : List Value) (ys : List Value) (hs : a.eval s = v) (hx : a.eval x = .slice (some ⟨W.heap.size, 0, none⟩) 1 1) (hys : ys.length = size) (h1 : ∀ u ∈ ys, u.oneCell' = true)
    (HO : W.ownsRow base e size v k xs) (hbase : base ≤ W.heap.size) (hl : (k + 1) * bytes ≤ 140737488355328)
    (h : ∀ A1 c1 w1, w1.ownsRow base e size (.slice A1 (k + 1) c1) (k + 1) (xs ++ ys) → W.grownBy w1 v.ownBlock →
      ((Value.slice A1 (k + 1) c1).ownBlock = v.ownBlock ∨ ∃ b, (Value.slice A1 (k + 1) c1).ownBlock = some b ∧ W.heap.size ≤ b) → W.heap.size < w1.heap.size → wpList P ops Q rest (a.put o.dst (.slice A1 (k + 1) c1)) w1) :
    wpList P ops Q (o :: rest) a (W.alloc (.cells ys.toArray e)) := by
  obtain ⟨i0, hi, hz0, hz1, hz2⟩ := info_parts hinfo
  have hlen : k + 1 ≤ 140737488355328 := Nat.le_trans (Nat.le_mul_of_pos_right _ hb0) hl
  refine wpList_append_own_at (W.alloc (.cells ys.toArray e)) hgd s x t ho base e i0 z size bytes ht hi hz0 hz1 hz2 hz hsz v k xs hs (HO.alloc _) ⟨W.heap.size, 0, none⟩ 1 1 ys hx (by omega)
    (fun j u hj => World.news_of_block (cs := ys.toArray) (t := e) (fr := (0, 0)) (heap_alloc_new W _) j u (by simpa using hj)) h1 (by simp only [maxLen]; omega) hl (by simp; omega) ?_
  intro v1 w1 hown hg _ hat
  have hsz := hg.size
  obtain ⟨A1, c1, rfl⟩ := own_slice hown
  refine h A1 c1 w1 hown (World.grownBy.trans (World.grownBy_alloc W _ _) hg) ?_ (by simp at hsz; omega)
  rcases hat with hat | hat
  · exact .inl hat
  · exact .inr ⟨_, hat, by simp⟩
end
/-- The cells of a row, element by element. -/
def Rows {α : Type} (R : α → List Value → Prop) (sz : Nat) (xs : List α) (cs : List Value) : Prop :=
  cs.length = xs.length * sz ∧ ∀ j x, xs[j]? = some x → R x ((cs.drop (j * sz)).take sz)
section
variable {α : Type} {R R' : α → List Value → Prop} {sz : Nat} {xs : List α} {cs : List Value}
theorem Rows.nil : Rows R sz [] [] := ⟨by simp, fun j x h => by simp at h⟩
theorem Rows.imp (h : Rows R sz xs cs) (hR : ∀ x c, R x c → R' x c) : Rows R' sz xs cs := ⟨h.1, fun j x hj => hR _ _ (h.2 j x hj)⟩
theorem Rows.snoc {x : α} {c : List Value} (h : Rows R sz xs cs) (hx : R x c) (hc : c.length = sz) : Rows R sz (xs ++ [x]) (cs ++ c) := by
  have hl := h.1
  refine ⟨by rw [List.length_append, hl, hc, List.length_append, List.length_singleton, Nat.add_mul, Nat.one_mul], fun j y hy => ?_⟩
  rcases Nat.lt_or_ge j xs.length with hj | hj
  · rw [List.getElem?_append_left hj] at hy
    have h1 : (j + 1) * sz ≤ xs.length * sz := Nat.mul_le_mul_right _ hj
    have h2 : (j + 1) * sz = j * sz + sz := Nat.succ_mul _ _
    rw [List.drop_append_of_le_length (by omega), List.take_append_of_le_length (by simp; omega)]
    exact h.2 j y hy
  · have hj' : j = xs.length := by
      have := (List.getElem?_eq_some_iff.mp hy).1
      rw [List.length_append, List.length_singleton] at this
      omega
    subst hj'
    rw [List.getElem?_append_right (Nat.le_refl _), Nat.sub_self] at hy
    have hxy : x = y := by simpa using hy
    subst hxy
    rw [← hl, List.drop_left, List.take_of_length_le (by omega)]
    exact hx
theorem Rows.get (h : Rows R sz xs cs) (j : Nat) (hj : j < xs.length) : ∃ c, c.length = sz ∧ R xs[j] c ∧ ∀ i, i < sz → cs[j * sz + i]? = c[i]? := by
  have h1 : (j + 1) * sz ≤ xs.length * sz := Nat.mul_le_mul_right _ hj
  have h2 : (j + 1) * sz = j * sz + sz := Nat.succ_mul _ _
  have hl := h.1
  refine ⟨(cs.drop (j * sz)).take sz, by simp; omega, h.2 j _ (List.getElem?_eq_getElem hj), fun i hi => ?_⟩
  rw [List.getElem?_take, if_pos hi, List.getElem?_drop]
theorem Rows.take (h : Rows R sz xs cs) (m : Nat) (hm : m ≤ xs.length) : Rows R sz (xs.take m) (cs.take (m * sz)) := by
  have h0 : m * sz ≤ xs.length * sz := Nat.mul_le_mul_right _ hm
  have hl := h.1
  have hml : (xs.take m).length = m := by simp; omega
  refine ⟨by rw [hml]; simp; omega, fun j x hj => ?_⟩
  have hjm : j < m := by
    have := (List.getElem?_eq_some_iff.mp hj).1
    omega
  rw [List.getElem?_take, if_pos hjm] at hj
  have h1 : (j + 1) * sz ≤ m * sz := Nat.mul_le_mul_right _ hjm
  have h2 : (j + 1) * sz = j * sz + sz := Nat.succ_mul _ _
  have := h.2 j x hj
  rw [List.drop_take, List.take_take, Nat.min_eq_left (by omega)]
  exact this
/-- One cell of an element is set. -/
theorem Rows.set (h : Rows R sz xs cs) (j i : Nat) (hj : j < xs.length) (hi : i < sz) (u : Value) (x' : α) (hR : ∀ c, c.length = sz → R xs[j] c → R x' (c.set i u)) : Rows R sz (xs.set j x') (cs.set (j * sz + i) u) := by
  have hl := h.1
  refine ⟨by rw [List.length_set, List.length_set, hl], fun k x hk => ?_⟩
  have hkl : k < xs.length := by have := (List.getElem?_eq_some_iff.mp hk).1; simpa using this
  have h1 : (j + 1) * sz ≤ xs.length * sz := Nat.mul_le_mul_right _ hj
  have h2 : (j + 1) * sz = j * sz + sz := Nat.succ_mul _ _
  have h3 : (k + 1) * sz ≤ xs.length * sz := Nat.mul_le_mul_right _ hkl
  have h4 : (k + 1) * sz = k * sz + sz := Nat.succ_mul _ _
  by_cases hjk : j = k
  · subst hjk
    rw [List.getElem?_set_self hj] at hk
    injection hk with hk
    subst hk
    have := hR ((cs.drop (j * sz)).take sz) (by simp; omega) (h.2 j _ (List.getElem?_eq_getElem hj))
    have e : (cs.set (j * sz + i) u).drop (j * sz) = (cs.drop (j * sz)).set i u := by
      rw [List.drop_set]
      rw [if_neg (by omega)]
      congr 1; omega
    rw [e, List.take_set]
    exact this
  · rw [List.getElem?_set_ne hjk] at hk
    have := h.2 k x hk
    have e : ((cs.set (j * sz + i) u).drop (k * sz)).take sz = (cs.drop (k * sz)).take sz := by
      rcases Nat.lt_or_gt_of_ne hjk with hlt | hgt
      · have h5 : (j + 1) * sz ≤ k * sz := Nat.mul_le_mul_right _ hlt
        rw [List.drop_set, if_pos (by omega)]
      · have h5 : (k + 1) * sz ≤ j * sz := Nat.mul_le_mul_right _ hgt
        rw [List.drop_set, if_neg (by omega), List.take_set, List.set_eq_of_length_le (by simp; omega)]
    rw [e]; exact this
end
/-- A row that the call owns, cut short. -/
theorem own_prefix {w : World} {base e size n c m : Nat} {A : Option Addr} {xs : List Value} (h : w.ownsRow base e size (.slice A n c) n xs) (hm : m ≤ n) (hn : 0 < n) : w.ownsRow base e size (.slice A m c) m (xs.take (m * size)) := by
  have hl := h.1
  have h0 : m * size ≤ n * size := Nat.mul_le_mul_right _ hm
  refine ⟨by simp; omega, ?_⟩
  rcases h.2 with ⟨_, h1⟩ | ⟨g, cap, cur, h1, hb, hg, h2, h3, h4, h5⟩
  · omega
  · simp only [Value.slice.injEq] at h1
    obtain ⟨rfl, -, rfl⟩ := h1
    exact .inr ⟨g, c, cur, rfl, hb, hg, by omega, h3, h4, by rw [← h5, List.take_take, Nat.min_eq_left h0]⟩
/-- The cells of a row that the call owns. -/
theorem own_cell {w : World} {base e size n c g : Nat} {xs : List Value} (h : w.ownsRow base e size (.slice (some ⟨g, 0, none⟩) n c) n xs) (k : Nat) (u : Value) (hk : xs[k]? = some u) : w.cell? ⟨g, k, none⟩ = some u ∧ w.frozen? ⟨g, k, none⟩ = false := by
  have h1 := h.cells (g := g) rfl k u hk
  refine ⟨?_, ?_⟩
  · have ha : (⟨g, 0, none⟩ : Addr).add k = ⟨g, k, none⟩ := by rw [Addr.add_lit, Nat.zero_add]
    rw [ha] at h1; exact h1
  · rcases h.2 with ⟨h2, _⟩ | ⟨g', cap, cur, h2, hb, hg, _⟩
    · simp at h2
    · simp only [Value.slice.injEq, Option.some.injEq] at h2
      have : g = g' := by have := h2.1; injection this
      subst this
      exact frozen_of_row _ _ _ _ _ hg
theorem own_addr {w : World} {base e size n c : Nat} {A : Option Addr} {xs : List Value} (h : w.ownsRow base e size (.slice A n c) n xs) (hn : 0 < n) : ∃ g, A = some ⟨g, 0, none⟩ := by
  rcases h.2 with ⟨_, h1⟩ | ⟨g, cap, cur, h1, _⟩
  · omega
  · simp only [Value.slice.injEq] at h1
    exact ⟨g, h1.1⟩
/-- What keeps all blocks of two types: ids and coordinates. -/
def Kept (w w' : World) : Prop := w.heap.size ≤ w'.heap.size ∧ ∀ (k : Nat) cells t fr, w.heap[k]? = some (.cells cells t fr) → t = 3 ∨ t = 21 → w'.heap[k]? = w.heap[k]?
theorem Kept.refl (w : World) : Kept w w := ⟨Nat.le_refl _, fun _ _ _ _ _ _ => rfl⟩
theorem Kept.trans {a b c : World} (h : Kept a b) (k : Kept b c) : Kept a c := ⟨Nat.le_trans h.1 k.1, fun i cs t fr hi ht => by
  have h1 := h.2 i cs t fr hi ht
  rw [k.2 i cs t fr (by rw [h1]; exact hi) ht, h1]⟩
theorem Kept.below {w w' : World} (h : Below w.heap.size w w') : Kept w w' := ⟨h.size, fun k _ _ _ hk _ => h.block k (lt_of_block hk)⟩
theorem Kept.src {w w' : World} {b : Nat} {v : Value} {s : Src} (hs : SrcAt w b v s) (hg : w.grownBy w' (some b)) : Kept w w' := ⟨hg.size, fun k cs t fr hk ht =>
  hg.block k (lt_of_block hk) (fun e => hs.ne hk (by rcases ht with rfl | rfl <;> decide) (by rcases ht with rfl | rfl <;> decide) (by injection e))⟩
theorem Kept.row {w w' : World} {base : Nat} {e : TypeId} {size n : Nat} {v : Value} {xs : List Value} (ho : w.ownsRow base e size v n xs) (hg : w.grownBy w' v.ownBlock) (he : e ≠ 3 ∧ e ≠ 21) : Kept w w' := ⟨hg.size, fun k cs t fr hk ht =>
  hg.block k (lt_of_block hk) (own_ne2' ho hk (by rcases ht with rfl | rfl; exact he.1; exact he.2))⟩
theorem Kept.set {w : World} {g i : Nat} {x : Value} {cs : Array Value} {t : TypeId} {fr : Nat × Nat} (hg : w.heap[g]? = some (.cells cs t fr)) (ht : t ≠ 3 ∧ t ≠ 21) : Kept w (w.setCell ⟨g, i, none⟩ x) := ⟨by simp [World.setCell], fun k cs' t' fr' hk ht' => Below.heap_setCell _ _ _ _ (by
  rintro rfl
  rw [hg] at hk
  injection hk with hk
  injection hk with _ e
  subst e
  rcases ht' with h | h
  · exact ht.1 h
  · exact ht.2 h)⟩
theorem RT.kept {w w' : World} {e : TypeId} {A : Option Addr} {n : Nat} {vs : List Value} (h : RT w e A n vs) (hk : Kept w w') (he : e = 3 ∨ e = 21) : RT w' e A n vs := h.keep fun k cells fr hk' => hk.2 k cells e fr hk' he
end Go.Proofs.YtladmconpolneaaGreat

/- How a tree grows, as plain Lean; jobs and nodes in memory; a job more. -/
set_option linter.unusedVariables false
set_option linter.unusedSimpArgs false
namespace Go.Proofs.YtladmconpolneaaGreat
open Go.RowKit
structure Node where
  leaf : Bool
  ids : List Nat
  nrm : List Int
  off : Int
  left : Int
  right : Int
structure Job where
  ids : List Nat
  depth : Nat
  up : Int
def leafN (ids : List Nat) : Node := ⟨true, ids, [], 0, 0, 0⟩
def splitN (nrm : List Int) (off left : Int) : Node := ⟨false, [], nrm, off, left, 0⟩
def Node.withRight (x : Node) (r : Int) : Node := { x with right := r }
def setR (nodes : List Node) (up at_ : Int) : List Node := if up < 0 then nodes else nodes.set up.toNat ((nodes.getD up.toNat (leafN [])).withRight at_)
theorem setR_length (nodes : List Node) (up at_ : Int) : (setR nodes up at_).length = nodes.length := by unfold setR; split <;> simp
/-- A step of the growth. -/
inductive GStep (F : List Int) (dim leaf depth : Nat) : List Node → List Job → List Node → List Job → Prop
  | leaf (nodes : List Node) (j : Job) (st : List Job) (h : j.ids.length ≤ leaf ∨ j.depth = depth) : GStep F dim leaf depth nodes (j :: st) (setR nodes j.up (nodes.length : Int) ++ [leafN j.ids]) st
  | split (nodes : List Node) (j : Job) (st : List Job) (nrm : List Int) (off : Int) (L R : List Nat) (h : ¬ (j.ids.length ≤ leaf ∨ j.depth = depth)) (hc : Chosen F dim j.ids nrm off L R) :
      GStep F dim leaf depth nodes (j :: st) (setR nodes j.up (nodes.length : Int) ++ [splitN nrm off ((nodes.length : Int) + 1)]) (⟨L, j.depth + 1, -1⟩ :: ⟨R, j.depth + 1, (nodes.length : Int)⟩ :: st)
/-- What is reached. -/
inductive Reach (F : List Int) (dim leaf depth n : Nat) : List Node → List Job → Prop
  | start : Reach F dim leaf depth n [] [⟨List.range n, 0, -1⟩]
  | step {nodes : List Node} {st : List Job} {nodes' : List Node} {st' : List Job} (h : Reach F dim leaf depth n nodes st) (hs : GStep F dim leaf depth nodes st nodes' st') : Reach F dim leaf depth n nodes' st'
theorem sides_length (F : List Int) (dim : Nat) (nrm : List Int) (off : Int) (ids : List Nat) : (leftL F dim nrm off ids).length + (rightL F dim nrm off ids).length = ids.length := by
  unfold leftL rightL
  induction ids with
  | nil => rfl
  | cons x l ih =>
    cases h : sideL nrm off (rowL F dim x) <;> simp [List.filter_cons, h] <;> omega
structure ChosenOk (ids L R : List Nat) : Prop where
  left : 0 < L.length
  right : 0 < R.length
  sum : L.length + R.length = ids.length
  inL : ∀ i ∈ L, i ∈ ids
  inR : ∀ i ∈ R, i ∈ ids
theorem chosen_ok {F : List Int} {dim : Nat} {ids : List Nat} {nrm : List Int} {off : Int} {L R : List Nat} (h : Chosen F dim ids nrm off L R) (h2 : 2 ≤ ids.length) : ChosenOk ids L R := by
  cases h with
  | good i k hi hk hg =>
    unfold goodB at hg
    simp only [Bool.and_eq_true, decide_eq_true_eq] at hg
    obtain ⟨h1, _⟩ := hg
    exact ⟨by omega, by omega, sides_length _ _ _ _ _, fun i hi => (List.mem_filter.1 hi).1, fun i hi => (List.mem_filter.1 hi).1⟩
  | flat ht =>
    have hh : half ids = (ids.length + 1) / 2 := rfl
    exact ⟨by simp; omega, by simp; omega, by simp; omega, fun i hi => List.mem_of_mem_take hi, fun i hi => List.mem_of_mem_drop hi⟩
def wt (st : List Job) : Nat := (st.map fun j => 2 * j.ids.length - 1).sum
theorem wt_cons (j : Job) (st : List Job) : wt (j :: st) = 2 * j.ids.length - 1 + wt st := rfl
/-- What holds of whatever is reached. -/
structure GInv (depth n : Nat) (nodes : List Node) (st : List Job) : Prop where
  ids : ∀ j ∈ st, 0 < j.ids.length ∧ ∀ i ∈ j.ids, i < n
  depth : ∀ j ∈ st, j.depth ≤ depth
  up : ∀ j ∈ st, -1 ≤ j.up ∧ j.up < (nodes.length : Int)
  sum : nodes.length + wt st ≤ 2 * n - 1
theorem reach_inv {F : List Int} {dim leaf depth n : Nat} {nodes : List Node} {st : List Job} (hl : 1 ≤ leaf) (hn : 1 ≤ n) (h : Reach F dim leaf depth n nodes st) : GInv depth n nodes st := by
  induction h with
  | start =>
    refine ⟨fun j hj => ?_, fun j hj => ?_, fun j hj => ?_, ?_⟩
    · simp at hj; subst hj; simp; omega
    · simp at hj; subst hj; exact Nat.zero_le _
    · simp at hj; subst hj; simp
    · simp [wt]
  | @step nodes st0 nodes' st' h hs ih =>
    cases hs with
    | leaf j st hj =>
      have h1 := ih.sum
      rw [wt_cons] at h1
      have h2 := (ih.ids j (by simp)).1
      refine ⟨fun k hk => ih.ids k (by simp [hk]), fun k hk => ih.depth k (by simp [hk]), fun k hk => ?_, ?_⟩
      · have := ih.up k (by simp [hk])
        rw [List.length_append, setR_length, List.length_singleton]; omega
      · rw [List.length_append, setR_length, List.length_singleton]; omega
    | split j st nrm off L R hj hc =>
      have h1 := ih.sum
      rw [wt_cons] at h1
      have hok := chosen_ok hc (by omega)
      have hd := ih.depth j (by simp)
      obtain ⟨h3, h4⟩ := ih.ids j (by simp)
      have e1 := hok.left
      have e2 := hok.right
      have e3 := hok.sum
      refine ⟨fun k hk => ?_, fun k hk => ?_, fun k hk => ?_, ?_⟩
      · simp only [List.mem_cons] at hk
        rcases hk with rfl | rfl | hk
        · exact ⟨e1, fun i hi => h4 i (hok.inL i hi)⟩
        · exact ⟨e2, fun i hi => h4 i (hok.inR i hi)⟩
        · exact ih.ids k (by simp [hk])
      · simp only [List.mem_cons] at hk
        rcases hk with rfl | rfl | hk
        · show j.depth + 1 ≤ depth; omega
        · show j.depth + 1 ≤ depth; omega
        · exact ih.depth k (by simp [hk])
      · rw [List.length_append, setR_length, List.length_singleton]
        simp only [List.mem_cons] at hk
        rcases hk with rfl | rfl | hk
        · show -1 ≤ (-1 : Int) ∧ (-1 : Int) < _; omega
        · show -1 ≤ (nodes.length : Int) ∧ (nodes.length : Int) < _; omega
        · have := ih.up k (by simp [hk]); omega
      · rw [List.length_append, setR_length, List.length_singleton, wt_cons, wt_cons]
        show nodes.length + 1 + (2 * L.length - 1 + (2 * R.length - 1 + wt st)) ≤ _
        omega
/-! ### in memory -/
def NodeR (w : World) (x : Node) (c : List Value) : Prop := ∃ A ca B cb, c = [.bool x.leaf, .slice A x.ids.length ca, .slice B x.nrm.length cb, .int .i64 x.off, .int .i64 x.left, .int .i64 x.right] ∧
  RT w 3 A x.ids.length (natV x.ids) ∧ RT w 21 B x.nrm.length (i32V x.nrm) ∧ x.ids.length ≤ ca ∧ x.nrm.length ≤ cb
def JobR (w : World) (j : Job) (c : List Value) : Prop := ∃ A ca, c = [.slice A j.ids.length ca, .int .i64 (j.depth : Int), .int .i64 j.up] ∧ RT w 3 A j.ids.length (natV j.ids) ∧ j.ids.length ≤ ca
theorem NodeR.kept {w w' : World} {x : Node} {c : List Value} (h : NodeR w x c) (hk : Kept w w') : NodeR w' x c := by
  obtain ⟨A, ca, B, cb, h1, h2, h3, h4, h5⟩ := h
  exact ⟨A, ca, B, cb, h1, h2.kept hk (.inl rfl), h3.kept hk (.inr rfl), h4, h5⟩
theorem JobR.kept {w w' : World} {j : Job} {c : List Value} (h : JobR w j c) (hk : Kept w w') : JobR w' j c := by
  obtain ⟨A, ca, h1, h2, h3⟩ := h
  exact ⟨A, ca, h1, h2.kept hk (.inl rfl), h3⟩
/-- The stack, its variable in block g. -/
structure StackAt (w : World) (B g : Nat) (v : Value) (js : List Job) : Prop where
  box : w.heap[g]? = some (.cells #[v] 184 (0, 0))
  base : B ≤ g
  row : ∃ cells, w.ownsRow B 183 3 v js.length cells ∧ Rows (JobR w) 3 js cells
theorem Tryz.info183 : (Tryz.prog.info? 183).map (fun i => (i.zero, i.size, i.bytes)) = some (some (.agg #[.slice none 0 0, .int .i64 0, .int .i64 0]), 3, 40) := by kernel_rfl
def PushPost (w : World) (B g : Nat) (v : Value) (js : List Job) (j : Job) (e : Ending) (w' : World) : Prop :=
  e = .returned (.tuple #[]) ∧ ∃ v', StackAt w' B g v' (js ++ [j]) ∧ (v'.ownBlock = v.ownBlock ∨ ∃ k, v'.ownBlock = some k ∧ w.heap.size ≤ k) ∧ Below B w w' ∧ w.heap.size ≤ w'.heap.size ∧
    (∀ k, k < w.heap.size → k ≠ g → some k ≠ v.ownBlock → w'.heap[k]? = w.heap[k]?)
theorem push_kept {w w' : World} {B g : Nat} {v : Value} {js : List Job} (h : StackAt w B g v js) (hs : w.heap.size ≤ w'.heap.size) (hk : ∀ k, k < w.heap.size → k ≠ g → some k ≠ v.ownBlock → w'.heap[k]? = w.heap[k]?) : Kept w w' := by
  obtain ⟨cells, ho, _⟩ := h.row
  refine ⟨hs, fun k cs t fr hk' ht => hk k (lt_of_block hk') ?_ (own_ne2' ho hk' (by rcases ht with rfl | rfl <;> decide))⟩
  rintro rfl
  rw [h.box] at hk'
  injection hk' with hk'
  injection hk' with _ e
  rcases ht with rfl | rfl <;> cases e
set_option maxHeartbeats 400000 in
theorem push_any (B g : Nat) (v : Value) (js : List Job) (j : Job) (A : Option Addr) (ca : Nat) (w : World) (h : StackAt w B g v js) (hj : RT w 3 A j.ids.length (natV j.ids)) (hca : j.ids.length ≤ ca) (hB : B ≤ w.heap.size) (hn : js.length ≤ 2000000) :
    Calls Tryz.prog 98 #[.slice A j.ids.length ca, .int .i64 (j.depth : Int), .int .i64 j.up, .pointer (some ⟨g, 0, none⟩)] w (PushPost w B g v js j) := by
  have HST := Lib.hid h
  obtain ⟨cells, ho, hr⟩ := h.row
  have hgB := h.base
  have hglt := lt_of_block h.box
  obtain ⟨S, cs, rfl⟩ := own_slice ho
  have c0 : w.cell? ⟨g, 0, none⟩ = some (.slice S js.length cs) := cell_of_row _ _ _ _ _ _ h.box
  have HG := Lib.hid h.box
  have HO := Lib.hid ho
  have HR := Lib.hid hr
  have HJ := Lib.hid hj
  clear h ho hr hj
  go_enter Tryz.func98, Tryz.ntmps98
  go_wp2_with (at_builtin; refine append_cells B rfl _ _ 184 183 (.agg #[.slice none 0 0, .int .i64 0, .int .i64 0]) 3 40 rfl Tryz.underlying184 Tryz.info183 rfl (by decide) (by decide) (.slice S js.length cs) js.length cells [.slice A j.ids.length ca, .int .i64 (j.depth : Int), .int .i64 j.up] rfl rfl rfl (by simp [Value.oneCell']) HO.out hB (by omega) ?_)
  intro A1 c1 w1 ho1 hg1 hat hsz
  have hgb : w1.heap[g]? = some (.cells #[.slice S js.length cs] 184 (0, 0)) := by
    rw [hg1.block g hglt (own_ne2 HO.out HG.out (by decide))]; exact HG.out
  have c1' : w1.cell? ⟨g, 0, none⟩ = some (.slice S js.length cs) := cell_of_row _ _ _ _ _ _ hgb
  have f1' : w1.frozen? ⟨g, 0, none⟩ = false := frozen_of_row _ _ _ _ _ hgb
  have HGB := Lib.hid hgb
  have HO1 := Lib.hid ho1
  have HG1 := Lib.hid hg1
  have HAT := Lib.hid hat
  clear hgb ho1 hg1 hat
  go_wp2
  go_end0
  have hk1 : Kept w w1 := Kept.row HO.out HG1.out (by decide)
  have hk2 : Kept w1 (w1.setCell ⟨g, 0, none⟩ (.slice A1 (js.length + 1) c1)) := Kept.set HGB.out (by decide)
  have hk := hk1.trans hk2
  have e1 : (js ++ [j]).length = js.length + 1 := by simp
  refine ⟨rfl, .slice A1 (js.length + 1) c1, ⟨heap_setCell_same w1 g 0 _ _ _ HGB.out, hgB, cells ++ [.slice A j.ids.length ca, .int .i64 (j.depth : Int), .int .i64 j.up], ?_, ?_⟩, HAT.out, ?_, hk.1, ?_⟩
  · rw [e1]
    exact ownsRow_setCell_other HO1.out (a := ⟨g, 0, none⟩) (fun e => own_ne2 HO1.out HGB.out (by decide) e.symm) _
  · exact (HR.out.imp fun x c hx => hx.kept hk).snoc ⟨A, ca, rfl, HJ.out.kept hk (.inl rfl), hca⟩ rfl
  · exact ((Below.refl B w).grown HG1.out hB (own_base HO.out)).setCell hgB _
  · intro k hk' hkg hko
    rw [Below.heap_setCell _ _ _ _ hkg, HG1.out.block k hk' hko]
end Go.Proofs.YtladmconpolneaaGreat

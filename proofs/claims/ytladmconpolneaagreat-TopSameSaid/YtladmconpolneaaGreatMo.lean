/- Several texts of this seat, laid together (no statement of its own): their conditions stand in each theorem. -/
import Derived.Test.YtladmconpolneaaGreatMj
import Derived.Test.YtladmconpolneaaGreatMk
import Derived.Test.YtladmconpolneaaGreatMm
import Derived.Test.YtladmconpolneaaGreatMn
import Derived.Test.YtladmconpolneaaGreatMb
import Derived.Test.YtladmconpolneaaGreatMe
/- forest: Check, bare, Build. -/
set_option linter.unusedVariables false
set_option linter.unusedSimpArgs false
namespace Go.Proofs.YtladmconpolneaaGreat
open Go.RowKit
attribute [local go_sem] Oper.semAt_some
def forestE (p : Par) (n : Nat) : Int := if growE p = 0 then (if n = 0 then 15 else 0) else growE p
theorem par_cells (p : Par) (L : Option Addr) (c : Nat) : parV p L c = #[.int .i64 p.trees, .int .i64 p.leaf, .int .i64 p.depth, .bool p.scripted, .int .u64 p.seed, .slice L p.list.length c] := rfl
set_option maxRecDepth 100000 in
theorem fcheck_any (w : World) (B b dim n : Nat) (F : List Int) (h : ItemsAt w B b dim n F) (p : Par) (L : Option Addr) (c : Nat) :
    Calls Tryz.prog 50 #[.pointer (some ⟨b, 0, none⟩), .agg (parV p L c)] w fun e w' => e = .returned (.int .i64 (forestE p n)) ∧ Below w.heap.size w w' := by
  have hb0 : Below w.heap.size w (w.alloc (.cells (parV p L c) 28)) := (Below.refl _ _).alloc (Nat.le_refl _) _
  have HC := Lib.hid (gcheck_any p L c (w.alloc (.cells (parV p L c) 28)))
  have HB0 := Lib.hid hb0
  have HG := Lib.hid (heap_alloc_new w (.cells (parV p L c) 28))
  have HL : Hid (∀ W, Below w.heap.size w W → Calls Tryz.prog 73 #[.pointer (some ⟨b, 0, none⟩)] W fun e w' => e = .returned (.int .i64 (n : Int)) ∧ Below W.heap.size W w') := fun W hb => (len_any W (h.below hb)).mono (by rintro e w' ⟨rfl, nn, rfl⟩; exact ⟨rfl, bel_drewN (Below.refl _ _) _⟩)
  have HI := Lib.hid Tryz.info28
  have HFE : Hid (forestE p n = if growE p = 0 then (if n = 0 then 15 else 0) else growE p) := rfl
  obtain ⟨q, hq⟩ : ∃ q, growE p = q := ⟨_, rfl⟩
  obtain ⟨E, hE⟩ : ∃ E, forestE p n = E := ⟨_, rfl⟩
  rw [hq] at HC HFE
  rw [hE] at HFE ⊢
  rw [par_cells] at *
  clear h hb0 hq hE
  by_cases hq0 : q = 0
  · subst hq0
    by_cases hn : n = 0
    · have HE : Hid (E = 15) := by show _ = _; rw [HFE.out, if_pos rfl, if_pos hn]
      subst hn
      clear HFE
      go_enter Tryz.func50, Tryz.ntmps50
      go_wp2_with (first
        | (go_at_call 95; refine HC.out.mono ?_; rintro e w2 ⟨rfl, hb⟩; have HB2 := Lib.hid (HB0.out.trans (hb.mono HB0.out.size)); clear hb)
        | (go_at_call 73; refine (HL.out _ HB2.out).mono ?_; rintro e w3 ⟨rfl, hb⟩; have HB3 := Lib.hid (HB2.out.trans (hb.mono HB2.out.size)); clear hb)
        | fail)
      go_ret
      exact ⟨by rw [HE.out]; rfl, HB3.out⟩
    · have HE : Hid (E = 0) := by show _ = _; rw [HFE.out, if_pos rfl, if_neg hn]
      have hn0 : ¬ ((n : Int) = 0) := by omega
      clear HFE
      go_enter Tryz.func50, Tryz.ntmps50
      go_wp2_with (first
        | (go_at_call 95; refine HC.out.mono ?_; rintro e w2 ⟨rfl, hb⟩; have HB2 := Lib.hid (HB0.out.trans (hb.mono HB0.out.size)); clear hb)
        | (go_at_call 73; refine (HL.out _ HB2.out).mono ?_; rintro e w3 ⟨rfl, hb⟩; have HB3 := Lib.hid (HB2.out.trans (hb.mono HB2.out.size)); clear hb)
        | fail)
      go_ret
      exact ⟨by rw [HE.out]; rfl, HB3.out⟩
  · have HE : Hid (E = q) := by show _ = _; rw [HFE.out, if_neg hq0]
    clear HFE
    go_enter Tryz.func50, Tryz.ntmps50
    go_wp2_with (first
      | (go_at_call 95; refine HC.out.mono ?_; rintro e w2 ⟨rfl, hb⟩; have HB2 := Lib.hid (HB0.out.trans (hb.mono HB0.out.size)); clear hb)
      | fail)
    go_ret
    exact ⟨by rw [HE.out]; rfl, HB2.out⟩
theorem fbare_any (w : World) (b : Nat) (p : Par) (L : Option Addr) (c : Nat) :
    Calls Tryz.prog 51 #[.pointer (some ⟨b, 0, none⟩), .agg (parV p L c)] w fun e w' => e = .returned (.agg #[.pointer (some ⟨b, 0, none⟩), .int .i64 p.leaf, .int .i64 p.depth, .slice none 0 0]) ∧ Below w.heap.size w w' := by
  rw [par_cells]
  go_enter Tryz.func51, Tryz.ntmps51
  go_wp2_with fail
  refine bodyPost_ret (results_cell_row rfl _ _ (w.heap.size + 1) 62 #[.pointer (some ⟨b, 0, none⟩), .int .i64 p.leaf, .int .i64 p.depth, .slice none 0 0] (0, 0) _ rfl (alloc_at0 _ _ _ (by simp)) Tryz.underlying62 rfl Tryz.size62) rfl ?_
  exact ⟨rfl, ((Below.refl _ _).alloc (Nat.le_refl _) _).alloc (by simp) _⟩
section
variable {F : Fence} {nF : Nat} {P : Program} {ops : Array Oper} {rest : List Oper} {o : Oper} {a : Act} {Q : Exit → Act → World → Prop}
/-- 'append(v, x)', x of one cell, in a round of a range over a function. -/
theorem wpListIn_append_one {W : World} (base : Nat) (hgd : o.guard = none) (s x : Operand) (t e : TypeId) (z : Value) (bytes : Nat)
    (ho : o.op = .call { callee := .builtin .append, args := #[s, x], argTypes := #[t, t] })
    (ht : P.underlying t = some (.slice e)) (hinfo : (P.info? e).map (fun i => (i.zero, i.size, i.bytes)) = some (some z, 1, bytes)) (hz : z.cells.size = 1) (hb0 : 0 < bytes)
    (v : Value) (k : Nat) (xs : List Value) (y : Value) (hs : a.eval s = v) (hx : a.eval x = .slice (some ⟨W.heap.size, 0, none⟩) 1 1) (h1 : y.oneCell' = true)
    (HO : W.ownsRow base e 1 v k xs) (hbase : base ≤ W.heap.size) (hl : (k + 1) * bytes ≤ 140737488355328)
    (h : ∀ A1 c1 w1, w1.ownsRow base e 1 (.slice A1 (k + 1) c1) (k + 1) (xs ++ [y]) → W.grownBy w1 v.ownBlock → wpListIn F nF P ops Q rest (a.put o.dst (.slice A1 (k + 1) c1)) w1) :
    wpListIn F nF P ops Q (o :: rest) a (W.alloc (.cells #[y] e)) := by
  obtain ⟨i0, hi, hz0, hz1, hz2⟩ := info_parts hinfo
  have hlen : k + 1 ≤ 140737488355328 := Nat.le_trans (Nat.le_mul_of_pos_right _ hb0) hl
  refine wpListIn_append_own_at (W.alloc (.cells #[y] e)) hgd s x t ho base e i0 z 1 bytes ht hi hz0 hz1 hz2 hz (by omega) v k xs hs (HO.alloc _) ⟨W.heap.size, 0, none⟩ 1 1 [y] hx rfl
    (World.news_of_block (cs := #[y]) (t := e) (fr := (0, 0)) (heap_alloc_new W _)) (by simpa using h1) (by simp only [maxLen]; omega) hl (by simp; omega) ?_
  intro v1 w1 hown hg _ hat
  obtain ⟨A1, c1, rfl⟩ := own_slice hown
  exact h A1 c1 w1 hown (World.grownBy.trans (World.grownBy_alloc W _ _) hg)
end
theorem Tryz.info65 : (Tryz.prog.info? 65).map (fun i => (i.zero, i.size, i.bytes)) = some (some (.slice none 0 0), 1, 24) := by kernel_rfl
theorem KeepT.src {w w' : World} {b : Nat} {v : Value} {s : Src} {T : List TypeId} (h : SrcAt w b v s) (hg : w.grownBy w' (some b)) (h1 : 291 ∈ T) (h2 : 294 ∈ T) : KeepT T w w' := ⟨hg.size, fun k c t fr hk ht => by
  rw [hg.block k (lt_of_block hk) (fun e => h.ne hk (fun e => ht (e ▸ h1)) (fun e => ht (e ▸ h2)) (Option.some.inj e))]; exact hk⟩
theorem NCs.src {w w' : World} {b : Nat} {v : Value} {s : Src} (h : SrcAt w b v s) (hg : w.grownBy w' (some b)) : NCs w w' := fun k o hk hc => by
  refine (hg.block k (Array.getElem?_eq_some_iff.1 hk).1 (fun e => ?_)).trans hk
  injection e with e
  subst e
  cases s with
  | scr l =>
    obtain ⟨_, A, c, h1, _⟩ := h
    rw [h1] at hk
    injection hk with hk
    subst hk
    cases hc
  | mix st =>
    rw [h.2] at hk
    injection hk with hk
    subst hk
    cases hc
/-- What Build holds between two rounds. -/
structure BuAt (w w0 W : World) (b4 b7 N bi leaf depth dim n : Nat) (F : List Int) (k : Nat) : Prop where
  row : ∃ v ts cells, W.heap[b7]? = some (.cells #[.pointer (some ⟨bi, 0, none⟩), .int .i64 (leaf : Int), .int .i64 (depth : Int), v] 62 (0, 0)) ∧ W.ownsRow N 65 1 v ts.length cells ∧ Rows (TreeR W) 1 ts cells ∧ ts.length = k ∧ ∀ t ∈ ts, Reach F dim leaf depth n t []
  res : W.heap[b4]? = some (.cells #[.pointer none, .int .i64 0, .int .i64 0, .slice none 0 0] 62 (0, 0))
  kt : KeepT [62, 65, 291, 294] w0 W
  bel : Below w.heap.size w W
theorem BuAt.keep {w w0 W W' : World} {b4 b7 N bi leaf depth dim n k : Nat} {F : List Int} {T : List TypeId} (h : BuAt w w0 W b4 b7 N bi leaf depth dim n F k) (hk : KeepT T W W') (h1 : 62 ∉ T) (h2 : 65 ∉ T) (h3 : 70 ∉ T) (h4 : 3 ∉ T) (h5 : 21 ∉ T) (hT : ∀ x ∈ T, x ∈ [62, 65, 291, 294]) (hb : Below w.heap.size W W') : BuAt w w0 W' b4 b7 N bi leaf depth dim n F k := by
  obtain ⟨v, ts, cells, q1, q2, q3, q4, q5⟩ := h.row
  have hkf := KeepF.of hk h2 h3 h4 h5
  exact ⟨⟨v, ts, cells, hk.2 _ _ _ _ q1 h1, own_keepT q2 hk h2, q3.imp fun x c hx => hx.keep hkf, q4, q5⟩, hk.2 _ _ _ _ h.res h1, h.kt.trans (hk.mono hT), h.bel.trans hb⟩
theorem TreeR.keepT {w w' : World} {T : List TypeId} {t : List Node} {c : List Value} (h : TreeR w t c) (hk : KeepT T w w') (h3 : 70 ∉ T) (h4 : 3 ∉ T) (h5 : 21 ∉ T) : TreeR w' t c := by
  obtain ⟨A, cap, cells, q1, q2, q3⟩ := h
  exact ⟨A, cap, cells, q1, own_keepT q2 hk h3, q3.imp fun x c hx => hx.kept ⟨hk.1, fun k cs t fr hh ht => (hk.2 _ _ _ _ hh (by rcases ht with rfl | rfl <;> assumption)).trans hh.symm⟩⟩
theorem own_base0 {w : World} {B B' sz n : Nat} {e : TypeId} {v : Value} {xs : List Value} (h : w.ownsRow B e sz v n xs) (hB : B' ≤ B) : w.ownsRow B' e sz v n xs := by
  refine ⟨h.1, h.2.imp id ?_⟩
  rintro ⟨k, cap, cur, q1, q2, q3, q4⟩
  exact ⟨k, cap, cur, q1, Nat.le_trans hB q2, q3, q4⟩
def BuildPost (w : World) (bi leaf depth dim n trees : Nat) (F : List Int) (e : Ending) (w' : World) : Prop :=
  ∃ TA tc ts, e = .returned (.tuple #[.agg #[.pointer (some ⟨bi, 0, none⟩), .int .i64 (leaf : Int), .int .i64 (depth : Int), .slice TA ts.length tc], .int .i64 0]) ∧ ForestAt w' (.slice TA ts.length tc) ts ∧ ts.length = trees ∧ (∀ t ∈ ts, Reach F dim leaf depth n t []) ∧ Below w.heap.size w w'
set_option maxRecDepth 100000 in
set_option maxHeartbeats 1600000 in
theorem fbuild_bad (w : World) (B b dim n : Nat) (F : List Int) (h : ItemsAt w B b dim n F) (p : Par) (L : Option Addr) (c : Nat) (hE : forestE p n ≠ 0) :
    Calls Tryz.prog 20 #[.pointer (some ⟨b, 0, none⟩), .agg (parV p L c)] w fun e w' => e = .returned (.tuple #[.agg #[.pointer none, .int .i64 0, .int .i64 0, .slice none 0 0], .int .i64 (forestE p n)]) ∧ Below w.heap.size w w' := by
  obtain ⟨W0, hW0⟩ : ∃ W, ((w.alloc (.cells #[.pointer (some ⟨b, 0, none⟩)] 57)).alloc (.cells (parV p L c) 28)).alloc (.cells #[.pointer none, .int .i64 0, .int .i64 0, .slice none 0 0] 62) = W := ⟨_, rfl⟩
  have HB0 : Hid (Below w.heap.size w W0) := by show Below _ _ _; rw [← hW0]; exact (((Below.refl _ _).alloc (Nat.le_refl _) _).alloc (by simp) _).alloc (by simp; omega) _
  have G2 : Hid (W0.heap[w.heap.size]? = some (.cells #[.pointer (some ⟨b, 0, none⟩)] 57 (0, 0))) := by show _ = _; rw [← hW0, Below.heap_alloc _ _ _ (by simp; omega), Below.heap_alloc _ _ _ (by simp)]; exact heap_alloc_new _ _
  have G3 : Hid (W0.heap[w.heap.size + 1]? = some (.cells (parV p L c) 28 (0, 0))) := by show _ = _; rw [← hW0, Below.heap_alloc _ _ _ (by simp)]; exact alloc_at0 _ _ _ (by simp)
  have G4 : Hid (W0.heap[w.heap.size + 2]? = some (.cells #[.pointer none, .int .i64 0, .int .i64 0, .slice none 0 0] 62 (0, 0))) := by show _ = _; rw [← hW0]; exact alloc_at0 _ _ _ (by simp)
  have HC := Lib.hid (fcheck_any W0 B b dim n F (h.below HB0.out) p L c)
  have HI := Lib.hid Tryz.info28
  obtain ⟨E, hEq⟩ : ∃ E, forestE p n = E := ⟨_, rfl⟩
  rw [hEq] at HC hE ⊢
  have c2 : (((w.alloc (.cells #[.pointer (some ⟨b, 0, none⟩)] 57)).alloc (.cells (parV p L c) 28)).alloc (.cells #[.pointer none, .int .i64 0, .int .i64 0, .slice none 0 0] 62)).cell? ⟨w.heap.size, 0, none⟩ = some (.pointer (some ⟨b, 0, none⟩)) := by rw [hW0]; exact cell_of_row _ _ _ _ _ _ G2.out
  have HW0 := Lib.hid hW0
  rw [par_cells] at *
  have d0 : (((w.alloc (.cells #[.pointer (some ⟨b, 0, none⟩)] 57)).alloc (.cells #[.int .i64 p.trees, .int .i64 p.leaf, .int .i64 p.depth, .bool p.scripted, .int .u64 p.seed, .slice L p.list.length c] 28)).alloc (.cells #[.pointer none, .int .i64 0, .int .i64 0, .slice none 0 0] 62)).cell? ⟨w.heap.size + 1, 0, none⟩ = some (.int .i64 p.trees) := by rw [hW0]; exact cell_of_row _ _ _ _ _ _ G3.out
  have d1 : (((w.alloc (.cells #[.pointer (some ⟨b, 0, none⟩)] 57)).alloc (.cells #[.int .i64 p.trees, .int .i64 p.leaf, .int .i64 p.depth, .bool p.scripted, .int .u64 p.seed, .slice L p.list.length c] 28)).alloc (.cells #[.pointer none, .int .i64 0, .int .i64 0, .slice none 0 0] 62)).cell? ⟨w.heap.size + 1, 1, none⟩ = some (.int .i64 p.leaf) := by rw [hW0]; exact cell_of_row _ _ _ _ _ _ G3.out
  have d2 : (((w.alloc (.cells #[.pointer (some ⟨b, 0, none⟩)] 57)).alloc (.cells #[.int .i64 p.trees, .int .i64 p.leaf, .int .i64 p.depth, .bool p.scripted, .int .u64 p.seed, .slice L p.list.length c] 28)).alloc (.cells #[.pointer none, .int .i64 0, .int .i64 0, .slice none 0 0] 62)).cell? ⟨w.heap.size + 1, 2, none⟩ = some (.int .i64 p.depth) := by rw [hW0]; exact cell_of_row _ _ _ _ _ _ G3.out
  have d3 : (((w.alloc (.cells #[.pointer (some ⟨b, 0, none⟩)] 57)).alloc (.cells #[.int .i64 p.trees, .int .i64 p.leaf, .int .i64 p.depth, .bool p.scripted, .int .u64 p.seed, .slice L p.list.length c] 28)).alloc (.cells #[.pointer none, .int .i64 0, .int .i64 0, .slice none 0 0] 62)).cell? ⟨w.heap.size + 1, 3, none⟩ = some (.bool p.scripted) := by rw [hW0]; exact cell_of_row _ _ _ _ _ _ G3.out
  have d4 : (((w.alloc (.cells #[.pointer (some ⟨b, 0, none⟩)] 57)).alloc (.cells #[.int .i64 p.trees, .int .i64 p.leaf, .int .i64 p.depth, .bool p.scripted, .int .u64 p.seed, .slice L p.list.length c] 28)).alloc (.cells #[.pointer none, .int .i64 0, .int .i64 0, .slice none 0 0] 62)).cell? ⟨w.heap.size + 1, 4, none⟩ = some (.int .u64 p.seed) := by rw [hW0]; exact cell_of_row _ _ _ _ _ _ G3.out
  have d5 : (((w.alloc (.cells #[.pointer (some ⟨b, 0, none⟩)] 57)).alloc (.cells #[.int .i64 p.trees, .int .i64 p.leaf, .int .i64 p.depth, .bool p.scripted, .int .u64 p.seed, .slice L p.list.length c] 28)).alloc (.cells #[.pointer none, .int .i64 0, .int .i64 0, .slice none 0 0] 62)).cell? ⟨w.heap.size + 1, 5, none⟩ = some (.slice L p.list.length c) := by rw [hW0]; exact cell_of_row _ _ _ _ _ _ G3.out
  clear h hEq hW0
  go_enter Tryz.func20, Tryz.ntmps20
  go_wp2_with (first
    | (go_at_call 50; rw [HW0.out]; refine HC.out.mono ?_; rintro e w2 ⟨rfl, hb⟩
       have HB2 := Lib.hid (HB0.out.trans (hb.mono HB0.out.size))
       have G42 := Lib.hid ((hb.block _ (lt_of_block G4.out)).trans G4.out)
       have q0 : w2.cell? ⟨w.heap.size + 2, 0, none⟩ = some (.pointer none) := cell_of_row _ _ _ _ _ _ G42.out
       have q1 : w2.cell? ⟨w.heap.size + 2, 1, none⟩ = some (.int .i64 0) := cell_of_row _ _ _ _ _ _ G42.out
       have q2 : w2.cell? ⟨w.heap.size + 2, 2, none⟩ = some (.int .i64 0) := cell_of_row _ _ _ _ _ _ G42.out
       have q3 : w2.cell? ⟨w.heap.size + 2, 3, none⟩ = some (.slice none 0 0) := cell_of_row _ _ _ _ _ _ G42.out
       have fz : ∀ i, w2.frozen? ⟨w.heap.size + 2, i, none⟩ = false := fun i => frozen_of_row _ _ _ _ _ G42.out
       clear hb)
    | fail)
  have G5 := heap_setCell_same _ (w.heap.size + 2) 3 _ _ (.slice none 0 0) (heap_setCell_same _ (w.heap.size + 2) 2 _ _ (.int .i64 0) (heap_setCell_same _ (w.heap.size + 2) 1 _ _ (.int .i64 0) (heap_setCell_same w2 (w.heap.size + 2) 0 _ _ (.pointer none) G42.out)))
  refine bodyPost_ret (results_cell_slot rfl _ _ (w.heap.size + 2) 62 #[.pointer none, .int .i64 0, .int .i64 0, .slice none 0 0] (0, 0) _ rfl G5 Tryz.underlying62 rfl Tryz.size62) rfl ?_
  exact ⟨rfl, (((HB2.out.setCell (p := ⟨w.heap.size + 2, 0, none⟩) (by simp) _).setCell (p := ⟨w.heap.size + 2, 1, none⟩) (by simp) _).setCell (p := ⟨w.heap.size + 2, 2, none⟩) (by simp) _).setCell (p := ⟨w.heap.size + 2, 3, none⟩) (by simp) _⟩
def PS (b i3 : Nat) (p : Par) (L : Option Addr) (c : Nat) (i2 : Nat) (W : World) : Prop :=
  W.cell? ⟨i2, 0, none⟩ = some (.pointer (some ⟨b, 0, none⟩)) ∧ W.cell? ⟨i3, 0, none⟩ = some (.int .i64 p.trees) ∧ W.cell? ⟨i3, 1, none⟩ = some (.int .i64 p.leaf) ∧ W.cell? ⟨i3, 2, none⟩ = some (.int .i64 p.depth) ∧
  W.cell? ⟨i3, 3, none⟩ = some (.bool p.scripted) ∧ W.cell? ⟨i3, 4, none⟩ = some (.int .u64 p.seed) ∧ W.cell? ⟨i3, 5, none⟩ = some (.slice L p.list.length c)
theorem PS.of {W : World} {b i3 : Nat} {p : Par} {L : Option Addr} {c i2 : Nat} (h2 : W.heap[i2]? = some (.cells #[.pointer (some ⟨b, 0, none⟩)] 57 (0, 0))) (h3 : W.heap[i3]? = some (.cells (parV p L c) 28 (0, 0))) : PS b i3 p L c i2 W := by
  rw [par_cells] at h3
  exact ⟨cell_of_row _ _ _ _ _ _ h2, cell_of_row _ _ _ _ _ _ h3, cell_of_row _ _ _ _ _ _ h3, cell_of_row _ _ _ _ _ _ h3, cell_of_row _ _ _ _ _ _ h3, cell_of_row _ _ _ _ _ _ h3, cell_of_row _ _ _ _ _ _ h3⟩
set_option maxRecDepth 100000 in
set_option maxHeartbeats 3200000 in
theorem fbuild_any (w : World) (B bi dim n leaf depth trees : Nat) (F : List Int) (h : ItemsAt w B bi dim n F) (p : Par) (hpl : p.leaf = (leaf : Int)) (hpd : p.depth = (depth : Int)) (hpt : p.trees = (trees : Int)) (L : Option Addr) (c : Nat) (hL : Reads w L p.list.length (u64V p.list)) (hll : p.list.length ≤ 1000) (hu : ∀ x ∈ p.list, U64 x)
    (hE : growE p = 0) (hn : 1 ≤ n ∧ n ≤ 20000) (hl1 : 1 ≤ leaf) (ht : trees ≤ 256) :
    Calls Tryz.prog 20 #[.pointer (some ⟨bi, 0, none⟩), .agg (parV p L c)] w (BuildPost w bi leaf depth dim n trees F) := by
  obtain ⟨W0, hW0⟩ : ∃ W, ((w.alloc (.cells #[.pointer (some ⟨bi, 0, none⟩)] 57)).alloc (.cells (parV p L c) 28)).alloc (.cells #[.pointer none, .int .i64 0, .int .i64 0, .slice none 0 0] 62) = W := ⟨_, rfl⟩
  have HB0 : Hid (Below w.heap.size w W0) := by show Below _ _ _; rw [← hW0]; exact (((Below.refl _ _).alloc (Nat.le_refl _) _).alloc (by simp) _).alloc (by simp; omega) _
  have G2 : Hid (W0.heap[w.heap.size]? = some (.cells #[.pointer (some ⟨bi, 0, none⟩)] 57 (0, 0))) := by show _ = _; rw [← hW0, Below.heap_alloc _ _ _ (by simp; omega), Below.heap_alloc _ _ _ (by simp)]; exact heap_alloc_new _ _
  have G3 : Hid (W0.heap[w.heap.size + 1]? = some (.cells (parV p L c) 28 (0, 0))) := by show _ = _; rw [← hW0, Below.heap_alloc _ _ _ (by simp)]; exact alloc_at0 _ _ _ (by simp)
  have G4 : Hid (W0.heap[w.heap.size + 2]? = some (.cells #[.pointer none, .int .i64 0, .int .i64 0, .slice none 0 0] 62 (0, 0))) := by show _ = _; rw [← hW0]; exact alloc_at0 _ _ _ (by simp)
  have hfe : forestE p n = 0 := by unfold forestE; rw [if_pos hE, if_neg (by omega)]
  have HC := fcheck_any W0 B bi dim n F (h.below HB0.out) p L c
  rw [hfe] at HC
  have HC := Lib.hid HC
  have HBA := Lib.hid (fun W => fbare_any W bi p L c)
  have HAL := Lib.hid (fun W => all2_any p.scripted p.seed L p.list.length c p.trees W)
  have HPS : Hid (∀ W, Below W0.heap.size W0 W → PS bi (w.heap.size + 1) p L c w.heap.size W) := fun W hb => PS.of ((hb.block _ (lt_of_block G2.out)).trans G2.out) ((hb.block _ (lt_of_block G3.out)).trans G3.out)
  have HS0 : Hid (w.heap.size + 3 ≤ W0.heap.size) := lt_of_block G4.out
  obtain ⟨c2, d0, d1, d2, d3, d4, d5⟩ := HPS.out W0 (Below.refl _ _)
  rw [← hW0] at c2 d0 d1 d2 d3 d4 d5
  have HW0 := Lib.hid hW0
  have HP := Lib.hid (And.intro hpl (And.intro hpd hpt))
  have HH := Lib.hid h
  have HLR := Lib.hid hL
  have HLL := Lib.hid hll
  have HU := Lib.hid hu
  have HG := Lib.hid hE
  have HN := Lib.hid hn
  have HL1 := Lib.hid hl1
  have HTR := Lib.hid ht
  rw [par_cells] at *
  clear h hW0 hfe hpl hpd hpt hL hll hu hE hn hl1 ht
  refine calls_marks Tryz.func20 rfl ?_
  simp only [Tryz.ntmps20, List.size_toArray, List.length_cons, List.length_nil, Nat.reduceAdd, Nat.reduceSub, Array.replicate_succ, Array.replicate_zero, List.push_toArray, List.append_toArray, List.nil_append, List.cons_append]
  go_wp2_with (first
    | (go_at_call 50; rw [HW0.out]; refine HC.out.mono ?_; rintro e w2 ⟨rfl, hb⟩
       have HB2 := Lib.hid hb
       obtain ⟨e2, e0, e1, e3, e4, e5, e6⟩ := HPS.out w2 hb
       clear hb c2 d0 d1 d2 d3 d4 d5)
    | (go_at_call 51; refine (HBA.out _).mono ?_; rintro e w3 ⟨rfl, hb⟩
       have HB3 := Lib.hid (HB2.out.trans (hb.mono HB2.out.size))
       have HB4 : Hid (Below W0.heap.size W0 (w3.alloc (.cells #[.pointer (some ⟨bi, 0, none⟩), .int .i64 p.leaf, .int .i64 p.depth, .slice none 0 0] 62))) := HB3.out.alloc HB3.out.size _
       obtain ⟨c2, d0, d1, d2, d3, d4, d5⟩ := HPS.out _ HB4.out
       have G7 := Lib.hid (heap_alloc_new w3 (.cells #[.pointer (some ⟨bi, 0, none⟩), .int .i64 p.leaf, .int .i64 p.depth, .slice none 0 0] 62))
       clear hb e2 e0 e1 e3 e4 e5 e6)
    | (go_at_call 52; refine (HAL.out _).mono ?_; rintro e w5 ⟨rfl, h1, h2, hb5⟩
       have HB5 := Lib.hid (HB4.out.trans (hb5.mono HB4.out.size))
       have G75 := Lib.hid ((hb5.block _ (lt_of_block G7.out)).trans G7.out)
       have K1 := Lib.hid h1
       have K2 := Lib.hid h2
       clear h1 h2 hb5 c2 d0 d1 d2 d3 d4 d5)
    | fail)
  have K1' : Hid (w5.heap[w3.heap.size + 1]? = some (.cells #[.bool p.scripted, .int .u64 p.seed, .slice L p.list.length c] 26 (0, 0))) := by have := K1.out; simp at this; exact this
  have K2' : Hid (w5.heap[w3.heap.size + 1 + 1]? = some (.cells #[.int .i64 (trees : Int)] 3 (0, 0))) := by have := K2.out; rw [HP.out.2.2] at this; simp at this; exact this
  have HB05 : Hid (Below w.heap.size w w5) := HB0.out.trans (HB5.out.mono HB0.out.size)
  have G45 : Hid (w5.heap[w.heap.size + 2]? = some (.cells #[.pointer none, .int .i64 0, .int .i64 0, .slice none 0 0] 62 (0, 0))) := (HB5.out.block _ (lt_of_block G4.out)).trans G4.out
  have H3S : Hid (w.heap.size + 3 ≤ w3.heap.size) := Nat.le_trans HS0.out HB3.out.size
  have G25 := Lib.hid ((HB5.out.block _ (lt_of_block G2.out)).trans G2.out)
  have G35 : Hid (w5.heap[w.heap.size + 1]? = some (.cells (parV p L c) 28 (0, 0))) := (HB5.out.block _ (lt_of_block G3.out)).trans G3.out
  clear K1 K2 HB2 HB3 HB4 G7 HB5 HC HBA HAL HPS HW0 G2 G3 G4
  generalize w3.heap.size = b7 at *
  have hbel : ∀ o o' : Obj, Below w5.heap.size w5 ((w5.alloc o).alloc o') := fun o o' => ((Below.refl _ _).alloc (Nat.le_refl _) _).alloc (by simp) _
  have HSZ : Hid (w.heap.size ≤ w5.heap.size) := HB05.out.size
  refine wp_rangeN (α := SV) (gf := 96) (lb := #[.pointer (some ⟨b7 + 1 + 1, 0, none⟩), .pointer (some ⟨b7 + 1, 0, none⟩)]) rfl (Go.Proofs.enters_of Tryz.func96 (by kernel_rfl) rfl) (encs := fun x : SV => #[.int .i64 (x.1 : Int), x.2])
    (V := fun pre x W => pre.length = x.1 ∧ x.1 < trees ∧ ∃ b, SrcAt W b x.2 (srcOf p.scripted p.seed p.list x.1 trees) ∧ w5.heap.size ≤ b) (T := fun A B => Below A.heap.size A B) (Kp := KO w.heap.size)
    (S := fun xs _ => xs.length = trees) (Sp := fun _ _ => True)
    (fun o o' _ _ => all2_seq w5 _ p.scripted p.seed p.list L c trees (b7 + 1) (b7 + 1 + 1) w.heap.size HSZ.out (HLR.out.below HB05.out) (fun ad e hn => HLR.out.lt ad e hn) HLL.out HU.out HTR.out K1'.out K2'.out (KO.below (hbel o o') HSZ.out)) (fun _ => rfl)
    (fun pre W => BuAt w w5 W (w.heap.size + 2) b7 w5.heap.size bi leaf depth dim n F pre.length) (fun _ _ _ => False)
    ?_ ?_ ?_ ?_ ?_ ?_ ?_ ?_ ?_ ?_ ?_ ?round ?done ?stop
  · intro cc s W hh; exact hh
  · intro C D hh; exact Stays.below hh
  · intro pre C D hI hh; exact hI.keep (T := []) (KeepT.below hh) (by simp) (by simp) (by simp) (by simp) (by simp) (by simp) (hh.mono hI.bel.size)
  · intro cc pre C D hh _; exact hh
  · intro pre W o o' hI ho hc _
    exact hI.keep (KeepT.putObj o' ho hc) (by simp) (by simp) (by simp) (by simp) (by simp) (by simp) (bel_putObj (Below.refl _ _) (by have := HSZ.out; omega))
  · intro cc pre W o o' hh; exact hh.elim
  · intro C D E hh k; exact hh.trans k
  · intro W o o' ho hc; exact ⟨(KeepT.putObj o' ho hc).mono (by simp), fun k hk => World.putObj_heap_other (by have := HSZ.out; omega)⟩
  · intro s W o' hh; exact hh
  · intro s W o' hh; exact hh
  · intro o o' _ _
    refine ⟨⟨.slice none 0 0, [], [], ?_, own_nil _ _ _ _, Rows.nil, rfl, by simp⟩, ((hbel o o').block _ (lt_of_block G45.out)).trans G45.out, KeepT.below (hbel o o'), HB05.out.trans ((hbel o o').mono HSZ.out)⟩
    have h7 := ((hbel o o').block _ (lt_of_block G75.out)).trans G75.out
    rw [HP.out.1, HP.out.2.1] at h7
    exact h7
  case round =>
    rintro y pre ⟨k, v⟩ W hI ⟨hpl, hkt, b, hs, hb⟩ hsm
    have HI0 := Lib.hid hI
    have HS0' := Lib.hid hs
    have HBG := Lib.hid hb
    have HPK := Lib.hid (And.intro hpl hkt)
    clear hI hs hb hsm hpl hkt
    gi_wp2
    refine ⟨Stays.refl _ _, ?_⟩
    rintro o ho
    try simp only [forall_exists_index, and_imp]
    intro o1 ho1 ho2
    have hk0 := KeepT.putObj o ho1 ho2
    have hbp : Below w.heap.size W (W.putObj (w5.heap.size + 1) o) := bel_putObj (Below.refl _ _) (by have := HSZ.out; omega)
    have HI2 := Lib.hid (HI0.out.keep hk0 (by simp) (by simp) (by simp) (by simp) (by simp) (by simp) hbp)
    have HS2 : Hid (SrcAt (W.putObj (w5.heap.size + 1) o) b v (srcOf p.scripted p.seed p.list k trees)) := HS0'.out.keep fun j cs t fr hh _ => (hk0.2 _ _ _ _ hh (by simp)).trans hh.symm
    have HK2 : Hid (KO w.heap.size W (W.putObj (w5.heap.size + 1) o)) := ⟨hk0.mono (by simp), fun k hk => World.putObj_heap_other (by have := HSZ.out; omega)⟩
    clear hk0 hbp ho1 ho2
    generalize W.putObj (w5.heap.size + 1) o = W2 at *
    obtain ⟨c2, d0, d1, d2, d3, d4, d5⟩ := PS.of (HI2.out.kt.2 _ _ _ _ G25.out (by decide)) (HI2.out.kt.2 _ _ _ _ G35.out (by decide))
    have HTA := tree_any W2 (HH.out.below HI2.out.bel) HS2.out (srcOf_ok _ _ _ _ _ HU.out) p leaf depth HP.out.1 HP.out.2.1 HG.out HL1.out L c HN.out.1 (by have := HN.out.2; omega)
    rw [par_cells] at HTA
    have HTA := Lib.hid HTA
    obtain ⟨vF, ts, cells, q1, q2, q3, q4, q5⟩ := HI2.out.row
    obtain ⟨A, cA, rfl⟩ := own_slice q2
    have HR := Lib.hid (And.intro q1 (And.intro q2 (And.intro q3 (And.intro q4 q5))))
    have hts : ts.length ≤ 256 := by have := HPK.out; have := HTR.out; omega
    have HTS := Lib.hid hts
    have HW2 : Hid (w5.heap.size ≤ W2.heap.size) := HI2.out.kt.1
    clear q1 q2 q3 q4 q5 hts
    gi_wp2_with (first
      | (refine ⟨trivial, rfl, ?_⟩; gi_at_call 53; refine (CallsIn.inRound y (callsIn_wide.2 HTA.out)).mono ?_
         rintro e w6 ⟨nodes, At, ct, ncells, rfl, ho6, hr6, hre6, -, hg6⟩
         have HO6 := Lib.hid (And.intro ho6 (And.intro hr6 hre6))
         have HG6 := Lib.hid hg6
         have HK6 : Hid (KeepT [291, 294] W2 w6) := KeepT.src HS2.out hg6 (by simp) (by simp)
         have q7 := HK6.out.2 _ _ _ _ HR.out.1 (by decide)
         have c37 : w6.cell? ⟨b7, 3, none⟩ = some (.slice A ts.length cA) := cell_of_row _ _ _ _ _ _ q7
         have HB6 : Hid (Below w6.heap.size w6 (w6.alloc (.cells #[.slice At nodes.length ct] 65))) := (Below.refl _ _).alloc (Nat.le_refl _) _
         have HRO : Hid (w6.ownsRow w5.heap.size 65 1 (.slice A ts.length cA) ts.length cells) := own_keepT HR.out.2.1 HK6.out (by simp)
         have HQ7 := Lib.hid q7
         clear ho6 hr6 hre6 hg6 q7 c2 d0 d1 d2 d3 d4 d5)
      | (gi_at_builtin; refine wpListIn_append_one w5.heap.size rfl _ _ 36 65 (.slice none 0 0) 24 rfl Tryz.underlying36 Tryz.info65 rfl (by decide) (.slice A ts.length cA) ts.length cells (.slice At nodes.length ct) rfl rfl rfl HRO.out (by have := HW2.out; have := HK6.out.1; omega) (by have := HTS.out; omega) ?_
         intro A1 c1' w10 hr10 hg10
         have hq10 := (hg10.block _ (lt_of_block HQ7.out) (own_ne2 HRO.out HQ7.out (by decide))).trans HQ7.out
         have c40 : w10.cell? ⟨b7, 3, none⟩ = some (.slice A ts.length cA) := cell_of_row _ _ _ _ _ _ hq10
         have f40 : w10.frozen? ⟨b7, 3, none⟩ = false := frozen_of_row _ _ _ _ _ hq10
         have HR10 := Lib.hid hr10
         have HG10 := Lib.hid hg10
         have HQ10 := Lib.hid hq10
         clear hr10 hg10 hq10 c37)
      | fail)
    have hk6f : KeepT [62, 65] w6 (w10.setCell ⟨b7, 3, none⟩ (.slice A1 (ts.length + 1) c1')) := (KeepT.grown HRO.out HG10.out (by simp)).trans (KeepT.set HQ10.out (by simp))
    have hkAll : KeepT [62, 65, 291, 294] W2 (w10.setCell ⟨b7, 3, none⟩ (.slice A1 (ts.length + 1) c1')) := (HK6.out.mono (by simp)).trans (hk6f.mono (by simp))
    have h3s := H3S.out
    have hnw : w5.heap.size ≤ w6.heap.size := Nat.le_trans HW2.out HK6.out.1
    have hwz := HSZ.out
    have hrb : ∀ k, (Value.slice A ts.length cA).ownBlock = some k → w5.heap.size ≤ k := fun k hk => own_base HRO.out k hk
    have hbF : Below w.heap.size W2 (w10.setCell ⟨b7, 3, none⟩ (.slice A1 (ts.length + 1) c1')) := by
      refine Below.setCell (p := ⟨b7, 3, none⟩) (Below.grown (Below.grown (Below.refl _ _) HG6.out (by have := HW2.out; omega) (fun k e => ?_)) HG10.out (by omega) (fun k e => ?_)) (by show _ ≤ b7; omega) _
      · injection e with e
        have := HBG.out
        omega
      · have := hrb k e
        omega
    refine ⟨Stays.trans (fun k o _ ho hc => NCs.src HS2.out HG6.out k o ho hc) ((Stays.grown HG10.out (fun k hk => ?_)).trans (Stays.setCell HQ10.out)), ⟨HK2.out.1.trans hkAll, fun k hk => (hbF.block k hk).trans (HK2.out.2 k hk)⟩, ⟨⟨.slice A1 (ts.length + 1) c1', ts ++ [nodes], cells ++ [.slice At nodes.length ct], heap_setCell_same w10 b7 3 _ _ _ HQ10.out, ?_, ?_, ?_, ?_⟩, ?_, HI2.out.kt.trans hkAll, ?_⟩⟩
    · obtain ⟨cur, hc⟩ := own_blk HRO.out k hk
      exact ⟨_, _, _, hc⟩
    · rw [List.length_append]
      exact own_keepT (T := [62]) HR10.out (KeepT.set HQ10.out (by simp)) (by simp)
    · refine (HR.out.2.2.1.imp fun x c hx => hx.keepT hkAll (by simp) (by simp) (by simp)).snoc ⟨At, ct, ncells, rfl, own_keepT (own_base0 HO6.out.1 (Nat.zero_le _)) hk6f (by simp), HO6.out.2.1.imp fun x c hx => hx.kept ⟨hk6f.1, fun k cs t fr hh ht => (hk6f.2 _ _ _ _ hh (by rcases ht with rfl | rfl <;> simp)).trans hh.symm⟩⟩ rfl
    · rw [List.length_append, List.length_append, HR.out.2.2.2.1]; rfl
    · intro t ht
      rw [List.mem_append, List.mem_singleton] at ht
      rcases ht with ht | rfl
      · exact HR.out.2.2.2.2 t ht
      · exact HO6.out.2.2
    · have r6 := HK6.out.2 _ _ _ _ HI2.out.res (by decide)
      rw [Below.heap_setCell _ _ _ _ (by show w.heap.size + 2 ≠ b7; omega), HG10.out.block _ (lt_of_block r6) (own_ne2 HRO.out r6 (by decide))]
      exact r6
    · exact HI2.out.bel.trans hbF
  case done =>
    rintro xs W hS hI hK
    obtain ⟨vF, ts, cells, q1, q2, q3, q4, q5⟩ := hI.row
    obtain ⟨A, cA, rfl⟩ := own_slice q2
    have a0 : W.cell? ⟨b7, 0, none⟩ = some (.pointer (some ⟨bi, 0, none⟩)) := cell_of_row _ _ _ _ _ _ q1
    have a1 : W.cell? ⟨b7, 1, none⟩ = some (.int .i64 (leaf : Int)) := cell_of_row _ _ _ _ _ _ q1
    have a2 : W.cell? ⟨b7, 2, none⟩ = some (.int .i64 (depth : Int)) := cell_of_row _ _ _ _ _ _ q1
    have a3 : W.cell? ⟨b7, 3, none⟩ = some (.slice A ts.length cA) := cell_of_row _ _ _ _ _ _ q1
    have b0 : W.cell? ⟨w.heap.size + 2, 0, none⟩ = some (.pointer none) := cell_of_row _ _ _ _ _ _ hI.res
    have b1 : W.cell? ⟨w.heap.size + 2, 1, none⟩ = some (.int .i64 0) := cell_of_row _ _ _ _ _ _ hI.res
    have b2 : W.cell? ⟨w.heap.size + 2, 2, none⟩ = some (.int .i64 0) := cell_of_row _ _ _ _ _ _ hI.res
    have b3 : W.cell? ⟨w.heap.size + 2, 3, none⟩ = some (.slice none 0 0) := cell_of_row _ _ _ _ _ _ hI.res
    have fz : ∀ i, W.frozen? ⟨w.heap.size + 2, i, none⟩ = false := fun i => frozen_of_row _ _ _ _ _ hI.res
    have HR := Lib.hid (And.intro q2 (And.intro q3 (And.intro (q4.trans hS) q5)))
    have HRES := Lib.hid hI.res
    have HBE := Lib.hid hI.bel
    have HK := Lib.hid hK
    clear hS hI hK q1 q2 q3 q4 q5
    go_wp2
    have h3s := H3S.out
    have hn4 : w5.heap.size ≠ w.heap.size + 2 := by have := lt_of_block G45.out; omega
    have hsz := HSZ.out
    have HK4 : ((((W.setCell ⟨w.heap.size + 2, 0, none⟩ (.pointer (some ⟨bi, 0, none⟩))).setCell ⟨w.heap.size + 2, 1, none⟩ (.int .i64 (leaf : Int))).setCell ⟨w.heap.size + 2, 2, none⟩ (.int .i64 (depth : Int))).setCell ⟨w.heap.size + 2, 3, none⟩ (.slice A ts.length cA)).heap[w5.heap.size]? = some (.deferred (some [])) := by
      rw [Below.heap_setCell _ _ _ _ hn4, Below.heap_setCell _ _ _ _ hn4, Below.heap_setCell _ _ _ _ hn4, Below.heap_setCell _ _ _ _ hn4]; exact HK.out
    have G5 := heap_setCell_same _ (w.heap.size + 2) 3 _ _ (.slice A ts.length cA) (heap_setCell_same _ (w.heap.size + 2) 2 _ _ (.int .i64 (depth : Int)) (heap_setCell_same _ (w.heap.size + 2) 1 _ _ (.int .i64 (leaf : Int)) (heap_setCell_same W (w.heap.size + 2) 0 _ _ (.pointer (some ⟨bi, 0, none⟩)) HRES.out)))
    have hbf : Below w.heap.size w ((((W.setCell ⟨w.heap.size + 2, 0, none⟩ (.pointer (some ⟨bi, 0, none⟩))).setCell ⟨w.heap.size + 2, 1, none⟩ (.int .i64 (leaf : Int))).setCell ⟨w.heap.size + 2, 2, none⟩ (.int .i64 (depth : Int))).setCell ⟨w.heap.size + 2, 3, none⟩ (.slice A ts.length cA)) :=
      (((HBE.out.setCell (p := ⟨w.heap.size + 2, 0, none⟩) (by simp) _).setCell (p := ⟨w.heap.size + 2, 1, none⟩) (by simp) _).setCell (p := ⟨w.heap.size + 2, 2, none⟩) (by simp) _).setCell (p := ⟨w.heap.size + 2, 3, none⟩) (by simp) _
    have hkf : KeepT [62] W ((((W.setCell ⟨w.heap.size + 2, 0, none⟩ (.pointer (some ⟨bi, 0, none⟩))).setCell ⟨w.heap.size + 2, 1, none⟩ (.int .i64 (leaf : Int))).setCell ⟨w.heap.size + 2, 2, none⟩ (.int .i64 (depth : Int))).setCell ⟨w.heap.size + 2, 3, none⟩ (.slice A ts.length cA)) := by
      refine KeepT.trans (KeepT.trans (KeepT.trans (KeepT.set HRES.out (by simp)) (KeepT.set (heap_setCell_same W (w.heap.size + 2) 0 _ _ _ HRES.out) (by simp))) (KeepT.set (heap_setCell_same _ (w.heap.size + 2) 1 _ _ _ (heap_setCell_same W (w.heap.size + 2) 0 _ _ _ HRES.out)) (by simp))) (KeepT.set (heap_setCell_same _ (w.heap.size + 2) 2 _ _ _ (heap_setCell_same _ (w.heap.size + 2) 1 _ _ _ (heap_setCell_same W (w.heap.size + 2) 0 _ _ _ HRES.out))) (by simp))
    refine ⟨by simp, .inl ⟨_, _, rfl, run_takeDeferred HK4, ?_⟩⟩
    have hkp := hkf.trans ((KeepT.putObj (.deferred none) HK4 rfl).mono (T' := [62]) (by simp))
    refine ⟨_, results_cell_slot rfl _ _ (w.heap.size + 2) 62 #[.pointer (some ⟨bi, 0, none⟩), .int .i64 (leaf : Int), .int .i64 (depth : Int), .slice A ts.length cA] (0, 0) _ rfl ((World.putObj_heap_other hn4.symm).trans G5) Tryz.underlying62 rfl Tryz.size62, A, cA, ts, rfl, ⟨cells, own_keepT (own_base0 HR.out.1 (Nat.zero_le _)) hkp (by simp), HR.out.2.1.imp fun x c hx => hx.keepT hkp (by simp) (by simp) (by simp)⟩, HR.out.2.2.1, HR.out.2.2.2, bel_putObj hbf hsz⟩
  case stop =>
    rintro cc pre W _ hh _
    exact hh.elim
end Go.Proofs.YtladmconpolneaaGreat

/- index: build, Build: tree by tree. -/
set_option linter.unusedVariables false
set_option linter.unusedSimpArgs false
namespace Go.Proofs.YtladmconpolneaaGreat
open Go.RowKit
abbrev zeroF : Array Value := #[.pointer none, .int .i64 0, .int .i64 0, .slice none 0 0]
theorem keepT_set4 {W : World} {g : Nat} {a0 a1 a2 a3 : Value} {t : TypeId} (h : W.heap[g]? = some (.cells #[a0, a1, a2, a3] t (0, 0))) (x0 x1 x2 x3 : Value) :
    KeepT [t] W ((((W.setCell ⟨g, 0, none⟩ x0).setCell ⟨g, 1, none⟩ x1).setCell ⟨g, 2, none⟩ x2).setCell ⟨g, 3, none⟩ x3) := by
  refine KeepT.trans (KeepT.trans (KeepT.trans (KeepT.set h (by simp)) (KeepT.set (heap_setCell_same W g 0 _ _ _ h) (by simp))) (KeepT.set (heap_setCell_same _ g 1 _ _ _ (heap_setCell_same W g 0 _ _ _ h)) (by simp))) (KeepT.set (heap_setCell_same _ g 2 _ _ _ (heap_setCell_same _ g 1 _ _ _ (heap_setCell_same W g 0 _ _ _ h))) (by simp))
set_option maxRecDepth 100000 in
set_option maxHeartbeats 1600000 in
theorem ibuild0_any (w : World) (B x b dim n leaf depth trees : Nat) (F : List Int) (h : IxAt w B x b dim n F) (p : Par) (hpl : p.leaf = (leaf : Int)) (hpd : p.depth = (depth : Int)) (hpt : p.trees = (trees : Int)) (L : Option Addr) (c : Nat) (hL : Reads w L p.list.length (u64V p.list)) (hll : p.list.length ≤ 1000) (hu : ∀ x ∈ p.list, U64 x)
    (hE : growE p = 0) (hn : 1 ≤ n ∧ n ≤ 20000) (hl1 : 1 ≤ leaf) (ht : trees ≤ 256) (V : Value) :
    Calls Tryz.prog 66 #[.pointer (some ⟨x, 0, none⟩), .agg (parV p L c), .int .i64 0, V] w (BuildPost w b leaf depth dim n trees F) := by
  obtain ⟨W0, hW0⟩ : ∃ W, (w.alloc (.cells (parV p L c) 28)).alloc (.cells zeroF 62) = W := ⟨_, rfl⟩
  have HB0 : Hid (Below w.heap.size w W0) := by show Below _ _ _; rw [← hW0]; exact ((Below.refl _ _).alloc (Nat.le_refl _) _).alloc (by simp) _
  have G5 : Hid (W0.heap[w.heap.size]? = some (.cells (parV p L c) 28 (0, 0))) := by show _ = _; rw [← hW0, Below.heap_alloc _ _ _ (by simp)]; exact heap_alloc_new _ _
  have G8 : Hid (W0.heap[w.heap.size + 1]? = some (.cells zeroF 62 (0, 0))) := by show _ = _; rw [← hW0]; exact alloc_at0 _ _ _ (by simp)
  have HBD : Hid (∀ m, Calls Tryz.prog 20 #[.pointer (some ⟨b, 0, none⟩), .agg (parV p L c)] (W0.drewN m) (BuildPost (W0.drewN m) b leaf depth dim n trees F)) := fun m =>
    fbuild_any (W0.drewN m) B b dim n leaf depth trees F (h.items.below (bel_drewN HB0.out m)) p hpl hpd hpt L c (hL.below (bel_drewN HB0.out m)) hll hu hE hn hl1 ht
  have HX1 : Hid (W0.cell? ⟨x, 1, none⟩ = some (.pointer (some ⟨b, 0, none⟩))) := cell_of_row _ _ _ _ _ _ ((HB0.out.block _ (lt_of_block h.box)).trans h.box)
  have hx1 := HX1.out
  have hxn : ¬ x = w.heap.size + 1 := by have := lt_of_block h.box; omega
  have hxm : ¬ w.heap.size + 1 = x := fun e => hxn e.symm
  obtain ⟨d0, d1, d2, d3, d4, d5⟩ : W0.cell? ⟨w.heap.size, 0, none⟩ = some (.int .i64 p.trees) ∧ W0.cell? ⟨w.heap.size, 1, none⟩ = some (.int .i64 p.leaf) ∧ W0.cell? ⟨w.heap.size, 2, none⟩ = some (.int .i64 p.depth) ∧ W0.cell? ⟨w.heap.size, 3, none⟩ = some (.bool p.scripted) ∧ W0.cell? ⟨w.heap.size, 4, none⟩ = some (.int .u64 p.seed) ∧ W0.cell? ⟨w.heap.size, 5, none⟩ = some (.slice L p.list.length c) := by
    have g := G5.out
    rw [par_cells] at g
    exact ⟨cell_of_row _ _ _ _ _ _ g, cell_of_row _ _ _ _ _ _ g, cell_of_row _ _ _ _ _ _ g, cell_of_row _ _ _ _ _ _ g, cell_of_row _ _ _ _ _ _ g, cell_of_row _ _ _ _ _ _ g⟩
  have HKEEP := Lib.hid (fun (W : World) (hb : Below W0.heap.size W0 W) => And.intro (keepc hb hx1) (And.intro (keepc hb d0) (And.intro (keepc hb d1) (And.intro (keepc hb d2) (And.intro (keepc hb d3) (And.intro (keepc hb d4) (keepc hb d5)))))))
  have HW0 := Lib.hid hW0
  rw [par_cells] at *
  clear h hpl hpd hpt hL hll hu hE hn hl1 ht hW0 hx1 d0 d1 d2 d3 d4 d5
  go_enter Tryz.func66, Tryz.ntmps66
  go_wp2_with fail
  rw [HW0.out]
  obtain ⟨hx1, d0, d1, d2, d3, d4, d5⟩ := HKEEP.out _ (Below.refl _ _)
  have HBN : Hid (Below W0.heap.size W0 W0) := Below.refl _ _
  go_region_held3 (fun W => W.cell? ⟨x, 1, none⟩ = some (.pointer (some ⟨b, 0, none⟩)) ∧ W.cell? ⟨w.heap.size, 0, none⟩ = some (.int .i64 p.trees) ∧ W.cell? ⟨w.heap.size, 1, none⟩ = some (.int .i64 p.leaf) ∧ W.cell? ⟨w.heap.size, 2, none⟩ = some (.int .i64 p.depth) ∧ W.cell? ⟨w.heap.size, 3, none⟩ = some (.bool p.scripted) ∧ W.cell? ⟨w.heap.size, 4, none⟩ = some (.int .u64 p.seed) ∧ W.cell? ⟨w.heap.size, 5, none⟩ = some (.slice L p.list.length c))
    (first | go_keep | exact HKEEP.out _ HBN.out)
    (first
      | (go_at_call 20; refine (HBD.out 1).mono ?_; rintro e w8 ⟨TA, tc, ts, rfl, hf, hl, hr, hb⟩; have HF := Lib.hid (And.intro hf (And.intro hl hr)); have HBM : Hid (Below W0.heap.size W0 w8) := (bel_drewN (Below.refl _ _) 1).trans hb; clear HBN; have HBN := HBM; clear HBM hf hl hr hb
         have G9 := Lib.hid ((HBN.out.block _ (lt_of_block G8.out)).trans G8.out)
         have q0 : w8.cell? ⟨w.heap.size + 1, 0, none⟩ = some (.pointer none) := cell_of_row _ _ _ _ _ _ G9.out
         have q1 : w8.cell? ⟨w.heap.size + 1, 1, none⟩ = some (.int .i64 0) := cell_of_row _ _ _ _ _ _ G9.out
         have q2 : w8.cell? ⟨w.heap.size + 1, 2, none⟩ = some (.int .i64 0) := cell_of_row _ _ _ _ _ _ G9.out
         have q3 : w8.cell? ⟨w.heap.size + 1, 3, none⟩ = some (.slice none 0 0) := cell_of_row _ _ _ _ _ _ G9.out
         have fz : ∀ i, w8.frozen? ⟨w.heap.size + 1, i, none⟩ = false := fun i => frozen_of_row _ _ _ _ _ G9.out))
  go_wp2
  have G14 := heap_setCell_same _ (w.heap.size + 1) 3 _ _ (.slice TA ts.length tc) (heap_setCell_same _ (w.heap.size + 1) 2 _ _ (.int .i64 (depth : Int)) (heap_setCell_same _ (w.heap.size + 1) 1 _ _ (.int .i64 (leaf : Int)) (heap_setCell_same w8 (w.heap.size + 1) 0 _ _ (.pointer (some ⟨b, 0, none⟩)) G9.out)))
  have hkf := keepT_set4 G9.out (.pointer (some ⟨b, 0, none⟩)) (.int .i64 (leaf : Int)) (.int .i64 (depth : Int)) (.slice TA ts.length tc)
  have hbf : Below w.heap.size w8 ((((w8.setCell ⟨w.heap.size + 1, 0, none⟩ (.pointer (some ⟨b, 0, none⟩))).setCell ⟨w.heap.size + 1, 1, none⟩ (.int .i64 (leaf : Int))).setCell ⟨w.heap.size + 1, 2, none⟩ (.int .i64 (depth : Int))).setCell ⟨w.heap.size + 1, 3, none⟩ (.slice TA ts.length tc)) :=
    ((((Below.refl _ _).setCell (p := ⟨w.heap.size + 1, 0, none⟩) (by simp) _).setCell (p := ⟨w.heap.size + 1, 1, none⟩) (by simp) _).setCell (p := ⟨w.heap.size + 1, 2, none⟩) (by simp) _).setCell (p := ⟨w.heap.size + 1, 3, none⟩) (by simp) _
  refine bodyPost_ret (results_cell_slot rfl _ _ (w.heap.size + 1) 62 #[.pointer (some ⟨b, 0, none⟩), .int .i64 (leaf : Int), .int .i64 (depth : Int), .slice TA ts.length tc] (0, 0) _ rfl G14 Tryz.underlying62 rfl Tryz.size62) rfl ?_
  exact ⟨TA, tc, ts, rfl, HF.out.1.keep (KeepF.of hkf (by decide) (by decide) (by decide) (by decide)), HF.out.2.1, HF.out.2.2, (HB0.out.trans (HBN.out.mono HB0.out.size)).trans hbf⟩
end Go.Proofs.YtladmconpolneaaGreat

/- What the laws ask ahead: few? may they be? -/
set_option linter.unusedVariables false
set_option linter.unusedSimpArgs false
namespace Go.Proofs.YtladmconpolneaaGreat
open Go.RowKit
def lenTo (vs : List (List Int)) (k : Nat) : Nat := ((vs.take k).map List.length).sum
theorem lenTo_succ (vs : List (List Int)) (k : Nat) (h : k < vs.length) : lenTo vs (k + 1) = lenTo vs k + (vs[k]).length := by
  unfold lenTo
  rw [List.take_succ_eq_append_getElem h, List.map_append, List.sum_append]
  simp
theorem lenTo_all (vs : List (List Int)) : lenTo vs vs.length = vs.flatten.length := by
  unfold lenTo
  rw [List.take_length, List.length_flatten]
theorem lenTo_le (vs : List (List Int)) (k : Nat) : lenTo vs k ≤ vs.flatten.length := by
  unfold lenTo
  have h : ((vs.take k).map List.length).sum + ((vs.drop k).map List.length).sum = vs.flatten.length := by
    rw [List.length_flatten, ← List.sum_append, ← List.map_append, List.take_append_drop]
  omega
/-- Few, and short. -/
def fewB (vs : List (List Int)) : Bool := decide (vs.length ≤ 301 ∧ vs.flatten.length ≤ 6000)
def Small (vs : List (List Int)) : Prop := ∀ v ∈ vs, v.length ≤ 281474976710656
/-- A bool; if it is true, so is this. -/
def SureB (T : Prop) (e : Ending) : Prop := ∃ bo, e = .returned (.bool bo) ∧ (bo = true → T)
/-- A number; if it is 0, this is true. -/
def SureI (T : Prop) (e : Ending) : Prop := ∃ er : Int, e = .returned (.int .i64 er) ∧ (er = 0 → T)
theorem few_any (vs : List (List Int)) (A : Option Addr) (c : Nat) (w : World) (h : ListsAt w A vs) (hs : Small vs) (hn : vs.length ≤ 281474976710656) :
    Calls Tryz.prog 32 #[.slice A vs.length c] w fun e w' => e = .returned (.bool (fewB vs)) ∧ w = w' := by
  have HL := Lib.hid h
  have HS := Lib.hid hs
  obtain ⟨fb, hfb⟩ : ∃ fb, fewB vs = fb := ⟨_, rfl⟩
  have HF1 : Hid (∀ k, 6000 < lenTo vs k → fb = false) := fun k hk => by
    rw [← hfb]; unfold fewB; rw [decide_eq_false_iff_not]; intro hh; have := lenTo_le vs k; omega
  have HF2 : Hid (∀ k, 300 < k → k < vs.length → fb = false) := fun k hk h2 => by
    rw [← hfb]; unfold fewB; rw [decide_eq_false_iff_not]; omega
  have HF3 : Hid (vs.length ≤ 301 → vs.flatten.length ≤ 6000 → fb = true) := fun h1 h2 => by
    rw [← hfb]; unfold fewB; rw [decide_eq_true_iff]; exact ⟨h1, h2⟩
  rw [hfb]
  clear h hs hfb
  go_enter Tryz.func32, Tryz.ntmps32
  go_wp2
  go_loopg [3, 4] vs.length (fun gk n i wr => ∃ k : Nat, gk = vs.length - k ∧ k ≤ vs.length ∧ n = .int .i64 (lenTo vs k : Int) ∧ i = .int .i64 (k : Int) ∧ Hid (lenTo vs k ≤ 6000) ∧ Hid (k ≤ 301) ∧ wr = w)
  case atStart => exact ⟨0, rfl, Nat.zero_le _, rfl, rfl, (show lenTo vs 0 ≤ 6000 by simp [lenTo]), (show 0 ≤ 301 by decide), rfl⟩
  case round =>
    obtain ⟨k, rfl, hk, rfl, rfl, h6, h3, rfl⟩ := hrel
    by_cases hlt : k < vs.length
    · obtain ⟨ad, C, c2, rfl, hc, hr⟩ := HL.out k hlt
      have hlt' : (k : Int) < (vs.length : Int) := by omega
      have HSUC := Lib.hid (lenTo_succ vs k hlt)
      have hvl := HS.out _ (List.getElem_mem hlt)
      clear hr
      generalize vs[k] = v at *
      have h6' := h6.out
      have hsum : ((lenTo vs k : Nat) : Int) + (v.length : Int) = ((lenTo vs (k + 1) : Nat) : Int) := by rw [HSUC.out]; omega
      have HN1 : Hid (lenTo vs (k + 1) ≤ 281474976716656) := by show _ ≤ _; rw [HSUC.out]; omega
      by_cases h1 : lenTo vs (k + 1) ≤ 6000
      · have h1' : ¬ (6000 : Int) < ((lenTo vs (k + 1) : Nat) : Int) := by omega
        have h1b : ((lenTo vs (k + 1) : Nat) : Int) ≤ 6000 := by omega
        have h1c : (0 : Int) ≤ ((lenTo vs (k + 1) : Nat) : Int) := by omega
        have H1 := Lib.hid h1
        clear h1 hvl h6'
        by_cases h2 : k ≤ 300
        · have h2' : ¬ (300 : Int) < (k : Int) := by omega
          have H2 := Lib.hid h2
          obtain ⟨m, hm⟩ : ∃ m : Int, ((lenTo vs (k + 1) : Nat) : Int) = m := ⟨_, rfl⟩
          obtain ⟨q, hq⟩ : ∃ q : Int, ((lenTo vs k : Nat) : Int) = q := ⟨_, rfl⟩
          have HM := Lib.hid hm
          rw [hm] at hsum h1' h1b h1c
          rw [hq] at hsum ⊢
          clear hm hq
          go_wp2
          go_roundg (vs.length - (k + 1))
          case measure => omega
          case rel => exact ⟨k + 1, rfl, hlt, by rw [HM.out], by go_num, H1, (show k + 1 ≤ 301 by have := H2.out; omega), rfl⟩
        · have h2' : (300 : Int) < (k : Int) := by omega
          have HFF := Lib.hid (HF2.out k (by omega) hlt)
          go_wp2
          go_ret
          exact ⟨ret_bool HFF.out.symm, rfl⟩
      · have h1' : (6000 : Int) < ((lenTo vs (k + 1) : Nat) : Int) := by omega
        have h1b : ((lenTo vs (k + 1) : Nat) : Int) ≤ 281474976716656 := by have := HN1.out; omega
        have HFF := Lib.hid (HF1.out (k + 1) (by omega))
        clear h1 hvl h6'
        go_wp2
        go_ret
        exact ⟨ret_bool HFF.out.symm, rfl⟩
    · obtain rfl : k = vs.length := by omega
      have H6 : Hid (vs.flatten.length ≤ 6000) := by show _ ≤ _; rw [← lenTo_all]; exact h6.out
      go_wp2
      go_ret
      exact ⟨ret_bool (HF3.out h3.out H6.out).symm, rfl⟩
theorem three_any (v : List Int) (dim : Int) (A : Option Addr) (c : Nat) (w : World) (h : Reads w A v.length (i32V v)) : Calls Tryz.prog 33 #[.slice A v.length c, .int .i64 dim] w fun e w' => SureI (vecE v dim = 0) e ∧ w = w' := by
  have HR := Lib.hid h
  have hmx := h.2.1
  by_cases hd : dim < 1
  · clear h
    go_enter Tryz.func33, Tryz.ntmps33
    go_wp2
    go_ret
    exact ⟨⟨1, rfl, fun h => by cases h⟩, rfl⟩
  · by_cases hd2 : 1024 < dim
    · clear h
      go_enter Tryz.func33, Tryz.ntmps33
      go_wp2
      go_ret
      exact ⟨⟨1, rfl, fun h => by cases h⟩, rfl⟩
    · by_cases hl : (v.length : Int) = dim
      · have HV : Hid (okV v = true → vecE v dim = 0) := fun ho => by unfold vecE; rw [if_neg (by omega), if_neg (by omega), if_pos ho]
        have hl' : ((v.length : Int) == dim) = true := by simpa using hl
        have HLN := Lib.hid hl
        clear h hl
        go_enter Tryz.func33, Tryz.ntmps33
        go_wp2
        go_loopg [5] v.length (fun gk i wr => ∃ k : Nat, gk = v.length - k ∧ k ≤ v.length ∧ i = .int .i64 (k : Int) ∧ Hid (okV (v.take k) = true) ∧ wr = w)
        case atStart => exact ⟨0, rfl, Nat.zero_le _, rfl, rfl, rfl⟩
        case round =>
          obtain ⟨k, rfl, hk, rfl, ho, rfl⟩ := hrel
          by_cases hlt : k < v.length
          · obtain ⟨ad, rfl, hc⟩ := HR.out.i32 k hlt
            have hlt' : (k : Int) < (v.length : Int) := by omega
            have HT : Hid (-1048576 ≤ v.getD k 0 → v.getD k 0 ≤ 1048576 → okV (v.take (k + 1)) = true) := fun h1 h2 => by
              have := ho.out
              unfold okV at *
              rw [List.take_succ_eq_append_getElem hlt, List.all_append, this]
              have e : v.getD k 0 = v[k] := by rw [List.getD_eq_getElem?_getD, List.getElem?_eq_getElem hlt]; rfl
              rw [e] at h1 h2
              simp [okc, h1, h2]
            obtain ⟨x, hx⟩ : ∃ x, v.getD k 0 = x := ⟨_, rfl⟩
            rw [hx] at HT hc
            clear hx
            by_cases h1 : x < -1048576
            · go_wp2
              go_ret
              exact ⟨⟨4, rfl, fun h => by cases h⟩, rfl⟩
            · by_cases h2 : 1048576 < x
              · go_wp2
                go_ret
                exact ⟨⟨4, rfl, fun h => by cases h⟩, rfl⟩
              · have HO := Lib.hid (HT.out (by omega) (by omega))
                go_wp2
                go_roundg (v.length - (k + 1))
                case measure => omega
                case rel => exact ⟨k + 1, rfl, hlt, by go_num, HO, rfl⟩
          · obtain rfl : k = v.length := by omega
            have HO : Hid (okV v = true) := by have := ho.out; rw [List.take_length] at this; exact this
            go_wp2
            go_ret
            exact ⟨⟨0, rfl, fun _ => HV.out HO.out⟩, rfl⟩
      · have hl' : ((v.length : Int) == dim) = false := by simpa using hl
        clear h
        go_enter Tryz.func33, Tryz.ntmps33
        go_wp2
        go_ret
        exact ⟨⟨3, rfl, fun h => by cases h⟩, rfl⟩
theorem ten_any (dim : Int) (vs : List (List Int)) (A : Option Addr) (c : Nat) (w : World) (h : ListsAt w A vs) (hn : vs.length ≤ 281474976710656) : Calls Tryz.prog 46 #[.int .i64 dim, .slice A vs.length c] w fun e w' => SureI (1 ≤ dim ∧ dim ≤ 1024 ∧ okL dim.toNat vs) e ∧ w = w' := by
  have HL := Lib.hid h
  have H3 : Hid (∀ (v : List Int) A c, Reads w A v.length (i32V v) → Calls Tryz.prog 33 #[.slice A v.length c, .int .i64 dim] w fun e w' => SureI (vecE v dim = 0) e ∧ w = w') := fun v A c hr => three_any v dim A c w hr
  clear h
  by_cases hd : dim < 1
  · go_enter Tryz.func46, Tryz.ntmps46
    go_wp2
    go_ret
    exact ⟨⟨1, rfl, fun h => by cases h⟩, rfl⟩
  · by_cases hd2 : 1024 < dim
    · go_enter Tryz.func46, Tryz.ntmps46
      go_wp2
      go_ret
      exact ⟨⟨1, rfl, fun h => by cases h⟩, rfl⟩
    · have HD : Hid (1 ≤ dim ∧ dim ≤ 1024) := ⟨by omega, by omega⟩
      go_enter Tryz.func46, Tryz.ntmps46
      go_wp2
      go_loopg [5] vs.length (fun gk i wr => ∃ k : Nat, gk = vs.length - k ∧ k ≤ vs.length ∧ i = .int .i64 (k : Int) ∧ Hid (okL dim.toNat (vs.take k)) ∧ wr = w)
      case atStart => exact ⟨0, rfl, Nat.zero_le _, rfl, (show okL dim.toNat (vs.take 0) from fun v hv => by cases hv), rfl⟩
      case round =>
        obtain ⟨k, rfl, hk, rfl, ho, rfl⟩ := hrel
        by_cases hlt : k < vs.length
        · obtain ⟨ad, C, c2, rfl, hc, hr⟩ := HL.out k hlt
          have hlt' : (k : Int) < (vs.length : Int) := by omega
          have HT : Hid (vecE vs[k] dim = 0 → okL dim.toNat (vs.take (k + 1))) := fun he v hv => by
            rw [List.take_succ_eq_append_getElem hlt] at hv
            rcases List.mem_append.1 hv with h | h
            · exact ho.out v h
            · simp at h
              rw [h]
              have := HD.out
              have e : ((dim.toNat : Nat) : Int) = dim := by omega
              rw [e]; exact he
          have HC := Lib.hid (H3.out vs[k] C c2 hr)
          clear hr
          generalize vs[k] = v at *
          go_wp2_with (go_at_call 33; refine HC.out.mono ?_; rintro e w2 ⟨⟨er, rfl, her⟩, rfl⟩
                       have HER := Lib.hid her
                       clear her)
          · rename_i hne
            go_ret
            exact ⟨⟨er, rfl, fun h => by rw [h] at hne; cases hne⟩, rfl⟩
          · rename_i hne
            have HO := Lib.hid (HT.out (HER.out (by simpa using hne)))
            go_roundg (vs.length - (k + 1))
            case measure => omega
            case rel => exact ⟨k + 1, rfl, hlt, by go_num, HO, rfl⟩
        · obtain rfl : k = vs.length := by omega
          have HO : Hid (okL dim.toNat vs) := by have := ho.out; rw [List.take_length] at this; exact this
          go_wp2
          go_ret
          exact ⟨⟨0, rfl, fun _ => ⟨HD.out.1, HD.out.2, HO.out⟩⟩, rfl⟩
end Go.Proofs.YtladmconpolneaaGreat

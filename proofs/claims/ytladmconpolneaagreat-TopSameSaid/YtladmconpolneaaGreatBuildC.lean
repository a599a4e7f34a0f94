/- index.build by a crew. -/
import Derived.Test.YtladmconpolneaaGreatCrewed
set_option linter.unusedVariables false
set_option linter.unusedSimpArgs false
namespace Go.Proofs.YtladmconpolneaaGreat
open Go.RowKit
def CrewedPost (w : World) (bi dim n leaf depth J : Nat) (F : List Int) (e : Ending) (w' : World) : Prop :=
  ∃ TA tc ts O oc on, e = .returned (.tuple #[.agg #[.pointer (some ⟨bi, 0, none⟩), .int .i64 (leaf : Int), .int .i64 (depth : Int), .slice TA ts.length tc], .slice O on oc, .int .i64 0]) ∧ ForestAt w' (.slice TA ts.length tc) ts ∧ ts.length = J ∧ (∀ t ∈ ts, Reach F dim leaf depth n t []) ∧ Below w.heap.size w w'
set_option maxRecDepth 100000 in
set_option maxHeartbeats 1600000 in
theorem ibuildc_any (w : World) (B x b dim n leaf depth J N : Nat) (F : List Int) (h : IxAt w B x b dim n F) (p : Par) (hpl : p.leaf = (leaf : Int)) (hpd : p.depth = (depth : Int)) (hpt : p.trees = (J : Int)) (L : Option Addr) (c : Nat) (hL : Reads w L p.list.length (u64V p.list)) (hll : p.list.length ≤ 1000) (hu : ∀ x ∈ p.list, U64 x)
    (hE : growE p = 0) (hn : 1 ≤ n ∧ n ≤ 20000) (hl1 : 1 ≤ leaf) (hJ : J ≤ 256) (hN : 1 ≤ N ∧ N ≤ 64) (picks : List Int) (A0 : Option Addr) (np c0 : Nat) (hr : Reads w A0 np (Cr.intsV picks)) (hp : ∀ x ∈ picks, -9223372036854775808 ≤ x ∧ x ≤ 9223372036854775807) :
    Calls Tryz.prog 66 #[.pointer (some ⟨x, 0, none⟩), .agg (parV p L c), .int .i64 (N : Int), .slice A0 np c0] w (BuildPost w b leaf depth dim n J F) := by
  obtain ⟨W0, hW0⟩ : ∃ W, (w.alloc (.cells (parV p L c) 28)).alloc (.cells zeroF 62) = W := ⟨_, rfl⟩
  have HB0 : Hid (Below w.heap.size w W0) := by show Below _ _ _; rw [← hW0]; exact ((Below.refl _ _).alloc (Nat.le_refl _) _).alloc (by simp) _
  have G5 : Hid (W0.heap[w.heap.size]? = some (.cells (parV p L c) 28 (0, 0))) := by show _ = _; rw [← hW0, Below.heap_alloc _ _ _ (by simp)]; exact heap_alloc_new _ _
  have G8 : Hid (W0.heap[w.heap.size + 1]? = some (.cells zeroF 62 (0, 0))) := by show _ = _; rw [← hW0]; exact alloc_at0 _ _ _ (by simp)
  have HBD : Hid (∀ W, Below W0.heap.size W0 W → Calls Tryz.prog 105 #[.pointer (some ⟨b, 0, none⟩), .agg (parV p L c), .int .i64 (N : Int), .slice A0 np c0] W (CrewedPost W b dim n leaf depth J F)) := fun W hb => by
    have hb' : Below w.heap.size w W := HB0.out.trans (hb.mono HB0.out.size)
    exact crewed_any W B b dim n leaf depth J N F (h.items.below hb') p hpl hpd hpt L c (hL.below hb') hll hu hE hn hl1 hJ hN picks A0 np c0 (hr.below hb') hp
  have HX1 : Hid (W0.cell? ⟨x, 1, none⟩ = some (.pointer (some ⟨b, 0, none⟩))) := cell_of_row _ _ _ _ _ _ ((HB0.out.block _ (lt_of_block h.box)).trans h.box)
  have hx1 := HX1.out
  have hN1 : (0 : Int) < (N : Int) := by omega
  have hN2 : decide ((0 : Int) < (N : Int)) = true := by rw [decide_eq_true_iff]; omega
  have hN3 : decide (0 < N) = true := by rw [decide_eq_true_iff]; omega
  have hN4 : 0 < N := by omega
  obtain ⟨d0, d1, d2, d3, d4, d5⟩ : W0.cell? ⟨w.heap.size, 0, none⟩ = some (.int .i64 p.trees) ∧ W0.cell? ⟨w.heap.size, 1, none⟩ = some (.int .i64 p.leaf) ∧ W0.cell? ⟨w.heap.size, 2, none⟩ = some (.int .i64 p.depth) ∧ W0.cell? ⟨w.heap.size, 3, none⟩ = some (.bool p.scripted) ∧ W0.cell? ⟨w.heap.size, 4, none⟩ = some (.int .u64 p.seed) ∧ W0.cell? ⟨w.heap.size, 5, none⟩ = some (.slice L p.list.length c) := by
    have g := G5.out
    rw [par_cells] at g
    exact ⟨cell_of_row _ _ _ _ _ _ g, cell_of_row _ _ _ _ _ _ g, cell_of_row _ _ _ _ _ _ g, cell_of_row _ _ _ _ _ _ g, cell_of_row _ _ _ _ _ _ g, cell_of_row _ _ _ _ _ _ g⟩
  have HKEEP := Lib.hid (fun (W : World) (hb : Below W0.heap.size W0 W) => And.intro (keepc hb hx1) (And.intro (keepc hb d0) (And.intro (keepc hb d1) (And.intro (keepc hb d2) (And.intro (keepc hb d3) (And.intro (keepc hb d4) (keepc hb d5)))))))
  have HW0 := Lib.hid hW0
  rw [par_cells] at *
  clear h hpl hpd hpt hL hll hu hE hn hl1 hJ hN hr hp hW0 hx1 d0 d1 d2 d3 d4 d5
  go_enter Tryz.func66, Tryz.ntmps66
  go_wp2_with fail
  rw [HW0.out]
  obtain ⟨hx1, d0, d1, d2, d3, d4, d5⟩ := HKEEP.out _ (Below.refl _ _)
  have HBN : Hid (Below W0.heap.size W0 W0) := Below.refl _ _
  go_region_held3 (fun W => W.cell? ⟨x, 1, none⟩ = some (.pointer (some ⟨b, 0, none⟩)) ∧ W.cell? ⟨w.heap.size, 0, none⟩ = some (.int .i64 p.trees) ∧ W.cell? ⟨w.heap.size, 1, none⟩ = some (.int .i64 p.leaf) ∧ W.cell? ⟨w.heap.size, 2, none⟩ = some (.int .i64 p.depth) ∧ W.cell? ⟨w.heap.size, 3, none⟩ = some (.bool p.scripted) ∧ W.cell? ⟨w.heap.size, 4, none⟩ = some (.int .u64 p.seed) ∧ W.cell? ⟨w.heap.size, 5, none⟩ = some (.slice L p.list.length c))
    (first | exact HKEEP.out _ HBN.out | exact HKEEP.out _ (HBN.out.alloc HBN.out.size _) | exact HKEEP.out _ ((bel_drewN (Below.refl _ _) 1).alloc (Nat.le_refl _) _) | exact HKEEP.out _ ((((HBN.out.setCell (p := ⟨W0.heap.size, 0, none⟩) (Nat.le_refl _) _).setCell (p := ⟨W0.heap.size, 1, none⟩) (Nat.le_refl _) _).setCell (p := ⟨W0.heap.size, 2, none⟩) (Nat.le_refl _) _).setCell (p := ⟨W0.heap.size, 3, none⟩) (Nat.le_refl _) _) | go_keep)
    (first
      | (go_at_call 105
         first
           | refine (HBD.out _ (bel_drewN (Below.refl _ _) 1)).mono ?_
           | refine (HBD.out _ ((bel_drewN (Below.refl _ _) 1).alloc (Nat.le_refl _) _)).mono ?_
         rintro e w8 ⟨TA, tc, ts, O, oc, on, rfl, hf, hl, hr, hb⟩; have HF := Lib.hid (And.intro hf (And.intro hl hr))
         have HBM : Hid (Below W0.heap.size W0 w8) := by first | exact (bel_drewN (Below.refl _ _) 1).trans hb | exact ((bel_drewN (Below.refl _ _) 1).alloc (Nat.le_refl _) _).trans (hb.mono (by simp))
         try
           have G10 := Lib.hid ((hb.block W0.heap.size (by simp)).trans (heap_alloc_new (W0.drewN 1) (.cells zeroF 62)))
           have q0 : w8.cell? ⟨W0.heap.size, 0, none⟩ = some (.pointer none) := cell_of_row _ _ _ _ _ _ G10.out
           have q1 : w8.cell? ⟨W0.heap.size, 1, none⟩ = some (.int .i64 0) := cell_of_row _ _ _ _ _ _ G10.out
           have q2 : w8.cell? ⟨W0.heap.size, 2, none⟩ = some (.int .i64 0) := cell_of_row _ _ _ _ _ _ G10.out
           have q3 : w8.cell? ⟨W0.heap.size, 3, none⟩ = some (.slice none 0 0) := cell_of_row _ _ _ _ _ _ G10.out
           have fz : ∀ i, w8.frozen? ⟨W0.heap.size, i, none⟩ = false := fun i => frozen_of_row _ _ _ _ _ G10.out
         clear HBN; have HBN := HBM; clear HBM hf hl hr hb))
  · obtain ⟨W9, hW9⟩ : ∃ W, w8.alloc (.cells #[.pointer (some ⟨b, 0, none⟩), .int .i64 (leaf : Int), .int .i64 (depth : Int), .slice TA ts.length tc] 62) = W := ⟨_, rfl⟩
    have HB9 : Hid (Below W0.heap.size W0 W9) := by show Below _ _ _; rw [← hW9]; exact HBN.out.alloc HBN.out.size _
    have HF9 : Hid (ForestAt W9 (.slice TA ts.length tc) ts) := by show ForestAt _ _ _; rw [← hW9]; exact HF.out.1.keep (KeepF.of (T := []) (KeepT.below ((Below.refl _ _).alloc (Nat.le_refl _) _)) (by decide) (by decide) (by decide) (by decide))
    have G9 := Lib.hid ((HB9.out.block _ (lt_of_block G8.out)).trans G8.out)
    have z0 : W9.cell? ⟨w.heap.size + 1, 0, none⟩ = some (.pointer none) := cell_of_row _ _ _ _ _ _ G9.out
    have z1 : W9.cell? ⟨w.heap.size + 1, 1, none⟩ = some (.int .i64 0) := cell_of_row _ _ _ _ _ _ G9.out
    have z2 : W9.cell? ⟨w.heap.size + 1, 2, none⟩ = some (.int .i64 0) := cell_of_row _ _ _ _ _ _ G9.out
    have z3 : W9.cell? ⟨w.heap.size + 1, 3, none⟩ = some (.slice none 0 0) := cell_of_row _ _ _ _ _ _ G9.out
    have zf : ∀ i, W9.frozen? ⟨w.heap.size + 1, i, none⟩ = false := fun i => frozen_of_row _ _ _ _ _ G9.out
    have HK9 : Hid (W9.heap[w8.heap.size]? = some (.cells #[.pointer (some ⟨b, 0, none⟩), .int .i64 (leaf : Int), .int .i64 (depth : Int), .slice TA ts.length tc] 62 (0, 0))) := by show _ = _; rw [← hW9]; exact heap_alloc_new _ _
    have y0 : W9.cell? ⟨w8.heap.size, 0, none⟩ = some (.pointer (some ⟨b, 0, none⟩)) := cell_of_row _ _ _ _ _ _ HK9.out
    have y1 : W9.cell? ⟨w8.heap.size, 1, none⟩ = some (.int .i64 (leaf : Int)) := cell_of_row _ _ _ _ _ _ HK9.out
    have y2 : W9.cell? ⟨w8.heap.size, 2, none⟩ = some (.int .i64 (depth : Int)) := cell_of_row _ _ _ _ _ _ HK9.out
    have y3 : W9.cell? ⟨w8.heap.size, 3, none⟩ = some (.slice TA ts.length tc) := cell_of_row _ _ _ _ _ _ HK9.out
    rw [hW9]
    clear hW9
    go_wp2
    have G14 := heap_setCell_same _ (w.heap.size + 1) 3 _ _ (.slice TA ts.length tc) (heap_setCell_same _ (w.heap.size + 1) 2 _ _ (.int .i64 (depth : Int)) (heap_setCell_same _ (w.heap.size + 1) 1 _ _ (.int .i64 (leaf : Int)) (heap_setCell_same W9 (w.heap.size + 1) 0 _ _ (.pointer (some ⟨b, 0, none⟩)) G9.out)))
    have hkf := keepT_set4 G9.out (.pointer (some ⟨b, 0, none⟩)) (.int .i64 (leaf : Int)) (.int .i64 (depth : Int)) (.slice TA ts.length tc)
    have hbf : Below w.heap.size W9 ((((W9.setCell ⟨w.heap.size + 1, 0, none⟩ (.pointer (some ⟨b, 0, none⟩))).setCell ⟨w.heap.size + 1, 1, none⟩ (.int .i64 (leaf : Int))).setCell ⟨w.heap.size + 1, 2, none⟩ (.int .i64 (depth : Int))).setCell ⟨w.heap.size + 1, 3, none⟩ (.slice TA ts.length tc)) :=
      ((((Below.refl _ _).setCell (p := ⟨w.heap.size + 1, 0, none⟩) (by simp) _).setCell (p := ⟨w.heap.size + 1, 1, none⟩) (by simp) _).setCell (p := ⟨w.heap.size + 1, 2, none⟩) (by simp) _).setCell (p := ⟨w.heap.size + 1, 3, none⟩) (by simp) _
    refine bodyPost_ret (results_cell_slot rfl _ _ (w.heap.size + 1) 62 #[.pointer (some ⟨b, 0, none⟩), .int .i64 (leaf : Int), .int .i64 (depth : Int), .slice TA ts.length tc] (0, 0) _ rfl G14 Tryz.underlying62 rfl Tryz.size62) rfl ?_
    exact ⟨TA, tc, ts, rfl, HF9.out.keep (KeepF.of hkf (by decide) (by decide) (by decide) (by decide)), HF.out.2.1, HF.out.2.2, (HB0.out.trans (HB9.out.mono HB0.out.size)).trans hbf⟩
  · obtain ⟨W9, hW9⟩ : ∃ W, ((((w8.setCell ⟨W0.heap.size, 0, none⟩ (.pointer (some ⟨b, 0, none⟩))).setCell ⟨W0.heap.size, 1, none⟩ (.int .i64 (leaf : Int))).setCell ⟨W0.heap.size, 2, none⟩ (.int .i64 (depth : Int))).setCell ⟨W0.heap.size, 3, none⟩ (.slice TA ts.length tc)) = W := ⟨_, rfl⟩
    have HB9 : Hid (Below W0.heap.size W0 W9) := by show Below _ _ _; rw [← hW9]; exact ((((HBN.out.setCell (p := ⟨W0.heap.size, 0, none⟩) (Nat.le_refl _) _).setCell (p := ⟨W0.heap.size, 1, none⟩) (Nat.le_refl _) _).setCell (p := ⟨W0.heap.size, 2, none⟩) (Nat.le_refl _) _).setCell (p := ⟨W0.heap.size, 3, none⟩) (Nat.le_refl _) _)
    have HF9 : Hid (ForestAt W9 (.slice TA ts.length tc) ts) := by show ForestAt _ _ _; rw [← hW9]; exact HF.out.1.keep (KeepF.of (keepT_set4 G10.out _ _ _ _) (by decide) (by decide) (by decide) (by decide))
    have G9 := Lib.hid ((HB9.out.block _ (lt_of_block G8.out)).trans G8.out)
    have z0 : W9.cell? ⟨w.heap.size + 1, 0, none⟩ = some (.pointer none) := cell_of_row _ _ _ _ _ _ G9.out
    have z1 : W9.cell? ⟨w.heap.size + 1, 1, none⟩ = some (.int .i64 0) := cell_of_row _ _ _ _ _ _ G9.out
    have z2 : W9.cell? ⟨w.heap.size + 1, 2, none⟩ = some (.int .i64 0) := cell_of_row _ _ _ _ _ _ G9.out
    have z3 : W9.cell? ⟨w.heap.size + 1, 3, none⟩ = some (.slice none 0 0) := cell_of_row _ _ _ _ _ _ G9.out
    have zf : ∀ i, W9.frozen? ⟨w.heap.size + 1, i, none⟩ = false := fun i => frozen_of_row _ _ _ _ _ G9.out
    have HK9 : Hid (W9.heap[W0.heap.size]? = some (.cells #[.pointer (some ⟨b, 0, none⟩), .int .i64 (leaf : Int), .int .i64 (depth : Int), .slice TA ts.length tc] 62 (0, 0))) := by show _ = _; rw [← hW9]; exact heap_setCell_same _ W0.heap.size 3 _ _ _ (heap_setCell_same _ W0.heap.size 2 _ _ _ (heap_setCell_same _ W0.heap.size 1 _ _ _ (heap_setCell_same w8 W0.heap.size 0 _ _ _ G10.out)))
    have y0 : W9.cell? ⟨W0.heap.size, 0, none⟩ = some (.pointer (some ⟨b, 0, none⟩)) := cell_of_row _ _ _ _ _ _ HK9.out
    have y1 : W9.cell? ⟨W0.heap.size, 1, none⟩ = some (.int .i64 (leaf : Int)) := cell_of_row _ _ _ _ _ _ HK9.out
    have y2 : W9.cell? ⟨W0.heap.size, 2, none⟩ = some (.int .i64 (depth : Int)) := cell_of_row _ _ _ _ _ _ HK9.out
    have y3 : W9.cell? ⟨W0.heap.size, 3, none⟩ = some (.slice TA ts.length tc) := cell_of_row _ _ _ _ _ _ HK9.out
    rw [hW9]
    clear hW9
    go_wp2
    have G14 := heap_setCell_same _ (w.heap.size + 1) 3 _ _ (.slice TA ts.length tc) (heap_setCell_same _ (w.heap.size + 1) 2 _ _ (.int .i64 (depth : Int)) (heap_setCell_same _ (w.heap.size + 1) 1 _ _ (.int .i64 (leaf : Int)) (heap_setCell_same W9 (w.heap.size + 1) 0 _ _ (.pointer (some ⟨b, 0, none⟩)) G9.out)))
    have hkf := keepT_set4 G9.out (.pointer (some ⟨b, 0, none⟩)) (.int .i64 (leaf : Int)) (.int .i64 (depth : Int)) (.slice TA ts.length tc)
    have hbf : Below w.heap.size W9 ((((W9.setCell ⟨w.heap.size + 1, 0, none⟩ (.pointer (some ⟨b, 0, none⟩))).setCell ⟨w.heap.size + 1, 1, none⟩ (.int .i64 (leaf : Int))).setCell ⟨w.heap.size + 1, 2, none⟩ (.int .i64 (depth : Int))).setCell ⟨w.heap.size + 1, 3, none⟩ (.slice TA ts.length tc)) :=
      ((((Below.refl _ _).setCell (p := ⟨w.heap.size + 1, 0, none⟩) (by simp) _).setCell (p := ⟨w.heap.size + 1, 1, none⟩) (by simp) _).setCell (p := ⟨w.heap.size + 1, 2, none⟩) (by simp) _).setCell (p := ⟨w.heap.size + 1, 3, none⟩) (by simp) _
    refine bodyPost_ret (results_cell_slot rfl _ _ (w.heap.size + 1) 62 #[.pointer (some ⟨b, 0, none⟩), .int .i64 (leaf : Int), .int .i64 (depth : Int), .slice TA ts.length tc] (0, 0) _ rfl G14 Tryz.underlying62 rfl Tryz.size62) rfl ?_
    exact ⟨TA, tc, ts, rfl, HF9.out.keep (KeepF.of hkf (by decide) (by decide) (by decide) (by decide)), HF.out.2.1, HF.out.2.2, (HB0.out.trans (HB9.out.mono HB0.out.size)).trans hbf⟩
end Go.Proofs.YtladmconpolneaaGreat

-- PRINTED BY print.sh 35421559b90ae4d0a3588c463048766b98c2df88dd9212a6774a882060cdf62d: not written by this session
import Derived.Test.YtfokjemoolgojaaPRunx0
import Derived.Test.YtfokjemoolgojaaPRunx2
namespace Go.Proofs.Ytfokjemoolgojaa.PRun
open Go.RowKit Go.Proofs.YtfokjemoolgojaaW.PrintWords Go.Proofs.YtfokjemoolgojaaW.PrintLast Go.Proofs.YtfokjemoolgojaaW.PrintMore
attribute [local go_sem] max2_int min2_int max_two min_two max_three min_three max_four min_four   -- for this text's walks alone
set_option linter.unusedVariables false
set_option linter.unusedSimpArgs false

/-! ### shelterbeltref18_Run: function 12 -/
mutual
def shelterbeltref18_Run.l0 : Nat → Int → Int → List Int → List (S33) → Option ((List (S33)))
  | 0, _, _, _, _ => none
  | k + 1, x0, x1, x2, x7 => if (x7.length : Int) < (wrap64 ((wrap64 ((wrap64 (6 * x0)) + x1)) + 2)) then (shelterbeltref18_Run.l1 k x0 x1 x2 x7 ([] : List (S33)) 0) else (some x7)
def shelterbeltref18_Run.l1 : Nat → Int → Int → List Int → List (S33) → List (S33) → Int → Option ((List (S33)))
  | 0, _, _, _, _, _, _ => none
  | k + 1, x0, x1, x2, x7, x8, x9 => if x9 ≤ x1 then ((shelterbeltref18_Next.f k x7 x0 x1 x9).bind fun bt118 => (if bt118.2.2.2 = true then (if x8.length < 5864062014805 then (shelterbeltref18_Run.l1 k x0 x1 x2 x7 (x8 ++ [(⟨bt118.1, bt118.2.1, bt118.2.2.1⟩ : S33)]) (wrap64 (x9 + 1))) else (none)) else (shelterbeltref18_Run.l1 k x0 x1 x2 x7 x8 (wrap64 (x9 + 1))))) else (if (x8.length : Int) = 0 then (some x7) else (if (x7.length : Int) < (x2.length : Int) then (if 0 ≤ (x7.length : Int) then (if (rd x2 (x7.length : Int)) < 0 then (if (wrap64 (-(wrap64 ((rd x2 (x7.length : Int)) + 1)))) = 9223372036854775807 then (if 0 < (x8.length : Int) then (if x7.length < 5864062014805 then (shelterbeltref18_Run.l0 k x0 x1 x2 (x7 ++ [(⟨(rd_T33 x8 0).f0, (rd_T33 x8 0).f1, (rd_T33 x8 0).f2⟩ : S33)])) else (none)) else (none)) else (if 0 ≤ (Int.tmod (wrap64 ((Int.tmod (wrap64 (-(wrap64 ((rd x2 (x7.length : Int)) + 1)))) (x8.length : Int)) + 1)) (x8.length : Int)) then (if (Int.tmod (wrap64 ((Int.tmod (wrap64 (-(wrap64 ((rd x2 (x7.length : Int)) + 1)))) (x8.length : Int)) + 1)) (x8.length : Int)) < (x8.length : Int) then (if x7.length < 5864062014805 then (shelterbeltref18_Run.l0 k x0 x1 x2 (x7 ++ [(⟨(rd_T33 x8 (Int.tmod (wrap64 ((Int.tmod (wrap64 (-(wrap64 ((rd x2 (x7.length : Int)) + 1)))) (x8.length : Int)) + 1)) (x8.length : Int))).f0, (rd_T33 x8 (Int.tmod (wrap64 ((Int.tmod (wrap64 (-(wrap64 ((rd x2 (x7.length : Int)) + 1)))) (x8.length : Int)) + 1)) (x8.length : Int))).f1, (rd_T33 x8 (Int.tmod (wrap64 ((Int.tmod (wrap64 (-(wrap64 ((rd x2 (x7.length : Int)) + 1)))) (x8.length : Int)) + 1)) (x8.length : Int))).f2⟩ : S33)])) else (none)) else (none)) else (none))) else (if 0 ≤ (Int.tmod (rd x2 (x7.length : Int)) (x8.length : Int)) then (if (Int.tmod (rd x2 (x7.length : Int)) (x8.length : Int)) < (x8.length : Int) then (if x7.length < 5864062014805 then (shelterbeltref18_Run.l0 k x0 x1 x2 (x7 ++ [(⟨(rd_T33 x8 (Int.tmod (rd x2 (x7.length : Int)) (x8.length : Int))).f0, (rd_T33 x8 (Int.tmod (rd x2 (x7.length : Int)) (x8.length : Int))).f1, (rd_T33 x8 (Int.tmod (rd x2 (x7.length : Int)) (x8.length : Int))).f2⟩ : S33)])) else (none)) else (none)) else (none))) else (none)) else (if 0 < (x8.length : Int) then (if x7.length < 5864062014805 then (shelterbeltref18_Run.l0 k x0 x1 x2 (x7 ++ [(⟨(rd_T33 x8 0).f0, (rd_T33 x8 0).f1, (rd_T33 x8 0).f2⟩ : S33)])) else (none)) else (none))))
end
def shelterbeltref18_Run.f (k : Nat) (a0 : Int) (a1 : Int) (l2 : List Int) : Option ((List (S33))) := shelterbeltref18_Run.l0 k a0 a1 l2 ([] : List (S33))
theorem shelterbeltref18_Run.mono_l : ∀ k, (∀ y0 y1 y2 y3, LeO (shelterbeltref18_Run.l0 k y0 y1 y2 y3) (shelterbeltref18_Run.l0 (k + 1) y0 y1 y2 y3)) ∧ (∀ y0 y1 y2 y3 y4 y5, LeO (shelterbeltref18_Run.l1 k y0 y1 y2 y3 y4 y5) (shelterbeltref18_Run.l1 (k + 1) y0 y1 y2 y3 y4 y5))
  | 0 => ⟨fun _ _ _ _ r h => by simp [shelterbeltref18_Run.l0] at h, fun _ _ _ _ _ _ r h => by simp [shelterbeltref18_Run.l1] at h⟩
  | k + 1 => by
    obtain ⟨ih0, ih1⟩ := shelterbeltref18_Run.mono_l k
    refine ⟨?_, ?_⟩
    · intro y0 y1 y2 y3
      unfold shelterbeltref18_Run.l0
      repeat' first
      | (with_reducible exact ih0 _ _ _ _)
      | (with_reducible exact ih1 _ _ _ _ _ _)
      | (with_reducible exact shelterbeltref18_Next.mono _ _ _ _ _)
      | (with_reducible exact LeO.refl _)
      | (with_reducible exact LeO.none _)
      | (with_reducible refine LeO.ite ?_ ?_)
      | (with_reducible refine LeO.bind ?_ (fun _ => ?_))
      | exact ih0 _ _ _ _
      | exact ih1 _ _ _ _ _ _
      | exact shelterbeltref18_Next.mono _ _ _ _ _
      | exact LeO.none _
      | refine LeO.ite ?_ ?_
      | refine LeO.bind ?_ (fun _ => ?_)
    · intro y0 y1 y2 y3 y4 y5
      unfold shelterbeltref18_Run.l1
      repeat' first
      | (with_reducible exact ih0 _ _ _ _)
      | (with_reducible exact ih1 _ _ _ _ _ _)
      | (with_reducible exact shelterbeltref18_Next.mono _ _ _ _ _)
      | (with_reducible exact LeO.refl _)
      | (with_reducible exact LeO.none _)
      | (with_reducible refine LeO.ite ?_ ?_)
      | (with_reducible refine LeO.bind ?_ (fun _ => ?_))
      | exact ih0 _ _ _ _
      | exact ih1 _ _ _ _ _ _
      | exact shelterbeltref18_Next.mono _ _ _ _ _
      | exact LeO.none _
      | refine LeO.ite ?_ ?_
      | refine LeO.bind ?_ (fun _ => ?_)
theorem shelterbeltref18_Run.mono : ∀ a0 a1 a2 k, LeO (shelterbeltref18_Run.f k a0 a1 a2) (shelterbeltref18_Run.f (k + 1) a0 a1 a2) := by
  intro a0 a1 a2 k
  obtain ⟨ih0, ih1⟩ := shelterbeltref18_Run.mono_l k
  unfold shelterbeltref18_Run.f
  repeat' first
      | (with_reducible exact ih0 _ _ _ _)
      | (with_reducible exact ih1 _ _ _ _ _ _)
      | (with_reducible exact shelterbeltref18_Next.mono _ _ _ _ _)
      | (with_reducible exact LeO.refl _)
      | (with_reducible exact LeO.none _)
      | (with_reducible refine LeO.ite ?_ ?_)
      | (with_reducible refine LeO.bind ?_ (fun _ => ?_))
      | exact ih0 _ _ _ _
      | exact ih1 _ _ _ _ _ _
      | exact shelterbeltref18_Next.mono _ _ _ _ _
      | exact LeO.none _
      | refine LeO.ite ?_ ?_
      | refine LeO.bind ?_ (fun _ => ?_)
set_option maxHeartbeats 8000000 in
set_option maxRecDepth 100000 in
theorem shelterbeltref18_Run.calls (k : Nat) (a0 : Int) (a1 : Int) (A2 : Option Addr) (c2 : Nat) (l2 : List Int) (r : List (S33)) (w : World) (hr2 : Kd.C (Kd.int .i64) w A2 l2.length l2) (hc2 : l2.length ≤ c2) (h : shelterbeltref18_Run.f k a0 a1 l2 = some r) :
    Calls Try.prog 12 #[.int .i64 a0, .int .i64 a1, .slice A2 l2.length c2] w fun e w' => ∃ v0_ : Value, e = .returned (v0_) ∧ Kd.R k33 33 w' w.heap.size (fun _ => True) v0_ r ∧ Below w.heap.size w w' := by
  have hu33 := Try.underlying33
  have HR2 := Aside0.mk hr2
  have HC2 := Aside0.mk hc2
  clear hr2 hc2
  have HB := Aside0.mk (Below.refl w.heap.size w)
  have H : (shelterbeltref18_Run.l0 k a0 a1 l2 ([] : List (S33))) = some r := h
  clear h
  have H' := Aside0.mk H
  clear H
  go_enter Try.func12, Try.ntmps12
  go_wp2
  go_loopg [7] k (fun kq v7 w' => ∃ (x7_1 : List (S33)), Aside0 (shelterbeltref18_Run.l0 kq a0 a1 l2 x7_1 = some r) ∧ Aside0 (kq ≤ k) ∧ Aside0 (Kd.R k33 33 w' w.heap.size (fun _ => True) v7 x7_1) ∧ Aside0 (Below w.heap.size w w'))
  case atStart => exact ⟨(([] : List (S33))), H', ⟨Nat.le_refl _⟩, ⟨by first | exact Kd.R_nil _ _ _ _ _ | exact Kd.N_nil _ _ _ _ _ | exact Kd.V_nil _ _ _ _ _ | exact Kd.Q_nil _ _ _ _ _ | exact Kd.S_nil _ _ _ _ _⟩, ⟨by repeat (first | (with_reducible first | exact HB.out | apply below_alloc | apply pw_below_drewN | apply below_drew1) | exact HB.out)⟩⟩
  case round =>
    clear H'
    try clear c1
    try clear c2
    try clear p2
    obtain ⟨x7_1, HA, HK1, HO_7, HB⟩ := hrel
    cases gk with
    | zero => exact absurd HA.out (by simp [shelterbeltref18_Run.l0])
    | succ k1 =>
      have H := HA.out
      clear HA
      simp only [shelterbeltref18_Run.l0] at H
      by_cases c4 : (x7_1.length : Int) < (wrap64 ((wrap64 ((wrap64 (6 * a0)) + a1)) + 2))
      · rw [if_pos c4] at H
        have c4b0 : decide ((x7_1.length : Int) < (wrap64 ((wrap64 ((wrap64 (6 * a0)) + a1)) + 2))) = true := decide_eq_true c4
        clear c4
        have H' := Aside0.mk H
        clear H
        obtain ⟨Ao5, co5, eo5⟩ := Kd.R_slice HO_7.out
        subst eo5
        go_wp2
        go_loopg [8, 9] k1 (fun kq v8 v9 w' => ∃ (x8_2 : List (S33)) (x9_2 : Int), v9 = .int .i64 x9_2 ∧ Aside0 (shelterbeltref18_Run.l1 kq a0 a1 l2 x7_1 x8_2 x9_2 = some r) ∧ Aside0 (kq ≤ k1) ∧ Aside0 (Kd.R k33 33 w' w.heap.size (fun k_ => some k_ ≠ (v8 : Value).ownBlock) (.slice Ao5 x7_1.length co5) x7_1) ∧ Aside0 (Kd.R k33 33 w' w.heap.size (fun k_ => some k_ ≠ ((.slice Ao5 x7_1.length co5) : Value).ownBlock) v8 x8_2) ∧ Aside0 (Below w.heap.size w w'))
        case atStart => exact ⟨(([] : List (S33))), (0), (by first | rfl | (simp; done) | (simp [*]; done)), H', ⟨Nat.le_refl _⟩, ⟨by (with_reducible repeat (first | apply Kd.R_alloc | apply Kd.R_drewN | apply Kd.R_drew)); exact Kd.R_mono HO_7.out (fun _ hk => (by simp [Value.ownBlock]))⟩, ⟨by first | exact Kd.R_nil _ _ _ _ _ | exact Kd.N_nil _ _ _ _ _ | exact Kd.V_nil _ _ _ _ _ | exact Kd.Q_nil _ _ _ _ _ | exact Kd.S_nil _ _ _ _ _⟩, ⟨by repeat (first | (with_reducible first | exact HB.out | apply below_alloc | apply pw_below_drewN | apply below_drew1) | exact HB.out)⟩⟩
        case round =>
          clear H'
          try clear c1
          try clear c2
          try clear p2
          try clear c4
          try clear c4b0
          try clear p2
          obtain ⟨x8_2, x9_2, rfl, HA, HK2, HO_7, HO_8, HB⟩ := hrel
          cases gk with
          | zero => exact absurd HA.out (by simp [shelterbeltref18_Run.l1])
          | succ k2 =>
            have H := HA.out
            clear HA
            simp only [shelterbeltref18_Run.l1] at H
            by_cases c6 : x9_2 ≤ a1
            · rw [if_pos c6] at H
              have c6b0 : decide (x9_2 ≤ a1) = true := decide_eq_true c6
              clear c6
              replace H := Option.bind_eq_some_iff.mp H
              obtain ⟨⟨t118, t119, t120, t121⟩, A70, H⟩ := H
              replace H : (if t121 = true then (if x8_2.length < 5864062014805 then (shelterbeltref18_Run.l1 k2 a0 a1 l2 x7_1 (x8_2 ++ [(⟨t118, t119, t120⟩ : S33)]) (wrap64 (x9_2 + 1))) else (none)) else (shelterbeltref18_Run.l1 k2 a0 a1 l2 x7_1 x8_2 (wrap64 (x9_2 + 1)))) = some r := H
              have A7 := Aside0.mk A70
              clear A70
              by_cases c8 : t121 = true
              · subst c8
                have H1 : (if x8_2.length < 5864062014805 then (shelterbeltref18_Run.l1 k2 a0 a1 l2 x7_1 (x8_2 ++ [(⟨t118, t119, t120⟩ : S33)]) (wrap64 (x9_2 + 1))) else (none)) = some r := by rw [if_pos rfl] at H; exact H
                clear H
                have H := H1
                clear H1
                by_cases c9 : x8_2.length < 5864062014805
                · rw [if_pos c9] at H
                  have LMc9 := Aside0.mk c9
                  clear c9
                  obtain ⟨y123, hy123⟩ : ∃ y_ : List (S33), y_ = (x8_2 ++ [(⟨t118, t119, t120⟩ : S33)]) := ⟨_, rfl⟩
                  replace H : (shelterbeltref18_Run.l1 k2 a0 a1 l2 x7_1 y123 (wrap64 (x9_2 + 1))) = some r := by first | (rw [hy123]; with_reducible exact H) | (have H2_ := (Option.bind_some _ _).symm.trans H; rw [hy123]; with_reducible exact H2_) | (have H2_ := (Option.bind_some _ _).symm.trans H; with_reducible exact H2_) | with_reducible exact H | (rw [hy123]; exact H) | exact H
                  have Ny123 := Aside0.mk hy123
                  clear hy123
                  have H' := Aside0.mk H
                  clear H
                  go_wp2_with (first | ((with_reducible refine gate_callee (f := 18) rfl ?_); refine goesL_ (some 32) rfl rfl Try.func18 (by kernel_rfl) rfl #[.slice Ao5 x7_1.length co5, .int .i64 a0, .int .i64 a1, .int .i64 x9_2] rfl (by (try simp only [List.map_toArray, List.map_cons, List.map_nil]); first | done | rfl | (simp only [List.length_drop, List.length_take]; rfl)) ?_; (with_reducible refine (shelterbeltref18_Next.calls k2 _ _ x7_1 a0 a1 x9_2 t118 t119 t120 true _ ?side1 ?side2 A7.out).mono ?_); (case side1 => repeat (first | exact (Kd.R_reads' HO_7.out).2.2 | (with_reducible refine Kd.C_alloc ?_ _) | (with_reducible refine Kd.C_drewN ?_ _) | (with_reducible refine Kd.C_drew ?_))); (case side2 => exact (Kd.R_reads' HO_7.out).2.1); rintro e w10 ⟨rfl, hb⟩; refine ⟨_, rfl, ?_⟩; have n0_ := Aside0.mk (Kd.R_below (by (with_reducible repeat (first | apply Kd.R_alloc | apply Kd.R_drewN | apply Kd.R_drew)); exact HO_7.out) hb); have n1_ := Aside0.mk (Kd.R_below (by (with_reducible repeat (first | apply Kd.R_alloc | apply Kd.R_drewN | apply Kd.R_drew)); exact HO_8.out) hb); have n2_ := Aside0.mk (below_step (by repeat (first | (with_reducible first | exact HB.out | apply below_alloc | apply pw_below_drewN | apply below_drew1) | exact HB.out)) hb); clear HO_7; clear HO_8; clear HB; have HO_7 := n0_; have HO_8 := n1_; have HB := n2_; clear n0_ n1_ n2_; (try clear hb); (try clear hb2); (try clear hk); (try clear hi)) | ((with_reducible refine gate_dst (N := 10) rfl ?_); refine box_event ?hg (N := 10) ?hd (cs := #[.int .i64 0, .int .i64 0, .int .i64 0]) (t := 33) ?hr ?_; (case hd => rfl); (case hg => rfl); (case hr => first | (go_simp; done) | (go_simp; rfl)); intro gb122 hg w11 hbox hb; have n0_ := Aside0.mk (Kd.R_below (Kd.R_elderB (by (with_reducible repeat (first | apply Kd.R_alloc | apply Kd.R_drewN | apply Kd.R_drew)); exact HO_7.out) gb122 (Nat.le_of_eq hg.symm)) hb); have n1_ := Aside0.mk (Kd.R_below (Kd.R_elderB (by (with_reducible repeat (first | apply Kd.R_alloc | apply Kd.R_drewN | apply Kd.R_drew)); exact HO_8.out) gb122 (Nat.le_of_eq hg.symm)) hb); have n2_ := Aside0.mk (below_step (by repeat (first | (with_reducible first | exact HB.out | apply below_alloc | apply pw_below_drewN | apply below_drew1) | exact HB.out)) hb); have n3_ := Aside0.mk (hbox); have n4_ := Aside0.mk ((by rw [hg]; exact (below_size (by repeat (first | (with_reducible first | exact HB.out | apply below_alloc | apply pw_below_drewN | apply below_drew1) | exact HB.out))) : w.heap.size ≤ gb122)); have n5_ := Aside0.mk ((by rw [hg]; exact (below_size (by repeat (first | (with_reducible first | exact HB.out | apply below_alloc | apply pw_below_drewN | apply below_drew1) | exact HB.out))) : w.heap.size ≤ gb122)); clear HO_7; clear HO_8; clear HB; have HO_7 := n0_; have HO_8 := n1_; have HB := n2_; have BK122 := n3_; have GW122 := n4_; have GE122 := n5_; clear n0_ n1_ n2_ n3_ n4_ n5_; clear hb hbox hg; have hcz12_0 : w11.cell? ⟨gb122, 0, none⟩ = some (.int .i64 0) := (blk_cell BK122.out 0).trans rfl; have hcz12_1 : w11.cell? ⟨gb122, 1, none⟩ = some (.int .i64 0) := (blk_cell BK122.out 1).trans rfl; have hcz12_2 : w11.cell? ⟨gb122, 2, none⟩ = some (.int .i64 0) := (blk_cell BK122.out 2).trans rfl; have hfz12_0 := blk_frozen BK122.out 0; have hfz12_1 := blk_frozen BK122.out 1; have hfz12_2 := blk_frozen BK122.out 2) | ((with_reducible refine gate_builtin (b := .append) (xs := #[.tmp 36, .tmp 38]) rfl ?_); at_builtin; refine Kd.R_append k33 (w0 := w) w.heap.size rfl (.tmp 36) (.tmp 38) 29 33 (.agg #[(.int .i64 0), (.int .i64 0), (.int .i64 0)]) 24 rfl Try.underlying29 info33 rfl (by decide) (by omega) u8 x8_2 (⟨t118, t119, t120⟩ : S33) [.int .i64 t118, .int .i64 t119, .int .i64 t120] (fun k_ => some k_ ≠ (.slice Ao5 x7_1.length co5 : Value).ownBlock ∧ k_ ≠ gb122) (fun _ => False) rfl (by first | (go_simp; done) | (go_simp; rfl)) ?aP (fun _ hk => hk.elim) ?aF ?aO ?aB ?aS ?aL ?_; (case aP => exact k33_mkM _ _ _ (⟨t118, t119, t120⟩ : S33)); (case aB => exact (by repeat (first | (with_reducible first | exact HB.out | apply below_alloc | apply pw_below_drewN | apply below_drew1 | refine below_set ?_ GE122.out) | exact HB.out))); (case aF => exact (fun k_ hk => ⟨Kd.fresh' (Kd.R_lt (by (with_reducible repeat (first | apply Kd.R_alloc | apply Kd.R_drewN | apply Kd.R_drew)); exact (Kd.R_mono (Kd.R_far (p := ⟨gb122, 2, none⟩) (Kd.R_far (p := ⟨gb122, 1, none⟩) (Kd.R_far (p := ⟨gb122, 0, none⟩) (Kd.R_mono HO_7.out (fun k_ hk => (⟨hk, hk.2⟩ : _ ∧ k_ ≠ gb122))) (fun _ hk => hk.2) (.int .i64 t118)) (fun _ hk => hk.2) (.int .i64 t119)) (fun _ hk => hk.2) (.int .i64 t120)) (fun _ h_ => h_.1)))) k_ hk, Kd.freshB (g := gb122) (o := .cells #[.int .i64 t118, .int .i64 t119, .int .i64 t120] 33 (0, 0)) (by (with_reducible repeat (first | refine blk_drewN ?_ _ | refine blk_drew ?_ | refine blk_alloc ?_ _)); refine blk_put (cs := #[.int .i64 t118, .int .i64 t119, .int .i64 0]) ?_ 2 _ rfl; (with_reducible repeat (first | refine blk_drewN ?_ _ | refine blk_drew ?_ | refine blk_alloc ?_ _)); refine blk_put (cs := #[.int .i64 t118, .int .i64 0, .int .i64 0]) ?_ 1 _ rfl; (with_reducible repeat (first | refine blk_drewN ?_ _ | refine blk_drew ?_ | refine blk_alloc ?_ _)); refine blk_put (cs := #[.int .i64 0, .int .i64 0, .int .i64 0]) ?_ 0 _ rfl; (with_reducible repeat (first | refine blk_drewN ?_ _ | refine blk_drew ?_ | refine blk_alloc ?_ _)); exact BK122.out) k_ hk⟩)); (case aO => exact (by (with_reducible repeat (first | apply Kd.R_alloc | apply Kd.R_drewN | apply Kd.R_drew)); exact Kd.R_mono (Kd.R_far (p := ⟨gb122, 2, none⟩) (Kd.R_far (p := ⟨gb122, 1, none⟩) (Kd.R_far (p := ⟨gb122, 0, none⟩) (Kd.R_mono HO_8.out (fun k_ hk => (⟨hk, hk.2⟩ : _ ∧ k_ ≠ gb122))) (fun _ hk => hk.2) (.int .i64 t118)) (fun _ hk => hk.2) (.int .i64 t119)) (fun _ hk => hk.2) (.int .i64 t120)) (fun _ hk => ⟨hk.1.1, hk.1.2⟩))); (case aS => exact (below_size (by repeat (first | (with_reducible first | exact HB.out | apply below_alloc | apply pw_below_drewN | apply below_drew1 | refine below_set ?_ GE122.out) | exact HB.out)))); (case aL => have := LMc9.out; omega); intro v124 w13 ho hb hg hat; rw [← Ny123.out] at ho; have n0_ := Aside0.mk (Kd.R_after (ok := (fun k_ => k_ ≠ gb122)) (by (with_reducible repeat (first | apply Kd.R_alloc | apply Kd.R_drewN | apply Kd.R_drew)); exact Kd.R_mono (Kd.R_far (p := ⟨gb122, 2, none⟩) (Kd.R_far (p := ⟨gb122, 1, none⟩) (Kd.R_far (p := ⟨gb122, 0, none⟩) (Kd.R_mono HO_7.out (fun k_ hk => (⟨hk, hk.2⟩ : _ ∧ k_ ≠ gb122))) (fun _ hk => hk.2) (.int .i64 t118)) (fun _ hk => hk.2) (.int .i64 t119)) (fun _ hk => hk.2) (.int .i64 t120)) (fun _ hk => ⟨hk.1.2, hk.1.1⟩)) hg hat); have n1_ := Aside0.mk (blk_grown (g := gb122) (o := .cells #[.int .i64 t118, .int .i64 t119, .int .i64 t120] 33 (0, 0)) (by (with_reducible repeat (first | refine blk_drewN ?_ _ | refine blk_drew ?_ | refine blk_alloc ?_ _)); refine blk_put (cs := #[.int .i64 t118, .int .i64 t119, .int .i64 0]) ?_ 2 _ rfl; (with_reducible repeat (first | refine blk_drewN ?_ _ | refine blk_drew ?_ | refine blk_alloc ?_ _)); refine blk_put (cs := #[.int .i64 t118, .int .i64 0, .int .i64 0]) ?_ 1 _ rfl; (with_reducible repeat (first | refine blk_drewN ?_ _ | refine blk_drew ?_ | refine blk_alloc ?_ _)); refine blk_put (cs := #[.int .i64 0, .int .i64 0, .int .i64 0]) ?_ 0 _ rfl; (with_reducible repeat (first | refine blk_drewN ?_ _ | refine blk_drew ?_ | refine blk_alloc ?_ _)); exact BK122.out) hg (Kd.R_away HO_8.out (fun _ hk => hk.2))); have n2_ := Aside0.mk (hb); have n3_ := Aside0.mk (ho); clear HO_7; clear BK122; clear HB; clear HO_8; have HO_7 := n0_; have BK122 := n1_; have HB := n2_; have HO125 := n3_; clear n0_ n1_ n2_ n3_; clear ho hb hg hat))
                  go_roundg k2
                  case measure => have := HK1.out; have := HK2.out; omega
                  case rel => exact ⟨(y123), (wrap64 (x9_2 + 1)), (by first | rfl | (simp; done) | (simp [*]; done)), H', ⟨by have := HK1.out; have := HK2.out; omega⟩, ⟨by (with_reducible repeat (first | apply Kd.R_alloc | apply Kd.R_drewN | apply Kd.R_drew)); exact Kd.R_mono HO_7.out (fun _ hk => hk.2)⟩, ⟨by (with_reducible repeat (first | apply Kd.R_alloc | apply Kd.R_drewN | apply Kd.R_drew)); exact Kd.R_mono HO125.out (fun _ hk => hk.1)⟩, ⟨by repeat (first | (with_reducible first | exact HB.out | apply below_alloc | apply pw_below_drewN | apply below_drew1 | refine below_set ?_ GE122.out) | exact HB.out)⟩⟩
                · rw [if_neg c9] at H
                  exact absurd H (by simp)
              · replace c8 := Bool.eq_false_iff.mpr c8
                subst c8
                have H1 : (shelterbeltref18_Run.l1 k2 a0 a1 l2 x7_1 x8_2 (wrap64 (x9_2 + 1))) = some r := by rw [if_neg (show ¬ (false = true) by decide)] at H; exact H
                clear H
                have H := H1
                clear H1
                have H' := Aside0.mk H
                clear H
                go_wp2_with (first | ((with_reducible refine gate_callee (f := 18) rfl ?_); refine goesL_ (some 32) rfl rfl Try.func18 (by kernel_rfl) rfl #[.slice Ao5 x7_1.length co5, .int .i64 a0, .int .i64 a1, .int .i64 x9_2] rfl (by (try simp only [List.map_toArray, List.map_cons, List.map_nil]); first | done | rfl | (simp only [List.length_drop, List.length_take]; rfl)) ?_; (with_reducible refine (shelterbeltref18_Next.calls k2 _ _ x7_1 a0 a1 x9_2 t118 t119 t120 false _ ?side1 ?side2 A7.out).mono ?_); (case side1 => repeat (first | exact (Kd.R_reads' HO_7.out).2.2 | (with_reducible refine Kd.C_alloc ?_ _) | (with_reducible refine Kd.C_drewN ?_ _) | (with_reducible refine Kd.C_drew ?_))); (case side2 => exact (Kd.R_reads' HO_7.out).2.1); rintro e w14 ⟨rfl, hb⟩; refine ⟨_, rfl, ?_⟩; have n0_ := Aside0.mk (Kd.R_below (by (with_reducible repeat (first | apply Kd.R_alloc | apply Kd.R_drewN | apply Kd.R_drew)); exact HO_7.out) hb); have n1_ := Aside0.mk (Kd.R_below (by (with_reducible repeat (first | apply Kd.R_alloc | apply Kd.R_drewN | apply Kd.R_drew)); exact HO_8.out) hb); have n2_ := Aside0.mk (below_step (by repeat (first | (with_reducible first | exact HB.out | apply below_alloc | apply pw_below_drewN | apply below_drew1) | exact HB.out)) hb); clear HO_7; clear HO_8; clear HB; have HO_7 := n0_; have HO_8 := n1_; have HB := n2_; clear n0_ n1_ n2_; (try clear hb); (try clear hb2); (try clear hk); (try clear hi)) | ((with_reducible refine gate_dst (N := 10) rfl ?_); refine box_event ?hg (N := 10) ?hd (cs := #[.int .i64 0, .int .i64 0, .int .i64 0]) (t := 33) ?hr ?_; (case hd => rfl); (case hg => rfl); (case hr => first | (go_simp; done) | (go_simp; rfl)); intro gb122 hg w15 hbox hb; have n0_ := Aside0.mk (Kd.R_below (Kd.R_elderB (by (with_reducible repeat (first | apply Kd.R_alloc | apply Kd.R_drewN | apply Kd.R_drew)); exact HO_7.out) gb122 (Nat.le_of_eq hg.symm)) hb); have n1_ := Aside0.mk (Kd.R_below (Kd.R_elderB (by (with_reducible repeat (first | apply Kd.R_alloc | apply Kd.R_drewN | apply Kd.R_drew)); exact HO_8.out) gb122 (Nat.le_of_eq hg.symm)) hb); have n2_ := Aside0.mk (below_step (by repeat (first | (with_reducible first | exact HB.out | apply below_alloc | apply pw_below_drewN | apply below_drew1) | exact HB.out)) hb); have n3_ := Aside0.mk (hbox); have n4_ := Aside0.mk ((by rw [hg]; exact (below_size (by repeat (first | (with_reducible first | exact HB.out | apply below_alloc | apply pw_below_drewN | apply below_drew1) | exact HB.out))) : w.heap.size ≤ gb122)); have n5_ := Aside0.mk ((by rw [hg]; exact (below_size (by repeat (first | (with_reducible first | exact HB.out | apply below_alloc | apply pw_below_drewN | apply below_drew1) | exact HB.out))) : w.heap.size ≤ gb122)); clear HO_7; clear HO_8; clear HB; have HO_7 := n0_; have HO_8 := n1_; have HB := n2_; have BK122 := n3_; have GW122 := n4_; have GE122 := n5_; clear n0_ n1_ n2_ n3_ n4_ n5_; clear hb hbox hg; have hcz16_0 : w15.cell? ⟨gb122, 0, none⟩ = some (.int .i64 0) := (blk_cell BK122.out 0).trans rfl; have hcz16_1 : w15.cell? ⟨gb122, 1, none⟩ = some (.int .i64 0) := (blk_cell BK122.out 1).trans rfl; have hcz16_2 : w15.cell? ⟨gb122, 2, none⟩ = some (.int .i64 0) := (blk_cell BK122.out 2).trans rfl; have hfz16_0 := blk_frozen BK122.out 0; have hfz16_1 := blk_frozen BK122.out 1; have hfz16_2 := blk_frozen BK122.out 2))
                go_roundg k2
                case measure => have := HK1.out; have := HK2.out; omega
                case rel => exact ⟨(x8_2), (wrap64 (x9_2 + 1)), (by first | rfl | (simp; done) | (simp [*]; done)), H', ⟨by have := HK1.out; have := HK2.out; omega⟩, ⟨by (with_reducible repeat (first | apply Kd.R_alloc | apply Kd.R_drewN | apply Kd.R_drew)); exact Kd.R_mono (Kd.R_far (p := ⟨gb122, 2, none⟩) (Kd.R_far (p := ⟨gb122, 1, none⟩) (Kd.R_far (p := ⟨gb122, 0, none⟩) (Kd.R_mono HO_7.out (fun k_ hk => (⟨hk, hk.2⟩ : _ ∧ k_ ≠ gb122))) (fun _ hk => hk.2) (.int .i64 t118)) (fun _ hk => hk.2) (.int .i64 t119)) (fun _ hk => hk.2) (.int .i64 t120)) (fun _ hk => hk.1.1)⟩, ⟨by (with_reducible repeat (first | apply Kd.R_alloc | apply Kd.R_drewN | apply Kd.R_drew)); exact Kd.R_mono (Kd.R_far (p := ⟨gb122, 2, none⟩) (Kd.R_far (p := ⟨gb122, 1, none⟩) (Kd.R_far (p := ⟨gb122, 0, none⟩) (Kd.R_mono HO_8.out (fun k_ hk => (⟨hk, hk.2⟩ : _ ∧ k_ ≠ gb122))) (fun _ hk => hk.2) (.int .i64 t118)) (fun _ hk => hk.2) (.int .i64 t119)) (fun _ hk => hk.2) (.int .i64 t120)) (fun _ hk => hk.1.1)⟩, ⟨by repeat (first | (with_reducible first | exact HB.out | apply below_alloc | apply pw_below_drewN | apply below_drew1 | refine below_set ?_ GE122.out) | exact HB.out)⟩⟩
            · rw [if_neg c6] at H
              have c6b0 : decide (x9_2 ≤ a1) = false := decide_eq_false c6
              clear c6
              by_cases c17 : (x8_2.length : Int) = 0
              · rw [if_pos c17] at H
                have c17b0 : ((x8_2.length : Int) == 0) = true := beq_iff_eq.mpr c17
                have c17b1 : ((x8_2.length : Int) != 0) = false := bne_eq_false_iff_eq.mpr c17
                clear c17
                obtain rfl := Option.some.inj H
                obtain ⟨Ao18, co18, eo18⟩ := Kd.R_slice HO_8.out
                subst eo18
                go_wp2
                go_ret
                exact ⟨_, by first | rfl | (simp [errW_none, errW_some] <;> rfl) | (simp [*, errW_none, errW_some] <;> rfl), by (with_reducible repeat (first | apply Kd.R_alloc | apply Kd.R_drewN | apply Kd.R_drew)); exact Kd.R_mono HO_7.out (fun _ hk => trivial), by repeat (first | (with_reducible first | exact HB.out | apply below_alloc | apply pw_below_drewN | apply below_drew1) | exact HB.out)⟩
              · rw [if_neg c17] at H
                have c17b0 : ((x8_2.length : Int) == 0) = false := beq_eq_false_iff_ne.mpr c17
                have c17b1 : ((x8_2.length : Int) != 0) = true := bne_iff_ne.mpr c17
                have c17b2 : ¬ (x8_2 = []) := fun h_ => c17 (by rw [h_]; rfl)
                by_cases c19 : (x7_1.length : Int) < (l2.length : Int)
                · rw [if_pos c19] at H
                  have c19b0 : decide ((x7_1.length : Int) < (l2.length : Int)) = true := decide_eq_true c19
                  have c19b1 : decide (x7_1.length < l2.length) = true := decide_eq_true (Int.ofNat_lt.mp c19)
                  clear c19
                  by_cases c20 : 0 ≤ (x7_1.length : Int)
                  · rw [if_pos c20] at H
                    have c20b0 : decide (0 ≤ (x7_1.length : Int)) = true := decide_eq_true c20
                    have c20b1 : decide (0 ≤ x7_1.length) = true := decide_eq_true (by omega)
                    clear c20
                    by_cases c21 : (rd l2 (x7_1.length : Int)) < 0
                    · rw [if_pos c21] at H
                      have c21b0 : decide ((rd l2 (x7_1.length : Int)) < 0) = true := decide_eq_true c21
                      clear c21
                      by_cases c22 : (wrap64 (-(wrap64 ((rd l2 (x7_1.length : Int)) + 1)))) = 9223372036854775807
                      · rw [if_pos c22] at H
                        have c22b0 : ((wrap64 (-(wrap64 ((rd l2 (x7_1.length : Int)) + 1)))) == 9223372036854775807) = true := beq_iff_eq.mpr c22
                        have c22b1 : ((wrap64 (-(wrap64 ((rd l2 (x7_1.length : Int)) + 1)))) != 9223372036854775807) = false := bne_eq_false_iff_eq.mpr c22
                        clear c22
                        by_cases c23 : 0 < (x8_2.length : Int)
                        · rw [if_pos c23] at H
                          have c23b0 : decide (0 < (x8_2.length : Int)) = true := decide_eq_true c23
                          have c23b1 : decide (0 < x8_2.length) = true := decide_eq_true (by omega)
                          clear c23
                          by_cases c24 : x7_1.length < 5864062014805
                          · rw [if_pos c24] at H
                            have LMc24 := Aside0.mk c24
                            clear c24
                            obtain ⟨y128, hy128⟩ : ∃ y_ : List (S33), y_ = (x7_1 ++ [(⟨(rd_T33 x8_2 0).f0, (rd_T33 x8_2 0).f1, (rd_T33 x8_2 0).f2⟩ : S33)]) := ⟨_, rfl⟩
                            replace H : (shelterbeltref18_Run.l0 k2 a0 a1 l2 y128) = some r := by first | (rw [hy128]; with_reducible exact H) | (have H2_ := (Option.bind_some _ _).symm.trans H; rw [hy128]; with_reducible exact H2_) | (have H2_ := (Option.bind_some _ _).symm.trans H; with_reducible exact H2_) | with_reducible exact H | (rw [hy128]; exact H) | exact H
                            have Ny128 := Aside0.mk hy128
                            clear hy128
                            have H' := Aside0.mk H
                            clear H
                            obtain ⟨Ao25, co25, eo25⟩ := Kd.R_slice HO_8.out
                            subst eo25
                            have p126 : 0 ≤ ((x7_1.length : Int) : Int) := of_decide_eq_true (by first | (with_reducible assumption) | assumption)
                            have q126 : (x7_1.length : Int) < (l2.length : Int) := of_decide_eq_true (by first | (with_reducible assumption) | assumption)
                            obtain ⟨ad126, e126, hx126_0⟩ := Kd.at_int HR2.out (x7_1.length : Int) p126 q126
                            cases e126
                            replace hx126_0 := (HB.out.cell (World.block_lt_of_cell? w _ hx126_0)).trans hx126_0
                            (try simp only [Go.IntWalk.toNatUp] at hx126_0)
                            replace p126 := eq_true p126
                            replace q126 := eq_true q126
                            have p127 : 0 ≤ (0 : Int) := (by omega)
                            have q127 : 0 < (x8_2.length : Int) := of_decide_eq_true (by first | (with_reducible assumption) | assumption)
                            obtain ⟨ad127, e127, hx127_0, hx127_1, hx127_2⟩ := at_T33 (Kd.R_reads' HO_8.out).2.2 0 p127 q127
                            cases e127
                            have qi127 : (0 < x8_2.length) = True := eq_true (by omega)
                            (try rw [show ((0 : Int)).toNat = 0 from rfl] at hx127_0)
                            (try rw [show 0 * 3 = 0 from rfl] at hx127_0)
                            (try rw [Addr.add_zero'] at hx127_0)
                            (try rw [show ((0 : Int)).toNat = 0 from rfl] at hx127_1)
                            (try rw [show 0 * 3 = 0 from rfl] at hx127_1)
                            (try rw [Addr.add_zero'] at hx127_1)
                            (try rw [show ((0 : Int)).toNat = 0 from rfl] at hx127_2)
                            (try rw [show 0 * 3 = 0 from rfl] at hx127_2)
                            (try rw [Addr.add_zero'] at hx127_2)
                            replace p127 := eq_true p127
                            replace q127 := eq_true q127
                            go_wp2_with (first | ((with_reducible refine gate_builtin (b := .append) (xs := #[.tmp 73, .tmp 78]) rfl ?_); at_builtin; refine Kd.R_append k33 (w0 := w) w.heap.size rfl (.tmp 73) (.tmp 78) 29 33 (.agg #[(.int .i64 0), (.int .i64 0), (.int .i64 0)]) 24 rfl Try.underlying29 info33 rfl (by decide) (by omega) (.slice Ao5 x7_1.length co5) x7_1 (⟨(rd_T33 x8_2 0).f0, (rd_T33 x8_2 0).f1, (rd_T33 x8_2 0).f2⟩ : S33) [.int .i64 ((rd_T33 x8_2 0).f0), .int .i64 ((rd_T33 x8_2 0).f1), .int .i64 ((rd_T33 x8_2 0).f2)] (fun k_ => some k_ ≠ (.slice (some ad127) x8_2.length co25 : Value).ownBlock) (fun _ => False) rfl rfl ?aP (fun _ hk => hk.elim) ?aF ?aO ?aB ?aS ?aL ?_; (case aP => exact k33_mkM _ _ _ (⟨(rd_T33 x8_2 0).f0, (rd_T33 x8_2 0).f1, (rd_T33 x8_2 0).f2⟩ : S33)); (case aB => exact (by repeat (first | (with_reducible first | exact HB.out | apply below_alloc | apply pw_below_drewN | apply below_drew1) | exact HB.out))); (case aF => exact (fun k_ hk => Kd.fresh' (Kd.R_lt (by (with_reducible repeat (first | apply Kd.R_alloc | apply Kd.R_drewN | apply Kd.R_drew)); exact HO_8.out)) k_ hk)); (case aO => exact (by (with_reducible repeat (first | apply Kd.R_alloc | apply Kd.R_drewN | apply Kd.R_drew)); exact HO_7.out)); (case aS => exact (below_size (by repeat (first | (with_reducible first | exact HB.out | apply below_alloc | apply pw_below_drewN | apply below_drew1) | exact HB.out)))); (case aL => have := LMc24.out; omega); intro v129 w26 ho hb hg hat; rw [← Ny128.out] at ho; have n0_ := Aside0.mk (Kd.R_after (ok := (fun _ => True)) (by (with_reducible repeat (first | apply Kd.R_alloc | apply Kd.R_drewN | apply Kd.R_drew)); exact Kd.R_mono HO_8.out (fun _ hk => ⟨trivial, hk⟩)) hg hat); have n1_ := Aside0.mk (hb); have n2_ := Aside0.mk (ho); clear HO_8; clear HB; clear HO_7; have HO_8 := n0_; have HB := n1_; have HO130 := n2_; clear n0_ n1_ n2_; clear ho hb hg hat))
                            go_roundg k2
                            case measure => have := HK1.out; have := HK2.out; omega
                            case rel => exact ⟨(y128), H', ⟨by have := HK1.out; have := HK2.out; omega⟩, ⟨by (with_reducible repeat (first | apply Kd.R_alloc | apply Kd.R_drewN | apply Kd.R_drew)); exact Kd.R_mono HO130.out (fun _ hk => trivial)⟩, ⟨by repeat (first | (with_reducible first | exact HB.out | apply below_alloc | apply pw_below_drewN | apply below_drew1) | exact HB.out)⟩⟩
                          · rw [if_neg c24] at H
                            exact absurd H (by simp)
                        · rw [if_neg c23] at H
                          exact absurd H (by simp)
                      · rw [if_neg c22] at H
                        have c22b0 : ((wrap64 (-(wrap64 ((rd l2 (x7_1.length : Int)) + 1)))) == 9223372036854775807) = false := beq_eq_false_iff_ne.mpr c22
                        have c22b1 : ((wrap64 (-(wrap64 ((rd l2 (x7_1.length : Int)) + 1)))) != 9223372036854775807) = true := bne_iff_ne.mpr c22
                        obtain ⟨ji27, hji27⟩ : ∃ j_ : Int, (Int.tmod (wrap64 ((Int.tmod (wrap64 (-(wrap64 ((rd l2 (x7_1.length : Int)) + 1)))) (x8_2.length : Int)) + 1)) (x8_2.length : Int)) = j_ := ⟨_, rfl⟩
                        replace H : (if 0 ≤ (ji27) then (if (ji27) < (x8_2.length : Int) then (if x7_1.length < 5864062014805 then (shelterbeltref18_Run.l0 k2 a0 a1 l2 (x7_1 ++ [(⟨(rd_T33 x8_2 (ji27)).f0, (rd_T33 x8_2 (ji27)).f1, (rd_T33 x8_2 (ji27)).f2⟩ : S33)])) else (none)) else (none)) else (none)) = some r := by first | (rw [hji27] at H; exact H) | (simp only [hji27] at H ⊢; exact H)
                        by_cases c28 : 0 ≤ (ji27)
                        · rw [if_pos c28] at H
                          have c28b0 : decide (0 ≤ (ji27)) = true := decide_eq_true c28
                          clear c28
                          by_cases c29 : (ji27) < (x8_2.length : Int)
                          · rw [if_pos c29] at H
                            have c29b0 : decide ((ji27) < (x8_2.length : Int)) = true := decide_eq_true c29
                            clear c29
                            by_cases c30 : x7_1.length < 5864062014805
                            · rw [if_pos c30] at H
                              have LMc30 := Aside0.mk c30
                              clear c30
                              obtain ⟨y132, hy132⟩ : ∃ y_ : List (S33), y_ = (x7_1 ++ [(⟨(rd_T33 x8_2 (ji27)).f0, (rd_T33 x8_2 (ji27)).f1, (rd_T33 x8_2 (ji27)).f2⟩ : S33)]) := ⟨_, rfl⟩
                              replace H : (shelterbeltref18_Run.l0 k2 a0 a1 l2 y132) = some r := by first | (rw [hy132]; with_reducible exact H) | (have H2_ := (Option.bind_some _ _).symm.trans H; rw [hy132]; with_reducible exact H2_) | (have H2_ := (Option.bind_some _ _).symm.trans H; with_reducible exact H2_) | with_reducible exact H | (rw [hy132]; exact H) | exact H
                              have Ny132 := Aside0.mk hy132
                              clear hy132
                              have H' := Aside0.mk H
                              clear H
                              obtain ⟨Ao31, co31, eo31⟩ := Kd.R_slice HO_8.out
                              subst eo31
                              have p126 : 0 ≤ ((x7_1.length : Int) : Int) := of_decide_eq_true (by first | (with_reducible assumption) | assumption)
                              have q126 : (x7_1.length : Int) < (l2.length : Int) := of_decide_eq_true (by first | (with_reducible assumption) | assumption)
                              obtain ⟨ad126, e126, hx126_0⟩ := Kd.at_int HR2.out (x7_1.length : Int) p126 q126
                              cases e126
                              replace hx126_0 := (HB.out.cell (World.block_lt_of_cell? w _ hx126_0)).trans hx126_0
                              (try simp only [Go.IntWalk.toNatUp] at hx126_0)
                              replace p126 := eq_true p126
                              replace q126 := eq_true q126
                              have p131 : 0 ≤ ((ji27) : Int) := of_decide_eq_true (by first | (with_reducible assumption) | assumption)
                              have q131 : (ji27) < (x8_2.length : Int) := of_decide_eq_true (by first | (with_reducible assumption) | assumption)
                              obtain ⟨ad131, e131, hx131_0, hx131_1, hx131_2⟩ := at_T33 (Kd.R_reads' HO_8.out).2.2 (ji27) p131 q131
                              cases e131
                              replace p131 := eq_true p131
                              replace q131 := eq_true q131
                              go_wp2_with (first | ((with_reducible refine gate_builtin (b := .append) (xs := #[.tmp 73, .tmp 78]) rfl ?_); at_builtin; refine Kd.R_append k33 (w0 := w) w.heap.size rfl (.tmp 73) (.tmp 78) 29 33 (.agg #[(.int .i64 0), (.int .i64 0), (.int .i64 0)]) 24 rfl Try.underlying29 info33 rfl (by decide) (by omega) (.slice Ao5 x7_1.length co5) x7_1 (⟨(rd_T33 x8_2 (ji27)).f0, (rd_T33 x8_2 (ji27)).f1, (rd_T33 x8_2 (ji27)).f2⟩ : S33) [.int .i64 ((rd_T33 x8_2 (ji27)).f0), .int .i64 ((rd_T33 x8_2 (ji27)).f1), .int .i64 ((rd_T33 x8_2 (ji27)).f2)] (fun k_ => some k_ ≠ (.slice (some ad131) x8_2.length co31 : Value).ownBlock) (fun _ => False) rfl rfl ?aP (fun _ hk => hk.elim) ?aF ?aO ?aB ?aS ?aL ?_; (case aP => exact k33_mkM _ _ _ (⟨(rd_T33 x8_2 (ji27)).f0, (rd_T33 x8_2 (ji27)).f1, (rd_T33 x8_2 (ji27)).f2⟩ : S33)); (case aB => exact (by repeat (first | (with_reducible first | exact HB.out | apply below_alloc | apply pw_below_drewN | apply below_drew1) | exact HB.out))); (case aF => exact (fun k_ hk => Kd.fresh' (Kd.R_lt (by (with_reducible repeat (first | apply Kd.R_alloc | apply Kd.R_drewN | apply Kd.R_drew)); exact HO_8.out)) k_ hk)); (case aO => exact (by (with_reducible repeat (first | apply Kd.R_alloc | apply Kd.R_drewN | apply Kd.R_drew)); exact HO_7.out)); (case aS => exact (below_size (by repeat (first | (with_reducible first | exact HB.out | apply below_alloc | apply pw_below_drewN | apply below_drew1) | exact HB.out)))); (case aL => have := LMc30.out; omega); intro v133 w32 ho hb hg hat; rw [← Ny132.out] at ho; have n0_ := Aside0.mk (Kd.R_after (ok := (fun _ => True)) (by (with_reducible repeat (first | apply Kd.R_alloc | apply Kd.R_drewN | apply Kd.R_drew)); exact Kd.R_mono HO_8.out (fun _ hk => ⟨trivial, hk⟩)) hg hat); have n1_ := Aside0.mk (hb); have n2_ := Aside0.mk (ho); clear HO_8; clear HB; clear HO_7; have HO_8 := n0_; have HB := n1_; have HO134 := n2_; clear n0_ n1_ n2_; clear ho hb hg hat))
                              go_roundg k2
                              case measure => have := HK1.out; have := HK2.out; omega
                              case rel => exact ⟨(y132), H', ⟨by have := HK1.out; have := HK2.out; omega⟩, ⟨by (with_reducible repeat (first | apply Kd.R_alloc | apply Kd.R_drewN | apply Kd.R_drew)); exact Kd.R_mono HO134.out (fun _ hk => trivial)⟩, ⟨by repeat (first | (with_reducible first | exact HB.out | apply below_alloc | apply pw_below_drewN | apply below_drew1) | exact HB.out)⟩⟩
                            · rw [if_neg c30] at H
                              exact absurd H (by simp)
                          · rw [if_neg c29] at H
                            exact absurd H (by simp)
                        · rw [if_neg c28] at H
                          exact absurd H (by simp)
                    · rw [if_neg c21] at H
                      have c21b0 : decide ((rd l2 (x7_1.length : Int)) < 0) = false := decide_eq_false c21
                      clear c21
                      obtain ⟨ji33, hji33⟩ : ∃ j_ : Int, (Int.tmod (rd l2 (x7_1.length : Int)) (x8_2.length : Int)) = j_ := ⟨_, rfl⟩
                      replace H : (if 0 ≤ (ji33) then (if (ji33) < (x8_2.length : Int) then (if x7_1.length < 5864062014805 then (shelterbeltref18_Run.l0 k2 a0 a1 l2 (x7_1 ++ [(⟨(rd_T33 x8_2 (ji33)).f0, (rd_T33 x8_2 (ji33)).f1, (rd_T33 x8_2 (ji33)).f2⟩ : S33)])) else (none)) else (none)) else (none)) = some r := by first | (rw [hji33] at H; exact H) | (simp only [hji33] at H ⊢; exact H)
                      by_cases c34 : 0 ≤ (ji33)
                      · rw [if_pos c34] at H
                        have c34b0 : decide (0 ≤ (ji33)) = true := decide_eq_true c34
                        clear c34
                        by_cases c35 : (ji33) < (x8_2.length : Int)
                        · rw [if_pos c35] at H
                          have c35b0 : decide ((ji33) < (x8_2.length : Int)) = true := decide_eq_true c35
                          clear c35
                          by_cases c36 : x7_1.length < 5864062014805
                          · rw [if_pos c36] at H
                            have LMc36 := Aside0.mk c36
                            clear c36
                            obtain ⟨y136, hy136⟩ : ∃ y_ : List (S33), y_ = (x7_1 ++ [(⟨(rd_T33 x8_2 (ji33)).f0, (rd_T33 x8_2 (ji33)).f1, (rd_T33 x8_2 (ji33)).f2⟩ : S33)]) := ⟨_, rfl⟩
                            replace H : (shelterbeltref18_Run.l0 k2 a0 a1 l2 y136) = some r := by first | (rw [hy136]; with_reducible exact H) | (have H2_ := (Option.bind_some _ _).symm.trans H; rw [hy136]; with_reducible exact H2_) | (have H2_ := (Option.bind_some _ _).symm.trans H; with_reducible exact H2_) | with_reducible exact H | (rw [hy136]; exact H) | exact H
                            have Ny136 := Aside0.mk hy136
                            clear hy136
                            have H' := Aside0.mk H
                            clear H
                            obtain ⟨Ao37, co37, eo37⟩ := Kd.R_slice HO_8.out
                            subst eo37
                            have p126 : 0 ≤ ((x7_1.length : Int) : Int) := of_decide_eq_true (by first | (with_reducible assumption) | assumption)
                            have q126 : (x7_1.length : Int) < (l2.length : Int) := of_decide_eq_true (by first | (with_reducible assumption) | assumption)
                            obtain ⟨ad126, e126, hx126_0⟩ := Kd.at_int HR2.out (x7_1.length : Int) p126 q126
                            cases e126
                            replace hx126_0 := (HB.out.cell (World.block_lt_of_cell? w _ hx126_0)).trans hx126_0
                            (try simp only [Go.IntWalk.toNatUp] at hx126_0)
                            replace p126 := eq_true p126
                            replace q126 := eq_true q126
                            have p135 : 0 ≤ ((ji33) : Int) := of_decide_eq_true (by first | (with_reducible assumption) | assumption)
                            have q135 : (ji33) < (x8_2.length : Int) := of_decide_eq_true (by first | (with_reducible assumption) | assumption)
                            obtain ⟨ad135, e135, hx135_0, hx135_1, hx135_2⟩ := at_T33 (Kd.R_reads' HO_8.out).2.2 (ji33) p135 q135
                            cases e135
                            replace p135 := eq_true p135
                            replace q135 := eq_true q135
                            go_wp2_with (first | ((with_reducible refine gate_builtin (b := .append) (xs := #[.tmp 73, .tmp 78]) rfl ?_); at_builtin; refine Kd.R_append k33 (w0 := w) w.heap.size rfl (.tmp 73) (.tmp 78) 29 33 (.agg #[(.int .i64 0), (.int .i64 0), (.int .i64 0)]) 24 rfl Try.underlying29 info33 rfl (by decide) (by omega) (.slice Ao5 x7_1.length co5) x7_1 (⟨(rd_T33 x8_2 (ji33)).f0, (rd_T33 x8_2 (ji33)).f1, (rd_T33 x8_2 (ji33)).f2⟩ : S33) [.int .i64 ((rd_T33 x8_2 (ji33)).f0), .int .i64 ((rd_T33 x8_2 (ji33)).f1), .int .i64 ((rd_T33 x8_2 (ji33)).f2)] (fun k_ => some k_ ≠ (.slice (some ad135) x8_2.length co37 : Value).ownBlock) (fun _ => False) rfl rfl ?aP (fun _ hk => hk.elim) ?aF ?aO ?aB ?aS ?aL ?_; (case aP => exact k33_mkM _ _ _ (⟨(rd_T33 x8_2 (ji33)).f0, (rd_T33 x8_2 (ji33)).f1, (rd_T33 x8_2 (ji33)).f2⟩ : S33)); (case aB => exact (by repeat (first | (with_reducible first | exact HB.out | apply below_alloc | apply pw_below_drewN | apply below_drew1) | exact HB.out))); (case aF => exact (fun k_ hk => Kd.fresh' (Kd.R_lt (by (with_reducible repeat (first | apply Kd.R_alloc | apply Kd.R_drewN | apply Kd.R_drew)); exact HO_8.out)) k_ hk)); (case aO => exact (by (with_reducible repeat (first | apply Kd.R_alloc | apply Kd.R_drewN | apply Kd.R_drew)); exact HO_7.out)); (case aS => exact (below_size (by repeat (first | (with_reducible first | exact HB.out | apply below_alloc | apply pw_below_drewN | apply below_drew1) | exact HB.out)))); (case aL => have := LMc36.out; omega); intro v137 w38 ho hb hg hat; rw [← Ny136.out] at ho; have n0_ := Aside0.mk (Kd.R_after (ok := (fun _ => True)) (by (with_reducible repeat (first | apply Kd.R_alloc | apply Kd.R_drewN | apply Kd.R_drew)); exact Kd.R_mono HO_8.out (fun _ hk => ⟨trivial, hk⟩)) hg hat); have n1_ := Aside0.mk (hb); have n2_ := Aside0.mk (ho); clear HO_8; clear HB; clear HO_7; have HO_8 := n0_; have HB := n1_; have HO138 := n2_; clear n0_ n1_ n2_; clear ho hb hg hat))
                            go_roundg k2
                            case measure => have := HK1.out; have := HK2.out; omega
                            case rel => exact ⟨(y136), H', ⟨by have := HK1.out; have := HK2.out; omega⟩, ⟨by (with_reducible repeat (first | apply Kd.R_alloc | apply Kd.R_drewN | apply Kd.R_drew)); exact Kd.R_mono HO138.out (fun _ hk => trivial)⟩, ⟨by repeat (first | (with_reducible first | exact HB.out | apply below_alloc | apply pw_below_drewN | apply below_drew1) | exact HB.out)⟩⟩
                          · rw [if_neg c36] at H
                            exact absurd H (by simp)
                        · rw [if_neg c35] at H
                          exact absurd H (by simp)
                      · rw [if_neg c34] at H
                        exact absurd H (by simp)
                  · rw [if_neg c20] at H
                    exact absurd H (by simp)
                · rw [if_neg c19] at H
                  have c19b0 : decide ((x7_1.length : Int) < (l2.length : Int)) = false := decide_eq_false c19
                  have c19b1 : decide (x7_1.length < l2.length) = false := decide_eq_false (fun h => c19 (Int.ofNat_lt.mpr h))
                  clear c19
                  by_cases c39 : 0 < (x8_2.length : Int)
                  · rw [if_pos c39] at H
                    have c39b0 : decide (0 < (x8_2.length : Int)) = true := decide_eq_true c39
                    have c39b1 : decide (0 < x8_2.length) = true := decide_eq_true (by omega)
                    clear c39
                    by_cases c40 : x7_1.length < 5864062014805
                    · rw [if_pos c40] at H
                      have LMc40 := Aside0.mk c40
                      clear c40
                      obtain ⟨y140, hy140⟩ : ∃ y_ : List (S33), y_ = (x7_1 ++ [(⟨(rd_T33 x8_2 0).f0, (rd_T33 x8_2 0).f1, (rd_T33 x8_2 0).f2⟩ : S33)]) := ⟨_, rfl⟩
                      replace H : (shelterbeltref18_Run.l0 k2 a0 a1 l2 y140) = some r := by first | (rw [hy140]; with_reducible exact H) | (have H2_ := (Option.bind_some _ _).symm.trans H; rw [hy140]; with_reducible exact H2_) | (have H2_ := (Option.bind_some _ _).symm.trans H; with_reducible exact H2_) | with_reducible exact H | (rw [hy140]; exact H) | exact H
                      have Ny140 := Aside0.mk hy140
                      clear hy140
                      have H' := Aside0.mk H
                      clear H
                      obtain ⟨Ao41, co41, eo41⟩ := Kd.R_slice HO_8.out
                      subst eo41
                      have p139 : 0 ≤ (0 : Int) := (by omega)
                      have q139 : 0 < (x8_2.length : Int) := of_decide_eq_true (by first | (with_reducible assumption) | assumption)
                      obtain ⟨ad139, e139, hx139_0, hx139_1, hx139_2⟩ := at_T33 (Kd.R_reads' HO_8.out).2.2 0 p139 q139
                      cases e139
                      have qi139 : (0 < x8_2.length) = True := eq_true (by omega)
                      (try rw [show ((0 : Int)).toNat = 0 from rfl] at hx139_0)
                      (try rw [show 0 * 3 = 0 from rfl] at hx139_0)
                      (try rw [Addr.add_zero'] at hx139_0)
                      (try rw [show ((0 : Int)).toNat = 0 from rfl] at hx139_1)
                      (try rw [show 0 * 3 = 0 from rfl] at hx139_1)
                      (try rw [Addr.add_zero'] at hx139_1)
                      (try rw [show ((0 : Int)).toNat = 0 from rfl] at hx139_2)
                      (try rw [show 0 * 3 = 0 from rfl] at hx139_2)
                      (try rw [Addr.add_zero'] at hx139_2)
                      replace p139 := eq_true p139
                      replace q139 := eq_true q139
                      go_wp2_with (first | ((with_reducible refine gate_builtin (b := .append) (xs := #[.tmp 73, .tmp 78]) rfl ?_); at_builtin; refine Kd.R_append k33 (w0 := w) w.heap.size rfl (.tmp 73) (.tmp 78) 29 33 (.agg #[(.int .i64 0), (.int .i64 0), (.int .i64 0)]) 24 rfl Try.underlying29 info33 rfl (by decide) (by omega) (.slice Ao5 x7_1.length co5) x7_1 (⟨(rd_T33 x8_2 0).f0, (rd_T33 x8_2 0).f1, (rd_T33 x8_2 0).f2⟩ : S33) [.int .i64 ((rd_T33 x8_2 0).f0), .int .i64 ((rd_T33 x8_2 0).f1), .int .i64 ((rd_T33 x8_2 0).f2)] (fun k_ => some k_ ≠ (.slice (some ad139) x8_2.length co41 : Value).ownBlock) (fun _ => False) rfl rfl ?aP (fun _ hk => hk.elim) ?aF ?aO ?aB ?aS ?aL ?_; (case aP => exact k33_mkM _ _ _ (⟨(rd_T33 x8_2 0).f0, (rd_T33 x8_2 0).f1, (rd_T33 x8_2 0).f2⟩ : S33)); (case aB => exact (by repeat (first | (with_reducible first | exact HB.out | apply below_alloc | apply pw_below_drewN | apply below_drew1) | exact HB.out))); (case aF => exact (fun k_ hk => Kd.fresh' (Kd.R_lt (by (with_reducible repeat (first | apply Kd.R_alloc | apply Kd.R_drewN | apply Kd.R_drew)); exact HO_8.out)) k_ hk)); (case aO => exact (by (with_reducible repeat (first | apply Kd.R_alloc | apply Kd.R_drewN | apply Kd.R_drew)); exact HO_7.out)); (case aS => exact (below_size (by repeat (first | (with_reducible first | exact HB.out | apply below_alloc | apply pw_below_drewN | apply below_drew1) | exact HB.out)))); (case aL => have := LMc40.out; omega); intro v141 w42 ho hb hg hat; rw [← Ny140.out] at ho; have n0_ := Aside0.mk (Kd.R_after (ok := (fun _ => True)) (by (with_reducible repeat (first | apply Kd.R_alloc | apply Kd.R_drewN | apply Kd.R_drew)); exact Kd.R_mono HO_8.out (fun _ hk => ⟨trivial, hk⟩)) hg hat); have n1_ := Aside0.mk (hb); have n2_ := Aside0.mk (ho); clear HO_8; clear HB; clear HO_7; have HO_8 := n0_; have HB := n1_; have HO142 := n2_; clear n0_ n1_ n2_; clear ho hb hg hat))
                      go_roundg k2
                      case measure => have := HK1.out; have := HK2.out; omega
                      case rel => exact ⟨(y140), H', ⟨by have := HK1.out; have := HK2.out; omega⟩, ⟨by (with_reducible repeat (first | apply Kd.R_alloc | apply Kd.R_drewN | apply Kd.R_drew)); exact Kd.R_mono HO142.out (fun _ hk => trivial)⟩, ⟨by repeat (first | (with_reducible first | exact HB.out | apply below_alloc | apply pw_below_drewN | apply below_drew1) | exact HB.out)⟩⟩
                    · rw [if_neg c40] at H
                      exact absurd H (by simp)
                  · rw [if_neg c39] at H
                    exact absurd H (by simp)
      · rw [if_neg c4] at H
        have c4b0 : decide ((x7_1.length : Int) < (wrap64 ((wrap64 ((wrap64 (6 * a0)) + a1)) + 2))) = false := decide_eq_false c4
        clear c4
        obtain rfl := Option.some.inj H
        obtain ⟨Ao43, co43, eo43⟩ := Kd.R_slice HO_7.out
        subst eo43
        go_wp2
        go_ret
        exact ⟨_, by first | rfl | (simp [errW_none, errW_some] <;> rfl) | (simp [*, errW_none, errW_some] <;> rfl), by (with_reducible repeat (first | apply Kd.R_alloc | apply Kd.R_drewN | apply Kd.R_drew)); exact HO_7.out, by repeat (first | (with_reducible first | exact HB.out | apply below_alloc | apply pw_below_drewN | apply below_drew1) | exact HB.out)⟩

end Go.Proofs.Ytfokjemoolgojaa.PRun

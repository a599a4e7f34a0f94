/-
  For all items and params the law TopSides returns true and leaves its arguments as they were, on every schedule: below a split that is not flat all items of the left child have a margin below 0, all of the right one 0 or more. No condition.
-/
import Derived.Test.YtladmconpolneaaGreatRows
import Derived.Test.YtladmconpolneaaGreatSidesWalk
import Derived.WalkKit
import Derived.ProofKit
import Derived.OpenShut
import Derived.ChangeOld
import Derived.Below
import Derived.Conc.HoldsTime
namespace Go.Proofs.YtladmconpolneaaGreat.topSides
open Go.ChangeShapes Go.WideShapes Go.ChangeAt Go.RowKit Go.Conc Go.ConcM
set_option linter.unusedVariables false
theorem own : ownKnob Tryz.prog.godebug = none := by kernel_rfl
theorem laidOut : laidOutB Tryz.prog = true := by kernel_rfl
set_option maxRecDepth 100000 in
theorem lifted (os : Os) (started : os.Started) (H : Type) (enc : TypeId × Value → H) (F : Stop.Interp) :
    ReturnsInLeavingWide Rows.topSidesRow.assume Tryz.checked os 7 .any (Rows.topSidesSpec.pre6 enc Tryz.prog Tryz.f7 Rows.topSidesRow.domain false) ((OpenSpec.ofChange Rows.topSidesSpec).postWith enc Tryz.prog Tryz.f7 F (outsideKept [.timePasses]) false true false) := by
  refine returnsInLeavingWide_of_change_time (C := Tryz.checked) own started Tryz.func7
    (ChangeSpec.witness6c (enc := enc) (C := Tryz.checked) ⟨#[], #[.int .i64 0, .slice none 0 0, .agg #[.int .i64 0, .int .i64 0, .int .i64 0, .bool false, .int .u64 0, .slice none 0 0]], []⟩ 12 (by kernel_rfl) (by kernel_rfl) (by kernel_rfl) (by kernel_rfl)) ?_
  intro W base args ds gs before hval0 hW hcnd hwt _
  have hval : ∀ (j : Nat) t v, Tryz.f7.params[j]? = some t → args[j]? = some v → Value.okWide Tryz.prog W .any base t v := hval0
  have hW' := hW
  obtain ⟨p, q, hA0, hV, rfl, hfz, hnd⟩ := hW
  have hA : DataW.TrodAll enc Tryz.prog W 0 (fun _ => true) true Tryz.f7.params.toList args.toList ds p := hA0
  rw [Tryz.params7] at hA hval
  obtain ⟨v0, vs0, d0, ds0, p0, q0, hargs, rfl, rfl, h0, r0⟩ := trodAll_cons hA
  obtain ⟨v1, vs1, d1, ds1, p1, q1, rfl, rfl, rfl, h1, r1⟩ := trodAll_cons r0
  obtain ⟨v2, vs2, d2, ds2, p2, q2, rfl, rfl, rfl, h2, r2⟩ := trodAll_cons r1
  obtain ⟨rfl, rfl, rfl⟩ := trodAll_nil r2
  obtain rfl : args = #[v0, v1, v2] := by cases args; simp_all
  obtain ⟨rfl, rfl⟩ := trodVars_none hV
  rw [Tryz.params7] at hwt
  obtain ⟨a0, rfl, rfl, rfl, w0⟩ := open_int Tryz.underlying3 (hval 0 3 v0 rfl rfl) h0
  have k1 := h1
  have lt1 : ∀ x ∈ p1, x.block < W.heap.size := by obtain ⟨m, hm⟩ := k1; exact DataW.trod_lt m _ _ _ hm
  obtain ⟨A1, c1, vs1, rfl, hl1, hs1, hn1⟩ := arg_rows Tryz.underlying22 Tryz.underlying30 Tryz.underlying21 Tryz.cells30 Tryz.cells21 (of_decide_eq_true (by kernel_rfl)) (of_decide_eq_true (by kernel_rfl)) (hval 1 22 v1 rfl rfl) h1 (fits_of hwt (j := 1) rfl rfl)
  have k2 := h2
  have lt2 : ∀ x ∈ p2, x.block < W.heap.size := by obtain ⟨m, hm⟩ := k2; exact DataW.trod_lt m _ _ _ hm
  obtain ⟨pp2, L2, c2, rfl, hp2⟩ := arg_par (hval 2 28 v2 rfl rfl) h2
  clear hA0 hval0
  refine good_of_calls (by kernel_rfl) ((sides_law a0 vs1 A1 c1 pp2 L2 c2 W hl1 hs1 hn1 hp2).mono fun e W' ⟨he, bel⟩ => ?_)
  subst he
  have hos : ({ W' with os := W.os } : World) = W' := by rw [← bel.os]
  refine ⟨_, rfl, ?_, by rw [bel.os]; exact OsLater.refl _⟩
  rw [hos]
  exact ⟨_, _, _, [], _, [], hW', trodAll_mk1 (shut_bool Tryz.underlying4 _), (trodAll_cons_mk (shut_int Tryz.underlying3 w0) (trodAll_cons_mk (Below.trod laidOut (by kernel_rfl) (of_decide_eq_true (by kernel_rfl)) k1 bel lt1) (trodAll_cons_mk (Below.trod laidOut (by kernel_rfl) (of_decide_eq_true (by kernel_rfl)) k2 bel lt2) trodAll_mk0))), rfl, bel.frame _, fun h => by cases h⟩
theorem over : Rows.topSidesRow.holds Tryz.pinned (OpenSpec.ofChange Rows.topSidesSpec) :=
  OpenClaim.holds_of_wide_leaving_time 7 Tryz.f7 rfl rfl rfl rfl rfl rfl rfl ⟨rfl, rfl, rfl, rfl, rfl⟩ rfl rfl rfl rfl rfl (by kernel_rfl) Tryz.func7 (by kernel_rfl)
    (of_decide_eq_true (by kernel_rfl)) (by unfold Func.isWrapper; first | (rw [if_pos (by decide +kernel)]; kernel_rfl) | (rw [if_neg (by decide +kernel)]; exact ⟨rfl, rfl⟩))
    (fun os started H enc _ F => lifted os started H enc F)
/-- THE STATEMENT -/
theorem proved : Rows.TopSidesSaid := over
#print axioms proved
end Go.Proofs.YtladmconpolneaaGreat.topSides

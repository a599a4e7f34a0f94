/- The gang, in a row: GangEach's run. (Printed by ho.py.) -/
import Derived.Test.YtapjmifhhbpikaaHn
set_option linter.unusedVariables false
set_option linter.unusedSimpArgs false
namespace Go.Proofs.Ytapjmifhhbpikaa
open Go.Conc Go.ConcN Go.ConcM Go.RowKit Go.Conc.Lib Go.ConcR.Gen
open Go.ConcR (KK wgBlock WgAt stA smA rd wr mk)
set_option maxRecDepth 100000 in
theorem tm4 (a b c : Value) : #[a, b, c] ++ Array.replicate (92 - (#[a, b, c] : Array Value).size) undef = #[a, b, c, undef, undef, undef, undef, undef, undef, undef, undef, undef, undef, undef, undef, undef, undef, undef, undef, undef, undef, undef, undef, undef, undef, undef, undef, undef, undef, undef, undef, undef, undef, undef, undef, undef, undef, undef, undef, undef, undef, undef, undef, undef, undef, undef, undef, undef, undef, undef, undef, undef, undef, undef, undef, undef, undef, undef, undef, undef, undef, undef, undef, undef, undef, undef, undef, undef, undef, undef, undef, undef, undef, undef, undef, undef, undef, undef, undef, undef, undef, undef, undef, undef, undef, undef, undef, undef, undef, undef, undef, undef] := by
  simp only [List.size_toArray, List.length_cons, List.length_nil, Nat.reduceAdd, Nat.reduceSub, Array.replicate_succ, Array.replicate_zero, List.push_toArray, List.append_toArray, List.nil_append, List.cons_append]
set_option maxRecDepth 100000 in
set_option maxHeartbeats 1000000 in
/-- ████ GangEach's RUN, ON WHATEVER TAPE. ████ -/
theorem each_run {W : World} {x y A B : Int} :
    ∃ M last o w' t', runNT Try.prog (M + 1) (solo (G (Frame.enter Try.prog 4 #[.int .i64 x, .int .i64 y, .agg #[.int .i64 A, .int .i64 B]] .normal) []) W) #[] = (.ended o w', t') ∧
      runN Try.prog M (solo (G (Frame.enter Try.prog 4 #[.int .i64 x, .int .i64 y, .agg #[.int .i64 A, .int .i64 B]] .normal) []) W) = .next last ∧ step Try.prog last = .ended o w' ∧ Good Try.prog (fun v w' => v = .bool true ∧ Aft W w' 0) last o w' t' := by
  rw [enter_at (c := body4) _ Try.func4 fb4, nt4, tm4]
  refine reach_ends ?_
  have fin : ∀ (S' : Loc → Prop) (w' : World) (a : Act) (todo : List Item), Aft W w' 0 → LowS S' w'.heap.size → a.defers = [] → a.tmps.getD 6 undef = .bool true →
      ∃ n, Goes Try.prog true AtRel (DE (EvL S' w'.heap.size)) (AtEnd Try.prog S' w'.heap.size (fun v w' => v = .bool true ∧ Aft W w' 0)) n (G {(base 4).at a todo with mode := .returning} []) w' := fun S' w' a todo hA hL hd ht => by
    refine ⟨0, Goes.stop fun w₁ r => ⟨rfl, .bool true, #[], ?_, by simp, rfl, hA.at r⟩⟩
    obtain ⟨tm, ds⟩ := a
    replace hd : ds = [] := hd
    replace ht : tm.getD 6 undef = .bool true := ht
    subst hd
    have hres : Try.f4.results = #[.tmp 6] := by kernel_rfl
    simp [G, stepG, unwind, doReturn, results, Frame.at, base, Try.func4, hres, seen, GStep.after]
    simpa using ht
  by_cases ho : OddI x y
  · exact each4Odd ho (fun _ h => h.elim) fin
  · unfold OddI at ho
    have hx0 : 0 ≤ x := by omega
    have hy0 : 1 ≤ y := by omega
    obtain ⟨J, rfl⟩ : ∃ J : Nat, x = (J : Int) := ⟨x.toNat, by omega⟩
    obtain ⟨N, rfl⟩ : ∃ N : Nat, y = (N : Int) := ⟨y.toNat, by omega⟩
    exact each4Even (by omega) ⟨by omega, by omega⟩ (fun _ h => h.elim) fin
end Go.Proofs.Ytapjmifhhbpikaa

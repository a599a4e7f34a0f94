/- Gangs within gangs: from goroutine 0's way to the run; GangWithin's run. -/
import Derived.Test.YtapjmifhhbpikaaZm
set_option linter.unusedVariables false
set_option linter.unusedSimpArgs false
namespace Go.Proofs.Ytapjmifhhbpikaa
open Go.Conc Go.ConcN Go.ConcM Go.RowKit Go.Conc.Lib Go.ConcR.Gen
open Go.ConcR (KK wgBlock WgAt stA smA rd wr mk)
/-- ████ FROM THE FIRST FRAME TO THE RUN's END. ████ -/
theorem reach_ends {P : Program} {a : Goroutine} {w : World} {PostV : Value → World → Prop}
    (h : Reach P (fun _ => False) a w fun S g w' => ∃ n, Goes P true AtRel (DE (EvL S w'.heap.size)) (AtEnd P S w'.heap.size PostV) n g w') :
    ∃ M last o w' t', runNT P (M + 1) (solo a w) #[] = (.ended o w', t') ∧ runN P M (solo a w) = .next last ∧ step P last = .ended o w' ∧ Good P PostV last o w' t' := by
  obtain ⟨N, gs', a', w', sl', t', q', S', r, h0, hF, n, hG⟩ := h #[a] none #[] (fun _ => 0) rfl
    ⟨leavers_one P a, ⟨past_nil.mono (Nat.zero_le _), fun _ i hi => by simp [Trace.act?] at hi⟩, by simp⟩
  obtain ⟨M, last, o, w2, t2, e1, e2, e3, e4⟩ := beside_ends (D := DE (EvL S' w'.heap.size)) (sl := sl') (fun _ _ _ h => h) h0 hF.lv hF.pq.past hG
  refine ⟨N + M, last, o, w2, t2, ?_, ?_, e3, e4⟩
  · rw [solo_eq_crowd, Nat.add_assoc, runNT_add, r]; exact e1
  · rw [solo_eq_crowd, runN_add, ← runNT_fst P N _ #[], r]; exact e2
theorem wrap_u8 (x m : Nat) (hx : x < 256) (hm : 0 < m) : IntKind.i64.wrap ((x : Int).tmod m) = ((x % m : Nat) : Int) := by
  have : (x : Int).tmod m = ((x % m : Nat) : Int) := rfl
  rw [this, IntKind.wrap_i64]
  have := Nat.mod_le x m
  omega
set_option maxRecDepth 100000 in
theorem tm5 (a b c d e : Value) : #[a, b, c, d, e] ++ Array.replicate (72 - (#[a, b, c, d, e] : Array Value).size) undef = #[a, b, c, d, e, undef, undef, undef, undef, undef, undef, undef, undef, undef, undef, undef, undef, undef, undef, undef, undef, undef, undef, undef, undef, undef, undef, undef, undef, undef, undef, undef, undef, undef, undef, undef, undef, undef, undef, undef, undef, undef, undef, undef, undef, undef, undef, undef, undef, undef, undef, undef, undef, undef, undef, undef, undef, undef, undef, undef, undef, undef, undef, undef, undef, undef, undef, undef, undef, undef, undef, undef] := by
  simp only [List.size_toArray, List.length_cons, List.length_nil, Nat.reduceAdd, Nat.reduceSub, Array.replicate_succ, Array.replicate_zero, List.push_toArray, List.append_toArray, List.nil_append, List.cons_append]
set_option maxRecDepth 100000 in
set_option maxHeartbeats 1000000 in
/-- ████ GangWithin's RUN, ON WHATEVER TAPE. ████ -/
theorem within_run {W : World} {x0 x1 x2 x3 : Nat} {A B : Int} (hx0 : x0 < 256) (hx1 : x1 < 256) (hx2 : x2 < 256) (hx3 : x3 < 256) :
    ∃ M last o w' t', runNT Try.prog (M + 1) (solo (G (Frame.enter Try.prog 5 #[.int .u8 (x0 : Int), .int .u8 (x1 : Int), .int .u8 (x2 : Int), .int .u8 (x3 : Int), .agg #[.int .i64 A, .int .i64 B]] .normal) []) W) #[] = (.ended o w', t') ∧
      runN Try.prog M (solo (G (Frame.enter Try.prog 5 #[.int .u8 (x0 : Int), .int .u8 (x1 : Int), .int .u8 (x2 : Int), .int .u8 (x3 : Int), .agg #[.int .i64 A, .int .i64 B]] .normal) []) W) = .next last ∧ step Try.prog last = .ended o w' ∧ Good Try.prog (fun v w' => v = .bool true ∧ Aft W w' 0 ∧ ∀ k, k < W.heap.size → w'.heap[k]? = W.heap[k]?) last o w' t' := by
  rw [enter_at (c := body5) _ Try.func5 fb5, nt5, tm5]
  refine reach_ends ?_
  have b0 := Nat.mod_lt x0 (show 0 < 12 by omega)
  have b1 := Nat.mod_lt x1 (show 0 < 12 by omega)
  have b2 := Nat.mod_lt x2 (show 0 < 8 by omega)
  have b3 := Nat.mod_lt x3 (show 0 < 8 by omega)
  refine withinReach (n := x0 % 12) (M := x1 % 12) (N := 1 + x2 % 8) (N3 := 1 + x3 % 8) (wrap_u8 x0 12 hx0 (by omega)) (wrap_u8 x1 12 hx1 (by omega))
    (by rw [show (8 : Int) = ((8 : Nat) : Int) from rfl, wrap_u8 x2 8 hx2 (by omega), IntKind.wrap_i64]; omega) (by rw [show (8 : Int) = ((8 : Nat) : Int) from rfl, wrap_u8 x3 8 hx3 (by omega), IntKind.wrap_i64]; omega)
    (by omega) (by omega) ⟨by omega, by omega⟩ ⟨by omega, by omega⟩ fun S' w' a todo hA hO hL hd ht => ?_
  refine ⟨0, Goes.stop fun w₁ r => ⟨rfl, .bool true, #[], ?_, by simp, rfl, hA.at r, fun k hk => ?_⟩⟩
  · obtain ⟨tm, ds⟩ := a
    replace hd : ds = [] := hd
    replace ht : tm.getD 10 undef = .bool true := ht
    subst hd
    have hres : Try.f5.results = #[.tmp 10] := by kernel_rfl
    simp [G, stepG, unwind, doReturn, results, Frame.at, base, Try.func5, hres, seen, GStep.after]
    simpa using ht
  · obtain ⟨d, rfl⟩ := r
    exact hO k hk
end Go.Proofs.Ytapjmifhhbpikaa

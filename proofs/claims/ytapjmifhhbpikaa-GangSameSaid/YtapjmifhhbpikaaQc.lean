/- The gang, pairs. (Joined by join.py.) -/
import Derived.Test.YtapjmifhhbpikaaQb
/- The gang, pairs: GangSame's drawn region. (Printed by pj.py.) -/
set_option linter.unusedVariables false
set_option linter.unusedSimpArgs false
namespace Go.Proofs.Ytapjmifhhbpikaa
open Go.Conc Go.ConcN Go.ConcM Go.RowKit Go.Conc.Lib Go.ConcR.Gen
open Go.ConcR (KK wgBlock WgAt stA smA rd wr mk)
noncomputable def body3 : Code := Try.f3.body.getD .skip
def findDrawn : Code → Option (Array Oper)
  | .region _ ops true => some ops
  | .loop c => findDrawn c
  | .seq x y => match findDrawn x with | some c => some c | none => findDrawn y
  | .block _ c => findDrawn c
  | .cond _ x y => match findDrawn x with | some c => some c | none => findDrawn y
  | _ => none
noncomputable def ops10 : Array Oper := (findDrawn body3).getD #[]
theorem size10 : ops10.size = 19 := by kernel_rfl
theorem loud3 : (Try.prog.funcs[(base 3).fn]?).any (·.norace) = false := by kernel_rfl
theorem nm3 : (Try.f3.name == "runtime.NumGoroutine") = false := by kernel_rfl
set_option maxRecDepth 100000 in
set_option maxHeartbeats 8000000 in
theorem ready10 (d0 d1 d2 d3 d4 d5 d6 d7 d8 d9 d10 d11 d12 d13 d14 d15 d16 d17 d18 : Bool) (i : Nat) (hi : i ∈ Region.ready .any ops10 #[d0, d1, d2, d3, d4, d5, d6, d7, d8, d9, d10, d11, d12, d13, d14, d15, d16, d17, d18]) : (i = 0 ∧ d0 = false) ∨ (i = 1 ∧ d1 = false) ∨ (i = 2 ∧ d2 = false ∧ d0 = true ∧ d1 = true) ∨ (i = 3 ∧ d3 = false ∧ d2 = true) ∨ (i = 4 ∧ d4 = false) ∨ (i = 5 ∧ d5 = false) ∨ (i = 6 ∧ d6 = false ∧ d4 = true ∧ d5 = true) ∨ (i = 7 ∧ d7 = false ∧ d6 = true) ∨ (i = 8 ∧ d8 = false ∧ d3 = true ∧ d7 = true) ∨ (i = 9 ∧ d9 = false ∧ d8 = true) ∨ (i = 10 ∧ d10 = false ∧ d9 = true) ∨ (i = 11 ∧ d11 = false ∧ d9 = true) ∨ (i = 12 ∧ d12 = false ∧ d10 = true ∧ d11 = true ∧ d9 = true) ∨ (i = 13 ∧ d13 = false ∧ d12 = true ∧ d9 = true) ∨ (i = 14 ∧ d14 = false ∧ d9 = true) ∨ (i = 15 ∧ d15 = false ∧ d9 = true) ∨ (i = 16 ∧ d16 = false ∧ d14 = true ∧ d15 = true ∧ d9 = true) ∨ (i = 17 ∧ d17 = false ∧ d13 = true ∧ d16 = true ∧ d9 = true) ∨ (i = 18 ∧ d18 = false ∧ d9 = true ∧ d17 = true) := by
  unfold Region.ready at hi
  rw [List.mem_filter, List.mem_range, size10] at hi
  obtain ⟨hlt, hb⟩ := hi
  simp only [ops10, findDrawn, body3, Try.f3, Option.getD_some] at hb
  have hc : i = 0 ∨ i = 1 ∨ i = 2 ∨ i = 3 ∨ i = 4 ∨ i = 5 ∨ i = 6 ∨ i = 7 ∨ i = 8 ∨ i = 9 ∨ i = 10 ∨ i = 11 ∨ i = 12 ∨ i = 13 ∨ i = 14 ∨ i = 15 ∨ i = 16 ∨ i = 17 ∨ i = 18 := by omega
  rcases hc with rfl | rfl | rfl | rfl | rfl | rfl | rfl | rfl | rfl | rfl | rfl | rfl | rfl | rfl | rfl | rfl | rfl | rfl | rfl <;> simp [Region.binds] at hb ⊢ <;> first | exact hb | simp_all
set_option maxRecDepth 100000 in
set_option maxHeartbeats 8000000 in
theorem done10 (d0 d1 d2 d3 d4 d5 d6 d7 d8 d9 d10 d11 d12 d13 d14 d15 d16 d17 d18 : Bool) (h : Region.ready .any ops10 #[d0, d1, d2, d3, d4, d5, d6, d7, d8, d9, d10, d11, d12, d13, d14, d15, d16, d17, d18] = []) : d0 = true ∧ d1 = true ∧ d2 = true ∧ d3 = true ∧ d4 = true ∧ d5 = true ∧ d6 = true ∧ d7 = true ∧ d8 = true ∧ d9 = true ∧ d10 = true ∧ d11 = true ∧ d12 = true ∧ d13 = true ∧ d14 = true ∧ d15 = true ∧ d16 = true ∧ d17 = true ∧ d18 = true := by
  have key := fun k (hk : k < 19) => List.filter_eq_nil_iff.1 h k (List.mem_range.2 (by rw [size10]; exact hk))
  simp only [ops10, findDrawn, body3, Try.f3, Option.getD_some] at key
  have h0 : d0 = true := by simpa [Region.binds] using key 0 (by omega)
  have h1 : d1 = true := by simpa [Region.binds] using key 1 (by omega)
  have h2 : d2 = true := by simpa [Region.binds, h0, h1] using key 2 (by omega)
  have h3 : d3 = true := by simpa [Region.binds, h2] using key 3 (by omega)
  have h4 : d4 = true := by simpa [Region.binds] using key 4 (by omega)
  have h5 : d5 = true := by simpa [Region.binds] using key 5 (by omega)
  have h6 : d6 = true := by simpa [Region.binds, h4, h5] using key 6 (by omega)
  have h7 : d7 = true := by simpa [Region.binds, h6] using key 7 (by omega)
  have h8 : d8 = true := by simpa [Region.binds, h3, h7] using key 8 (by omega)
  have h9 : d9 = true := by simpa [Region.binds, h8] using key 9 (by omega)
  have h10 : d10 = true := by simpa [Region.binds, h9] using key 10 (by omega)
  have h11 : d11 = true := by simpa [Region.binds, h9] using key 11 (by omega)
  have h12 : d12 = true := by simpa [Region.binds, h10, h11, h9] using key 12 (by omega)
  have h13 : d13 = true := by simpa [Region.binds, h12, h9] using key 13 (by omega)
  have h14 : d14 = true := by simpa [Region.binds, h9] using key 14 (by omega)
  have h15 : d15 = true := by simpa [Region.binds, h9] using key 15 (by omega)
  have h16 : d16 = true := by simpa [Region.binds, h14, h15, h9] using key 16 (by omega)
  have h17 : d17 = true := by simpa [Region.binds, h13, h16, h9] using key 17 (by omega)
  have h18 : d18 = true := by simpa [Region.binds, h9, h17] using key 18 (by omega)
  exact ⟨h0, h1, h2, h3, h4, h5, h6, h7, h8, h9, h10, h11, h12, h13, h14, h15, h16, h17, h18⟩
section
variable {a : Act} {o : Oper}
theorem run_ix25 {x y : Operand} (hop : o.op = .indexAddr 25 x y) {R J i : Nat} (hx : a.eval x = .slice (some ⟨R, 0, none⟩) J J) (hy : a.eval y = .int .i64 (i : Int)) (hi : i < J) (w : World) : (execOp a.eval o).run Try.prog w = .ok (.value (.pointer (some ⟨R, i * 2, none⟩))) w ∧ (execOp a.eval o).events Try.prog w #[] = #[] := by
  have h0 : (0 : Int) ≤ (i : Int) := by omega
  have h1 : (i : Int) < (J : Int) := by omega
  constructor
  · unfold execOp
    simp only [hop, hx, hy]
    simp [go_sem, h0, h1, hi]
  · unfold execOp
    simp only [hop, hx, hy]
    simp [go_sem, h0, h1, hi]
theorem run_pickF {x y z : Operand} (hop : o.op = .pick x y z) (hx : a.eval x = .bool false) (hz : a.eval z = .bool false) (w : World) : (execOp a.eval o).run Try.prog w = .ok (.value (.bool false)) w ∧ (execOp a.eval o).events Try.prog w #[] = #[] := by
  constructor
  · unfold execOp
    simp only [hop, hx, hz]
    simp [go_sem]
  · unfold execOp
    simp only [hop, hx, hz]
    simp [go_sem]
end
end Go.Proofs.Ytapjmifhhbpikaa

/- The gang, pairs: GangSame's drawn region, walked. (Printed by pk.py.) -/
set_option linter.unusedVariables false
set_option linter.unusedSimpArgs false
namespace Go.Proofs.Ytapjmifhhbpikaa
open Go.Conc Go.ConcN Go.ConcM Go.RowKit Go.Conc.Lib Go.ConcR.Gen
open Go.ConcR (KK wgBlock WgAt stA smA rd wr mk)
section
variable {E : Event → Prop} {Stop : Goroutine → World → Prop} {n : Nat} {b : Frame} {a : Act} {kk : List Item} {cs : List Frame} {W w : World} {ops : Array Oper} {i : Nat} {rest : List Nat} {o : Oper}
theorem goL_ld2 {x : Operand} {R f : Nat} {X Y : Value} (hF : AtRel W w) (ho : ops[i]? = some o) (hw : Region.wanted o (yielded ops a.tmps) = true) (hk : b.kind ≠ .early) (hop : o.op = .load 30 x) (hx : a.eval x = .pointer (some ⟨R, f, none⟩)) (hq : (Try.prog.funcs[b.fn]?).any (·.norace) = false)
    (c0 : W.cell? ⟨R, f, none⟩ = some X) (c1 : W.cell? ⟨R, f + 1, none⟩ = some Y) (e0 : E ⟨.cell ⟨R, f, none⟩, false, false⟩) (e1 : E ⟨.cell ⟨R, f + 1, none⟩, false, false⟩)
    (hgo : ∀ w₁, AtRel W w₁ → Goes Try.prog true AtRel (DE E) Stop n (G (b.at (a.put o.dst (.agg #[X, Y])) (.inRegion ops rest :: kk)) cs) w₁) : Goes Try.prog true AtRel (DE E) Stop (n + 1) (G (b.at a (.inRegion ops (i :: rest) :: kk)) cs) w := by
  refine Goes.step rfl fun w₁ r => ?_
  obtain ⟨d, rfl⟩ := ar_rely hF r
  have hr := run_ld2 (.inl rfl) hop hx (W.at d) c0 c1
  rw [stepG_value ho hw hk hr.1]
  unfold listed
  rw [hr.2, seen_eq hq (by simp)]
  simp only [goes_go]
  exact ⟨fun e he => by simp at he; rcases he with rfl | rfl <;> assumption, hgo _ ⟨d, rfl⟩⟩
end
def QR (E : Event → Prop) (W : World) (kk : List Item) (cs : List Frame) (Stop : Goroutine → World → Prop) (m : Nat) (A B : Int) (J R1 R2 p i n5 : Nat) (u : Nat → Value) (D : Array Bool) (l : List Nat) : Prop :=
  ∀ d0 d1 d2 d3 d4 d5 d6 d7 d8 d9 d10 d11 d12 d13 d14 d15 d16 d17 d18 : Bool, D = #[d0, d1, d2, d3, d4, d5, d6, d7, d8, d9, d10, d11, d12, d13, d14, d15, d16, d17, d18] →
    (d16 = true → ∀ w, AtRel (WT4 W A B i n5) w → Goes Try.prog true AtRel (DE E) Stop (20 * l.length + (20 + m)) (G ((base 3).at ⟨#[u 0, u 1, u 2, u 3, u 4, u 5, u 6, .pointer (some ⟨p, 0, none⟩), u 8, .slice (some ⟨R1, 0, none⟩) J J, u 10, .slice (some ⟨R2, 0, none⟩) J J, u 12, .int .i64 (i : Int), u 14, u 15, u 16, u 17, u 18, u 19, u 20, u 21, u 22, u 23, u 24, u 25, u 26, u 27, u 28, u 29, u 30, u 31, u 32, u 33, u 34, u 35, u 36, u 37, u 38, u 39, u 40, u 41, u 42, u 43, u 44, u 45, u 46, u 47, u 48, u 49, u 50, u 51, u 52, u 53, u 54, u 55, u 56, u 57, u 58, u 59, u 60, u 61, u 62, u 63, u 64, u 65, bif d0 then .slice (some ⟨R1, 0, none⟩) J J else u 66, bif d1 then .int .i64 (i : Int) else u 67, bif d2 then .pointer (some ⟨R1, i * 2, none⟩) else u 68, bif d3 then .agg #[.int .i64 (doV A B i), .string (jobS.extract 0 n5)] else u 69, bif d4 then .slice (some ⟨R2, 0, none⟩) J J else u 70, bif d5 then .int .i64 (i : Int) else u 71, bif d6 then .pointer (some ⟨R2, i * 2, none⟩) else u 72, bif d7 then .agg #[.int .i64 (doV A B i), .string (jobS.extract 0 n5)] else u 73, bif d8 then .bool false else u 74, bif d9 then .bool false else u 75, bif d10 then .slice (some ⟨R1, 0, none⟩) J J else u 76, bif d11 then .int .i64 (i : Int) else u 77, bif d12 then .pointer (some ⟨R1, i * 2, none⟩) else u 78, bif d13 then .agg #[.int .i64 (doV A B i), .string (jobS.extract 0 n5)] else u 79, bif d14 then .agg #[.int .i64 A, .int .i64 B] else u 80, bif d15 then .int .i64 (i : Int) else u 81, bif d16 then .agg #[.int .i64 (doV A B i), .string (jobS.extract 0 n5)] else u 82, bif d17 then .bool false else u 83, bif d18 then .bool false else u 84], []⟩ (.inRegion ops10 l :: kk)) cs) w) ∧
    (d16 = false → ∀ w, AtRel W w → Goes Try.prog true AtRel (DE E) Stop (20 * l.length + (600 + m)) (G ((base 3).at ⟨#[u 0, u 1, u 2, u 3, u 4, u 5, u 6, .pointer (some ⟨p, 0, none⟩), u 8, .slice (some ⟨R1, 0, none⟩) J J, u 10, .slice (some ⟨R2, 0, none⟩) J J, u 12, .int .i64 (i : Int), u 14, u 15, u 16, u 17, u 18, u 19, u 20, u 21, u 22, u 23, u 24, u 25, u 26, u 27, u 28, u 29, u 30, u 31, u 32, u 33, u 34, u 35, u 36, u 37, u 38, u 39, u 40, u 41, u 42, u 43, u 44, u 45, u 46, u 47, u 48, u 49, u 50, u 51, u 52, u 53, u 54, u 55, u 56, u 57, u 58, u 59, u 60, u 61, u 62, u 63, u 64, u 65, bif d0 then .slice (some ⟨R1, 0, none⟩) J J else u 66, bif d1 then .int .i64 (i : Int) else u 67, bif d2 then .pointer (some ⟨R1, i * 2, none⟩) else u 68, bif d3 then .agg #[.int .i64 (doV A B i), .string (jobS.extract 0 n5)] else u 69, bif d4 then .slice (some ⟨R2, 0, none⟩) J J else u 70, bif d5 then .int .i64 (i : Int) else u 71, bif d6 then .pointer (some ⟨R2, i * 2, none⟩) else u 72, bif d7 then .agg #[.int .i64 (doV A B i), .string (jobS.extract 0 n5)] else u 73, bif d8 then .bool false else u 74, bif d9 then .bool false else u 75, bif d10 then .slice (some ⟨R1, 0, none⟩) J J else u 76, bif d11 then .int .i64 (i : Int) else u 77, bif d12 then .pointer (some ⟨R1, i * 2, none⟩) else u 78, bif d13 then .agg #[.int .i64 (doV A B i), .string (jobS.extract 0 n5)] else u 79, bif d14 then .agg #[.int .i64 A, .int .i64 B] else u 80, bif d15 then .int .i64 (i : Int) else u 81, bif d16 then .agg #[.int .i64 (doV A B i), .string (jobS.extract 0 n5)] else u 82, bif d17 then .bool false else u 83, bif d18 then .bool false else u 84], []⟩ (.inRegion ops10 l :: kk)) cs) w)
/-- What the region reads. -/
structure RFacts (A B : Int) (i n5 R1 R2 p : Nat) (V : World) : Prop where
  a0 : V.cell? ⟨R1, i * 2, none⟩ = some (.int .i64 (doV A B i))
  a1 : V.cell? ⟨R1, i * 2 + 1, none⟩ = some (.string (jobS.extract 0 n5))
  b0 : V.cell? ⟨R2, i * 2, none⟩ = some (.int .i64 (doV A B i))
  b1 : V.cell? ⟨R2, i * 2 + 1, none⟩ = some (.string (jobS.extract 0 n5))
  p0 : V.heap[p]? = some (.cells #[.int .i64 A, .int .i64 B] 23)
section
variable {E : Event → Prop} {W : World} {kk : List Item} {cs : List Frame} {Stop : Goroutine → World → Prop} {m : Nat} {A B : Int} {J R1 R2 p i n5 : Nat} {u : Nat → Value}
set_option maxRecDepth 100000 in
set_option maxHeartbeats 16000000 in
theorem reg_step (hE : ∀ k f x, (k = R1 ∨ k = R2 ∨ k = p ∨ (W.heap.size ≤ k ∧ k < W.heap.size + 3)) → E ⟨.cell ⟨k, f, none⟩, x, false⟩) (h1 : RFacts A B i n5 R1 R2 p W) (h2 : RFacts A B i n5 R1 R2 p (WT4 W A B i n5)) (hiJ : i < J) (hn5 : n5 = i % 5) {Dd : Array Bool} {q : Nat} {l : List Nat} (hs : Dd.size = ops10.size) (hi : q ∈ Region.ready .any ops10 Dd)
    (IH : QR E W kk cs Stop m A B J R1 R2 p i n5 u (Dd.setIfInBounds q true) l) : QR E W kk cs Stop m A B J R1 R2 p i n5 u Dd (q :: l) := by
  intro d0 d1 d2 d3 d4 d5 d6 d7 d8 d9 d10 d11 d12 d13 d14 d15 d16 d17 d18 hD
  subst hD
  unfold QR at IH
  have hc := ready10 d0 d1 d2 d3 d4 d5 d6 d7 d8 d9 d10 d11 d12 d13 d14 d15 d16 d17 d18 q hi
  clear hi hs
  generalize hX : ops10 = X at IH ⊢
  simp only [ops10, findDrawn, body3, Try.f3, Option.getD_some] at hX
  subst hX
  rcases hc with ⟨rfl, rfl⟩ | ⟨rfl, rfl⟩ | ⟨rfl, rfl, rfl, rfl⟩ | ⟨rfl, rfl, rfl⟩ | ⟨rfl, rfl⟩ | ⟨rfl, rfl⟩ | ⟨rfl, rfl, rfl, rfl⟩ | ⟨rfl, rfl, rfl⟩ | ⟨rfl, rfl, rfl, rfl⟩ | ⟨rfl, rfl, rfl⟩ | ⟨rfl, rfl, rfl⟩ | ⟨rfl, rfl, rfl⟩ | ⟨rfl, rfl, rfl, rfl, rfl⟩ | ⟨rfl, rfl, rfl, rfl⟩ | ⟨rfl, rfl, rfl⟩ | ⟨rfl, rfl, rfl⟩ | ⟨rfl, rfl, rfl, rfl, rfl⟩ | ⟨rfl, rfl, rfl, rfl, rfl⟩ | ⟨rfl, rfl, rfl, rfl⟩
  · obtain ⟨IHp, IHq⟩ := IH true _ _ _ _ _ _ _ _ _ _ _ _ _ _ _ _ _ _ rfl
    refine ⟨fun e2 w hF => ?_, fun e2 w hF => ?_⟩
    · rw [show 20 * (0 :: l).length + (20 + m) = (19 + (20 * l.length + (20 + m))) + 1 by simp; omega]
      refine goL_val hF rfl rfl (by k_ne) (run_move rfl rfl) fun w₁ hF => ?_
      exact (IHp e2 w₁ hF).mono (by omega)
    · rw [show 20 * (0 :: l).length + (600 + m) = (19 + (20 * l.length + (600 + m))) + 1 by simp; omega]
      refine goL_val hF rfl rfl (by k_ne) (run_move rfl rfl) fun w₁ hF => ?_
      exact (IHq e2 w₁ hF).mono (by omega)
  · obtain ⟨IHp, IHq⟩ := IH _ true _ _ _ _ _ _ _ _ _ _ _ _ _ _ _ _ _ rfl
    refine ⟨fun e2 w hF => ?_, fun e2 w hF => ?_⟩
    · rw [show 20 * (1 :: l).length + (20 + m) = (19 + (20 * l.length + (20 + m))) + 1 by simp; omega]
      refine goL_val hF rfl rfl (by k_ne) (run_move rfl rfl) fun w₁ hF => ?_
      exact (IHp e2 w₁ hF).mono (by omega)
    · rw [show 20 * (1 :: l).length + (600 + m) = (19 + (20 * l.length + (600 + m))) + 1 by simp; omega]
      refine goL_val hF rfl rfl (by k_ne) (run_move rfl rfl) fun w₁ hF => ?_
      exact (IHq e2 w₁ hF).mono (by omega)
  · obtain ⟨IHp, IHq⟩ := IH _ _ true _ _ _ _ _ _ _ _ _ _ _ _ _ _ _ _ rfl
    refine ⟨fun e2 w hF => ?_, fun e2 w hF => ?_⟩
    · rw [show 20 * (2 :: l).length + (20 + m) = (19 + (20 * l.length + (20 + m))) + 1 by simp; omega]
      refine goL_val hF rfl rfl (by k_ne) (run_ix25 rfl rfl rfl hiJ) fun w₁ hF => ?_
      exact (IHp e2 w₁ hF).mono (by omega)
    · rw [show 20 * (2 :: l).length + (600 + m) = (19 + (20 * l.length + (600 + m))) + 1 by simp; omega]
      refine goL_val hF rfl rfl (by k_ne) (run_ix25 rfl rfl rfl hiJ) fun w₁ hF => ?_
      exact (IHq e2 w₁ hF).mono (by omega)
  · obtain ⟨IHp, IHq⟩ := IH _ _ _ true _ _ _ _ _ _ _ _ _ _ _ _ _ _ _ rfl
    refine ⟨fun e2 w hF => ?_, fun e2 w hF => ?_⟩
    · rw [show 20 * (3 :: l).length + (20 + m) = (19 + (20 * l.length + (20 + m))) + 1 by simp; omega]
      refine goL_ld2 (R := R1) (f := i * 2) hF rfl rfl (by k_ne) rfl rfl loud3 h2.a0 h2.a1 (hE _ _ _ (.inl rfl)) (hE _ _ _ (.inl rfl)) fun w₁ hF => ?_
      exact (IHp e2 w₁ hF).mono (by omega)
    · rw [show 20 * (3 :: l).length + (600 + m) = (19 + (20 * l.length + (600 + m))) + 1 by simp; omega]
      refine goL_ld2 (R := R1) (f := i * 2) hF rfl rfl (by k_ne) rfl rfl loud3 h1.a0 h1.a1 (hE _ _ _ (.inl rfl)) (hE _ _ _ (.inl rfl)) fun w₁ hF => ?_
      exact (IHq e2 w₁ hF).mono (by omega)
  · obtain ⟨IHp, IHq⟩ := IH _ _ _ _ true _ _ _ _ _ _ _ _ _ _ _ _ _ _ rfl
    refine ⟨fun e2 w hF => ?_, fun e2 w hF => ?_⟩
    · rw [show 20 * (4 :: l).length + (20 + m) = (19 + (20 * l.length + (20 + m))) + 1 by simp; omega]
      refine goL_val hF rfl rfl (by k_ne) (run_move rfl rfl) fun w₁ hF => ?_
      exact (IHp e2 w₁ hF).mono (by omega)
    · rw [show 20 * (4 :: l).length + (600 + m) = (19 + (20 * l.length + (600 + m))) + 1 by simp; omega]
      refine goL_val hF rfl rfl (by k_ne) (run_move rfl rfl) fun w₁ hF => ?_
      exact (IHq e2 w₁ hF).mono (by omega)
  · obtain ⟨IHp, IHq⟩ := IH _ _ _ _ _ true _ _ _ _ _ _ _ _ _ _ _ _ _ rfl
    refine ⟨fun e2 w hF => ?_, fun e2 w hF => ?_⟩
    · rw [show 20 * (5 :: l).length + (20 + m) = (19 + (20 * l.length + (20 + m))) + 1 by simp; omega]
      refine goL_val hF rfl rfl (by k_ne) (run_move rfl rfl) fun w₁ hF => ?_
      exact (IHp e2 w₁ hF).mono (by omega)
    · rw [show 20 * (5 :: l).length + (600 + m) = (19 + (20 * l.length + (600 + m))) + 1 by simp; omega]
      refine goL_val hF rfl rfl (by k_ne) (run_move rfl rfl) fun w₁ hF => ?_
      exact (IHq e2 w₁ hF).mono (by omega)
  · obtain ⟨IHp, IHq⟩ := IH _ _ _ _ _ _ true _ _ _ _ _ _ _ _ _ _ _ _ rfl
    refine ⟨fun e2 w hF => ?_, fun e2 w hF => ?_⟩
    · rw [show 20 * (6 :: l).length + (20 + m) = (19 + (20 * l.length + (20 + m))) + 1 by simp; omega]
      refine goL_val hF rfl rfl (by k_ne) (run_ix25 rfl rfl rfl hiJ) fun w₁ hF => ?_
      exact (IHp e2 w₁ hF).mono (by omega)
    · rw [show 20 * (6 :: l).length + (600 + m) = (19 + (20 * l.length + (600 + m))) + 1 by simp; omega]
      refine goL_val hF rfl rfl (by k_ne) (run_ix25 rfl rfl rfl hiJ) fun w₁ hF => ?_
      exact (IHq e2 w₁ hF).mono (by omega)
  · obtain ⟨IHp, IHq⟩ := IH _ _ _ _ _ _ _ true _ _ _ _ _ _ _ _ _ _ _ rfl
    refine ⟨fun e2 w hF => ?_, fun e2 w hF => ?_⟩
    · rw [show 20 * (7 :: l).length + (20 + m) = (19 + (20 * l.length + (20 + m))) + 1 by simp; omega]
      refine goL_ld2 (R := R2) (f := i * 2) hF rfl rfl (by k_ne) rfl rfl loud3 h2.b0 h2.b1 (hE _ _ _ (.inr (.inl rfl))) (hE _ _ _ (.inr (.inl rfl))) fun w₁ hF => ?_
      exact (IHp e2 w₁ hF).mono (by omega)
    · rw [show 20 * (7 :: l).length + (600 + m) = (19 + (20 * l.length + (600 + m))) + 1 by simp; omega]
      refine goL_ld2 (R := R2) (f := i * 2) hF rfl rfl (by k_ne) rfl rfl loud3 h1.b0 h1.b1 (hE _ _ _ (.inr (.inl rfl))) (hE _ _ _ (.inr (.inl rfl))) fun w₁ hF => ?_
      exact (IHq e2 w₁ hF).mono (by omega)
  · obtain ⟨IHp, IHq⟩ := IH _ _ _ _ _ _ _ _ true _ _ _ _ _ _ _ _ _ _ rfl
    refine ⟨fun e2 w hF => ?_, fun e2 w hF => ?_⟩
    · rw [show 20 * (8 :: l).length + (20 + m) = (19 + (20 * l.length + (20 + m))) + 1 by simp; omega]
      refine goL_val hF rfl rfl (by k_ne) (run_neq30 rfl rfl rfl) fun w₁ hF => ?_
      exact (IHp e2 w₁ hF).mono (by omega)
    · rw [show 20 * (8 :: l).length + (600 + m) = (19 + (20 * l.length + (600 + m))) + 1 by simp; omega]
      refine goL_val hF rfl rfl (by k_ne) (run_neq30 rfl rfl rfl) fun w₁ hF => ?_
      exact (IHq e2 w₁ hF).mono (by omega)
  · obtain ⟨IHp, IHq⟩ := IH _ _ _ _ _ _ _ _ _ true _ _ _ _ _ _ _ _ _ rfl
    refine ⟨fun e2 w hF => ?_, fun e2 w hF => ?_⟩
    · rw [show 20 * (9 :: l).length + (20 + m) = (19 + (20 * l.length + (20 + m))) + 1 by simp; omega]
      refine goL_val hF rfl rfl (by k_ne) (run_move rfl rfl) fun w₁ hF => ?_
      exact (IHp e2 w₁ hF).mono (by omega)
    · rw [show 20 * (9 :: l).length + (600 + m) = (19 + (20 * l.length + (600 + m))) + 1 by simp; omega]
      refine goL_val hF rfl rfl (by k_ne) (run_move rfl rfl) fun w₁ hF => ?_
      exact (IHq e2 w₁ hF).mono (by omega)
  · obtain ⟨IHp, IHq⟩ := IH _ _ _ _ _ _ _ _ _ _ true _ _ _ _ _ _ _ _ rfl
    refine ⟨fun e2 w hF => ?_, fun e2 w hF => ?_⟩
    · rw [show 20 * (10 :: l).length + (20 + m) = (19 + (20 * l.length + (20 + m))) + 1 by simp; omega]
      refine goL_val hF rfl rfl (by k_ne) (run_move rfl rfl) fun w₁ hF => ?_
      exact (IHp e2 w₁ hF).mono (by omega)
    · rw [show 20 * (10 :: l).length + (600 + m) = (19 + (20 * l.length + (600 + m))) + 1 by simp; omega]
      refine goL_val hF rfl rfl (by k_ne) (run_move rfl rfl) fun w₁ hF => ?_
      exact (IHq e2 w₁ hF).mono (by omega)
  · obtain ⟨IHp, IHq⟩ := IH _ _ _ _ _ _ _ _ _ _ _ true _ _ _ _ _ _ _ rfl
    refine ⟨fun e2 w hF => ?_, fun e2 w hF => ?_⟩
    · rw [show 20 * (11 :: l).length + (20 + m) = (19 + (20 * l.length + (20 + m))) + 1 by simp; omega]
      refine goL_val hF rfl rfl (by k_ne) (run_move rfl rfl) fun w₁ hF => ?_
      exact (IHp e2 w₁ hF).mono (by omega)
    · rw [show 20 * (11 :: l).length + (600 + m) = (19 + (20 * l.length + (600 + m))) + 1 by simp; omega]
      refine goL_val hF rfl rfl (by k_ne) (run_move rfl rfl) fun w₁ hF => ?_
      exact (IHq e2 w₁ hF).mono (by omega)
  · obtain ⟨IHp, IHq⟩ := IH _ _ _ _ _ _ _ _ _ _ _ _ true _ _ _ _ _ _ rfl
    refine ⟨fun e2 w hF => ?_, fun e2 w hF => ?_⟩
    · rw [show 20 * (12 :: l).length + (20 + m) = (19 + (20 * l.length + (20 + m))) + 1 by simp; omega]
      refine goL_val hF rfl rfl (by k_ne) (run_ix25 rfl rfl rfl hiJ) fun w₁ hF => ?_
      exact (IHp e2 w₁ hF).mono (by omega)
    · rw [show 20 * (12 :: l).length + (600 + m) = (19 + (20 * l.length + (600 + m))) + 1 by simp; omega]
      refine goL_val hF rfl rfl (by k_ne) (run_ix25 rfl rfl rfl hiJ) fun w₁ hF => ?_
      exact (IHq e2 w₁ hF).mono (by omega)
  · obtain ⟨IHp, IHq⟩ := IH _ _ _ _ _ _ _ _ _ _ _ _ _ true _ _ _ _ _ rfl
    refine ⟨fun e2 w hF => ?_, fun e2 w hF => ?_⟩
    · rw [show 20 * (13 :: l).length + (20 + m) = (19 + (20 * l.length + (20 + m))) + 1 by simp; omega]
      refine goL_ld2 (R := R1) (f := i * 2) hF rfl rfl (by k_ne) rfl rfl loud3 h2.a0 h2.a1 (hE _ _ _ (.inl rfl)) (hE _ _ _ (.inl rfl)) fun w₁ hF => ?_
      exact (IHp e2 w₁ hF).mono (by omega)
    · rw [show 20 * (13 :: l).length + (600 + m) = (19 + (20 * l.length + (600 + m))) + 1 by simp; omega]
      refine goL_ld2 (R := R1) (f := i * 2) hF rfl rfl (by k_ne) rfl rfl loud3 h1.a0 h1.a1 (hE _ _ _ (.inl rfl)) (hE _ _ _ (.inl rfl)) fun w₁ hF => ?_
      exact (IHq e2 w₁ hF).mono (by omega)
  · obtain ⟨IHp, IHq⟩ := IH _ _ _ _ _ _ _ _ _ _ _ _ _ _ true _ _ _ _ rfl
    refine ⟨fun e2 w hF => ?_, fun e2 w hF => ?_⟩
    · rw [show 20 * (14 :: l).length + (20 + m) = (19 + (20 * l.length + (20 + m))) + 1 by simp; omega]
      refine goL_ld23 (p := p) hF rfl rfl (by k_ne) rfl rfl loud3 h2.p0 (hE _ _ _ (.inr (.inr (.inl rfl)))) (hE _ _ _ (.inr (.inr (.inl rfl)))) fun w₁ hF => ?_
      exact (IHp e2 w₁ hF).mono (by omega)
    · rw [show 20 * (14 :: l).length + (600 + m) = (19 + (20 * l.length + (600 + m))) + 1 by simp; omega]
      refine goL_ld23 (p := p) hF rfl rfl (by k_ne) rfl rfl loud3 h1.p0 (hE _ _ _ (.inr (.inr (.inl rfl)))) (hE _ _ _ (.inr (.inr (.inl rfl)))) fun w₁ hF => ?_
      exact (IHq e2 w₁ hF).mono (by omega)
  · obtain ⟨IHp, IHq⟩ := IH _ _ _ _ _ _ _ _ _ _ _ _ _ _ _ true _ _ _ rfl
    refine ⟨fun e2 w hF => ?_, fun e2 w hF => ?_⟩
    · rw [show 20 * (15 :: l).length + (20 + m) = (19 + (20 * l.length + (20 + m))) + 1 by simp; omega]
      refine goL_val hF rfl rfl (by k_ne) (run_move rfl rfl) fun w₁ hF => ?_
      exact (IHp e2 w₁ hF).mono (by omega)
    · rw [show 20 * (15 :: l).length + (600 + m) = (19 + (20 * l.length + (600 + m))) + 1 by simp; omega]
      refine goL_val hF rfl rfl (by k_ne) (run_move rfl rfl) fun w₁ hF => ?_
      exact (IHq e2 w₁ hF).mono (by omega)
  · obtain ⟨IHp, IHq⟩ := IH _ _ _ _ _ _ _ _ _ _ _ _ _ _ _ _ true _ _ rfl
    refine ⟨fun e2 => (by cases e2), fun e2 w hF => ?_⟩
    refine Goes.mono (n := (333 + (20 * l.length + (20 + m))) + 1) ?_ (by simp; omega)
    refine Goes.step rfl fun w₁ r => ?_
    replace hF := ar_rely hF r
    refine goes_call (c := body9) rfl rfl (by k_ne) rfl Try.func9 nm9 fb9 ⟨fun e he => by simp at he, ?_⟩
    simp only [nt9]
    walk_nrm
    refine Goes.mono (twoL (W := W) (A := A) (B := B) (m := 20 * l.length + (20 + m)) (j := i) (fun k i x h h' => hE _ _ _ (.inr (.inr (.inr ⟨h, h'⟩)))) hn5 (fun w₂ hF => ?_) hF) (by omega)
    exact IHp rfl w₂ hF
  · obtain ⟨IHp, IHq⟩ := IH _ _ _ _ _ _ _ _ _ _ _ _ _ _ _ _ _ true _ rfl
    refine ⟨fun e2 w hF => ?_, fun e2 w hF => ?_⟩
    · rw [show 20 * (17 :: l).length + (20 + m) = (19 + (20 * l.length + (20 + m))) + 1 by simp; omega]
      refine goL_val hF rfl rfl (by k_ne) (run_neq30 rfl rfl rfl) fun w₁ hF => ?_
      exact (IHp e2 w₁ hF).mono (by omega)
    · cases e2
  · obtain ⟨IHp, IHq⟩ := IH _ _ _ _ _ _ _ _ _ _ _ _ _ _ _ _ _ _ true rfl
    refine ⟨fun e2 w hF => ?_, fun e2 w hF => ?_⟩
    · rw [show 20 * (18 :: l).length + (20 + m) = (19 + (20 * l.length + (20 + m))) + 1 by simp; omega]
      refine goL_val hF rfl rfl (by k_ne) (run_pickF rfl rfl rfl) fun w₁ hF => ?_
      exact (IHp e2 w₁ hF).mono (by omega)
    · rw [show 20 * (18 :: l).length + (600 + m) = (19 + (20 * l.length + (600 + m))) + 1 by simp; omega]
      refine goL_val hF rfl rfl (by k_ne) (run_pickF rfl rfl rfl) fun w₁ hF => ?_
      exact (IHq e2 w₁ hF).mono (by omega)
set_option maxRecDepth 100000 in
set_option maxHeartbeats 8000000 in
/-- ████ THE REGION. ████ -/
theorem regGo (hE : ∀ k f x, (k = R1 ∨ k = R2 ∨ k = p ∨ (W.heap.size ≤ k ∧ k < W.heap.size + 3)) → E ⟨.cell ⟨k, f, none⟩, x, false⟩) (h1 : RFacts A B i n5 R1 R2 p W) (h2 : RFacts A B i n5 R1 R2 p (WT4 W A B i n5)) (hiJ : i < J) (hn5 : n5 = i % 5)
    (hgo : ∀ w₁, AtRel (WT4 W A B i n5) w₁ → Goes Try.prog true AtRel (DE E) Stop m (G ((base 3).at ⟨#[u 0, u 1, u 2, u 3, u 4, u 5, u 6, .pointer (some ⟨p, 0, none⟩), u 8, .slice (some ⟨R1, 0, none⟩) J J, u 10, .slice (some ⟨R2, 0, none⟩) J J, u 12, .int .i64 (i : Int), u 14, u 15, u 16, u 17, u 18, u 19, u 20, u 21, u 22, u 23, u 24, u 25, u 26, u 27, u 28, u 29, u 30, u 31, u 32, u 33, u 34, u 35, u 36, u 37, u 38, u 39, u 40, u 41, u 42, u 43, u 44, u 45, u 46, u 47, u 48, u 49, u 50, u 51, u 52, u 53, u 54, u 55, u 56, u 57, u 58, u 59, u 60, u 61, u 62, u 63, u 64, u 65, bif true then .slice (some ⟨R1, 0, none⟩) J J else u 66, bif true then .int .i64 (i : Int) else u 67, bif true then .pointer (some ⟨R1, i * 2, none⟩) else u 68, bif true then .agg #[.int .i64 (doV A B i), .string (jobS.extract 0 n5)] else u 69, bif true then .slice (some ⟨R2, 0, none⟩) J J else u 70, bif true then .int .i64 (i : Int) else u 71, bif true then .pointer (some ⟨R2, i * 2, none⟩) else u 72, bif true then .agg #[.int .i64 (doV A B i), .string (jobS.extract 0 n5)] else u 73, bif true then .bool false else u 74, bif true then .bool false else u 75, bif true then .slice (some ⟨R1, 0, none⟩) J J else u 76, bif true then .int .i64 (i : Int) else u 77, bif true then .pointer (some ⟨R1, i * 2, none⟩) else u 78, bif true then .agg #[.int .i64 (doV A B i), .string (jobS.extract 0 n5)] else u 79, bif true then .agg #[.int .i64 A, .int .i64 B] else u 80, bif true then .int .i64 (i : Int) else u 81, bif true then .agg #[.int .i64 (doV A B i), .string (jobS.extract 0 n5)] else u 82, bif true then .bool false else u 83, bif true then .bool false else u 84], []⟩ (.inRegion ops10 [] :: kk)) cs) w₁) {w : World} (hF : AtRel W w) :
    Goes Try.prog true AtRel (DE E) Stop ((1000 + m) + 1) (G ((base 3).at ⟨#[u 0, u 1, u 2, u 3, u 4, u 5, u 6, .pointer (some ⟨p, 0, none⟩), u 8, .slice (some ⟨R1, 0, none⟩) J J, u 10, .slice (some ⟨R2, 0, none⟩) J J, u 12, .int .i64 (i : Int), u 14, u 15, u 16, u 17, u 18, u 19, u 20, u 21, u 22, u 23, u 24, u 25, u 26, u 27, u 28, u 29, u 30, u 31, u 32, u 33, u 34, u 35, u 36, u 37, u 38, u 39, u 40, u 41, u 42, u 43, u 44, u 45, u 46, u 47, u 48, u 49, u 50, u 51, u 52, u 53, u 54, u 55, u 56, u 57, u 58, u 59, u 60, u 61, u 62, u 63, u 64, u 65, bif false then .slice (some ⟨R1, 0, none⟩) J J else u 66, bif false then .int .i64 (i : Int) else u 67, bif false then .pointer (some ⟨R1, i * 2, none⟩) else u 68, bif false then .agg #[.int .i64 (doV A B i), .string (jobS.extract 0 n5)] else u 69, bif false then .slice (some ⟨R2, 0, none⟩) J J else u 70, bif false then .int .i64 (i : Int) else u 71, bif false then .pointer (some ⟨R2, i * 2, none⟩) else u 72, bif false then .agg #[.int .i64 (doV A B i), .string (jobS.extract 0 n5)] else u 73, bif false then .bool false else u 74, bif false then .bool false else u 75, bif false then .slice (some ⟨R1, 0, none⟩) J J else u 76, bif false then .int .i64 (i : Int) else u 77, bif false then .pointer (some ⟨R1, i * 2, none⟩) else u 78, bif false then .agg #[.int .i64 (doV A B i), .string (jobS.extract 0 n5)] else u 79, bif false then .agg #[.int .i64 A, .int .i64 B] else u 80, bif false then .int .i64 (i : Int) else u 81, bif false then .agg #[.int .i64 (doV A B i), .string (jobS.extract 0 n5)] else u 82, bif false then .bool false else u 83, bif false then .bool false else u 84], []⟩ (.code (.region 10 ops10 true) :: kk)) cs) w := by
  refine goL_draw (n := 1000 + m) (W := W) hF fun t w₁ hF => ?_
  have key := lin_ind (md := .any) (ops := ops10) (Q := QR E W kk cs Stop m A B J R1 R2 p i n5 u) (fun Dd hs hi => by
    intro d0 d1 d2 d3 d4 d5 d6 d7 d8 d9 d10 d11 d12 d13 d14 d15 d16 d17 d18 hD
    subst hD
    obtain ⟨rfl, rfl, rfl, rfl, rfl, rfl, rfl, rfl, rfl, rfl, rfl, rfl, rfl, rfl, rfl, rfl, rfl, rfl, rfl⟩ := done10 d0 d1 d2 d3 d4 d5 d6 d7 d8 d9 d10 d11 d12 d13 d14 d15 d16 d17 d18 hi
    exact ⟨fun _ w hF => (hgo w hF).mono (by first | omega | (simp; done) | (simp; omega)), fun e => (by cases e)⟩) (fun Dd i l hs hi IH => reg_step hE h1 h2 hiJ hn5 hs hi IH) ops10.size t (Array.replicate ops10.size false) (by simp) (by simp [left, List.countP_replicate])
  have hl := key.2
  have e9 := size10
  have h := ((key.1 false false false false false false false false false false false false false false false false false false false (by rw [size10]; rfl)).2 rfl w₁ hF)
  exact h.mono (by omega)
end
end Go.Proofs.Ytapjmifhhbpikaa

/- The gang, pairs: GangSame's loop. (Printed by pl.py.) -/
set_option linter.unusedVariables false
set_option linter.unusedSimpArgs false
namespace Go.Proofs.Ytapjmifhhbpikaa
open Go.Conc Go.ConcN Go.ConcM Go.RowKit Go.Conc.Lib Go.ConcR.Gen
open Go.ConcR (KK wgBlock WgAt stA smA rd wr mk)
noncomputable def T3 : Code := rightC (rightC body3)
noncomputable def T3b : Code := rightC (rightC T3)
noncomputable def S3a : Code := firstC body3
noncomputable def S3b : Code := firstC (rightC body3)
noncomputable def S3c : Code := firstC T3
noncomputable def S3d : Code := firstC (rightC T3)
noncomputable def S3e : Code := firstC T3b
noncomputable def S3f : Code := firstC (firstC (rightC T3b))
noncomputable def LL3 : Code := (findLoop T3b).getD .skip
noncomputable def RR3 : Code := rightC (rightC T3b)
set_option maxRecDepth 100000 in
theorem body3_eq : body3 = .seq S3a (.seq S3b T3) := by
  simp only [S3a, S3b, T3, body3, firstC, rightC, findLoop, Try.f3, Option.getD_some]
set_option maxRecDepth 100000 in
theorem T3_eq : T3 = .seq S3c (.seq S3d T3b) := by
  simp only [S3c, S3d, T3b, T3, body3, firstC, rightC, findLoop, Try.f3, Option.getD_some]
set_option maxRecDepth 100000 in
theorem T3b_eq : T3b = .seq S3e (.seq (.seq S3f (.block 0 (.loop LL3))) RR3) := by
  simp only [S3e, S3f, LL3, RR3, T3b, T3, body3, firstC, rightC, findLoop, Try.f3, Option.getD_some]
noncomputable def H3 : Code := firstC LL3
noncomputable def M3 : Code := firstC (rightC LL3)
noncomputable def N3 : Code := rightC (rightC LL3)
noncomputable def C84 : Code := match M3 with | .block _ (.seq _ c) => c | c => c
set_option maxRecDepth 100000 in
theorem LL3_eq : LL3 = .seq H3 (.seq (.block 1 (.seq (.region 10 ops10 true) C84)) N3) := by
  simp only [H3, M3, N3, C84, LL3, T3b, T3, ops10, findDrawn, body3, firstC, rightC, findLoop, Try.f3, Option.getD_some]
theorem rowP_cells {w : World} {R J i : Nat} {A B : Int} (h : w.heap[R]? = some (.cells (rowP A B J fun _ => true) 30)) (hi : i < J) : w.cell? ⟨R, i * 2, none⟩ = some (.int .i64 (doV A B i)) ∧ w.cell? ⟨R, i * 2 + 1, none⟩ = some (.string (jobS.extract 0 (i % 5))) := by
  have h1 : (i * 2 + 1) / 2 = i := by omega
  have h2 : ¬ (i * 2 + 1) % 2 = 0 := by omega
  have h3 : (i * 2) / 2 = i := by omega
  have h4 : (i * 2) % 2 = 0 := by omega
  have g0 := rowP_get (A := A) (B := B) (J := J) (dn := fun _ => true) (i := i * 2) (by omega)
  have g1 := rowP_get (A := A) (B := B) (J := J) (dn := fun _ => true) (i := i * 2 + 1) (by omega)
  constructor
  · simp only [World.cell?, h]
    rw [g0]
    simp [cellP, h3, h4]
  · simp only [World.cell?, h]
    rw [g1]
    simp [cellP, h1, h2]
section
variable {J R1 R2 p : Nat} {A B : Int} {Shun : Loc → Prop} {w0 : World} {Post : (Loc → Prop) → Goroutine → World → Prop}
set_option maxRecDepth 100000 in
set_option maxHeartbeats 16000000 in
/-- The rounds that are left of GangSame's loop. -/
theorem sameRounds (hJ : J ≤ 256) (l1 : R1 < w0.heap.size) (l2 : R2 < w0.heap.size) (l3 : p < w0.heap.size) (hS : LowS Shun w0.heap.size) (n1 : ∀ i, ¬ Shun (.cell ⟨R1, i, none⟩)) (n2 : ∀ i, ¬ Shun (.cell ⟨R2, i, none⟩)) (n3 : ∀ i, ¬ Shun (.cell ⟨p, i, none⟩))
    (g1 : w0.heap[R1]? = some (.cells (rowP A B J fun _ => true) 30)) (g2 : w0.heap[R2]? = some (.cells (rowP A B J fun _ => true) 30)) (g3 : w0.heap[p]? = some (.cells #[.int .i64 A, .int .i64 B] 23))
    (hend : ∀ w' a todo, Aft w0 w' 0 → a.defers = [] → a.tmps.getD 8 undef = .bool true → Reach Try.prog Shun (G {(base 3).at a todo with mode := .returning} []) w' Post) :
    ∀ (r i : Nat), i + r = J → ∀ (s0 s1 s2 s3 s4 s5 s6 s8 s10 s12 s14 s15 s16 s17 s18 s19 s20 s21 s22 s23 s24 s25 s26 s27 s28 s29 s30 s31 s32 s33 s34 s35 s36 s37 s38 s39 s40 s41 s42 s43 s44 s45 s46 s47 s48 s49 s50 s51 s52 s53 s54 s55 s56 s57 s58 s59 s60 s61 s62 s63 s64 s65 s66 s67 s68 s69 s70 s71 s72 s73 s74 s75 s76 s77 s78 s79 s80 s81 s82 s83 s84 : Value) (w : World), Aft w0 w 0 →
      Reach Try.prog Shun (G ((base 3).at ⟨#[s0, s1, s2, s3, s4, s5, s6, .pointer (some ⟨p, 0, none⟩), s8, .slice (some ⟨R1, 0, none⟩) J J, s10, .slice (some ⟨R2, 0, none⟩) J J, s12, .int .i64 (i : Int), s14, s15, s16, s17, s18, s19, s20, s21, s22, s23, s24, s25, s26, s27, s28, s29, s30, s31, s32, s33, s34, s35, s36, s37, s38, s39, s40, s41, s42, s43, s44, s45, s46, s47, s48, s49, s50, s51, s52, s53, s54, s55, s56, s57, s58, s59, s60, s61, s62, s63, s64, s65, s66, s67, s68, s69, s70, s71, s72, s73, s74, s75, s76, s77, s78, s79, s80, s81, s82, s83, s84], []⟩ [.code LL3, .inLoop LL3, .inBlock 0, .code RR3]) []) w Post := by
  intro r
  induction r with
  | zero =>
    intro i hi s0 s1 s2 s3 s4 s5 s6 s8 s10 s12 s14 s15 s16 s17 s18 s19 s20 s21 s22 s23 s24 s25 s26 s27 s28 s29 s30 s31 s32 s33 s34 s35 s36 s37 s38 s39 s40 s41 s42 s43 s44 s45 s46 s47 s48 s49 s50 s51 s52 s53 s54 s55 s56 s57 s58 s59 s60 s61 s62 s63 s64 s65 s66 s67 s68 s69 s70 s71 s72 s73 s74 s75 s76 s77 s78 s79 s80 s81 s82 s83 s84 w hA
    obtain rfl : i = J := by omega
    refine Reach.walk (B := w.heap.size) (n := 60 + 0) (Nat.le_refl _) (Stop := fun g w' => w.heap.size ≤ w'.heap.size ∧ Reach Try.prog Shun g w' Post) ?_ (fun _ _ h => h)
    have hF := atRel_refl w
    refine goL0 (n := 60) (m := 0) ?_
    generalize hX : Item.code LL3 = X
    simp only [LL3, T3b, T3, body3, firstC, rightC, findLoop, Try.f3, Option.getD_some] at hX
    subst hX
    have hlt : ¬ ((i : Int) < (i : Int)) := by omega
    repeat w_but "RR3" ar_rely
    generalize hX : Item.code RR3 = X
    simp only [RR3, T3b, T3, body3, firstC, rightC, findLoop, Try.f3, Option.getD_some] at hX
    subst hX
    repeat w_go ar_rely
    refine Goes.stop (fun _ r₁ => ?_)
    replace hF := ar_rely hF r₁
    clear r₁
    refine Goes.stop (fun w₁ r₁ => ?_)
    replace hF := ar_rely hF r₁
    clear r₁
    exact ⟨Nat.le_of_eq (at_size hF).symm, hend w₁ _ _ (hA.at hF) rfl rfl⟩
  | succ r ih =>
    intro i hi s0 s1 s2 s3 s4 s5 s6 s8 s10 s12 s14 s15 s16 s17 s18 s19 s20 s21 s22 s23 s24 s25 s26 s27 s28 s29 s30 s31 s32 s33 s34 s35 s36 s37 s38 s39 s40 s41 s42 s43 s44 s45 s46 s47 s48 s49 s50 s51 s52 s53 s54 s55 s56 s57 s58 s59 s60 s61 s62 s63 s64 s65 s66 s67 s68 s69 s70 s71 s72 s73 s74 s75 s76 s77 s78 s79 s80 s81 s82 s83 s84 w hA
    have hin : i < J := by omega
    have hz := hA.size
    have hlt : ((i : Int) < (J : Int)) := by omega
    have r1 := (hA.old R1 l1).trans g1
    have r2 := (hA.old R2 l2).trans g2
    have r3 := (hA.old p l3).trans g3
    have w4 := WT4_aft (W := w) (A := A) (B := B) (j := i) (n5 := i % 5)
    have hz4 := w4.size
    have q1 := (w4.old R1 (by omega)).trans r1
    have q2 := (w4.old R2 (by omega)).trans r2
    have q3 := (w4.old p (by omega)).trans r3
    refine Reach.walk (B := w.heap.size + 3) (n := 30 + ((1000 + 60) + 1)) (Nat.le_add_right _ _) (Stop := fun g w' => w.heap.size + 3 ≤ w'.heap.size ∧ Reach Try.prog Shun g w' Post) ?_ (fun _ _ h => h)
    have hF := atRel_refl w
    refine goL0 (n := 30) (m := (1000 + 60) + 1) ?_
    generalize hL : Item.code LL3 = X
    rw [LL3_eq] at hL
    subst hL
    generalize q0 : H3 = X0
    simp only [H3, LL3, T3b, T3, body3, firstC, rightC, findLoop, Try.f3, Option.getD_some] at q0
    subst q0
    repeat w_go ar_rely
    refine Goes.stop (fun _ r₁ => ?_)
    replace hF := ar_rely hF r₁
    clear r₁
    refine regGo (A := A) (B := B) (J := J) (R1 := R1) (R2 := R2) (p := p) (i := i) (n5 := i % 5) (m := 60) (W := w) (u := (fun k => (#[s0, s1, s2, s3, s4, s5, s6, .pointer (some ⟨p, 0, none⟩), s8, .slice (some ⟨R1, 0, none⟩) J J, s10, .slice (some ⟨R2, 0, none⟩) J J, s12, .int .i64 (i : Int), s14, s15, s16, s17, s18, s19, s20, s21, s22, s23, s24, s25, s26, s27, s28, s29, s30, s31, s32, s33, s34, s35, s36, s37, s38, s39, s40, s41, s42, s43, s44, s45, s46, s47, s48, s49, s50, s51, s52, s53, s54, s55, s56, s57, s58, s59, .int .i64 (i : Int), .slice (some ⟨R1, 0, none⟩) J J, .int .i64 (J : Int), .bool true, s64, s65, s66, s67, s68, s69, s70, s71, s72, s73, s74, s75, s76, s77, s78, s79, s80, s81, s82, s83, s84] : Array Value).getD k undef)) (fun k f x h => ?_) ⟨(rowP_cells r1 hin).1, (rowP_cells r1 hin).2, (rowP_cells r2 hin).1, (rowP_cells r2 hin).2, r3⟩ ⟨(rowP_cells q1 hin).1, (rowP_cells q1 hin).2, (rowP_cells q2 hin).1, (rowP_cells q2 hin).2, q3⟩ hin rfl (fun w₁ hF => ?_) hF
    · refine evP_cell (fun hs => ?_) (fun h : NoF _ => h) (by show k < _; omega)
      rcases h with rfl | rfl | rfl | ⟨ha, hb⟩
      · exact n1 _ hs
      · exact n2 _ hs
      · exact n3 _ hs
      · exact hS.not (by omega) hs
    have wi : IntKind.i64.wrap ((i : Int) + 1) = ((i + 1 : Nat) : Int) := by rw [IntKind.wrap_i64]; omega
    refine goL0 (n := 60) (m := 0) ?_
    simp only [cond_true]
    walk_nrm
    generalize q0 : C84 = X0
    simp only [C84, M3, LL3, T3b, T3, body3, firstC, rightC, findLoop, Try.f3, Option.getD_some] at q0
    subst q0
    generalize q1 : N3 = X1
    simp only [N3, LL3, T3b, T3, body3, firstC, rightC, findLoop, Try.f3, Option.getD_some] at q1
    subst q1
    repeat w_nl ar_rely
    u_c stepG_inLoop ar_rely hF
    refine Goes.stop (fun _ r₁ => ?_)
    replace hF := ar_rely hF r₁
    clear r₁
    refine Goes.stop (fun w₃ r₁ => ?_)
    replace hF := ar_rely hF r₁
    clear r₁
    have hs3 := at_size hF
    refine ⟨by omega, ?_⟩
    exact ih (i + 1) (by omega) _ _ _ _ _ _ _ _ _ _ _ _ _ _ _ _ _ _ _ _ _ _ _ _ _ _ _ _ _ _ _ _ _ _ _ _ _ _ _ _ _ _ _ _ _ _ _ _ _ _ _ _ _ _ _ _ _ _ _ _ _ _ _ _ _ _ _ _ _ _ _ _ _ _ _ _ _ _ _ _ _ w₃ ((hA.trans w4).at hF |>.mono (Nat.zero_le _))
end
end Go.Proofs.Ytapjmifhhbpikaa

/- The gang, pairs: GangSame beside leavers. (Printed by pm.py.) -/
set_option linter.unusedVariables false
set_option linter.unusedSimpArgs false
namespace Go.Proofs.Ytapjmifhhbpikaa
open Go.Conc Go.ConcN Go.ConcM Go.RowKit Go.Conc.Lib Go.ConcR.Gen
open Go.ConcR (KK wgBlock WgAt stA smA rd wr mk)
theorem nm8 : (Try.f8.name == "runtime.NumGoroutine") = false := by kernel_rfl
theorem fb8 : Try.f8.body = some body8 := by simp only [body8, Try.f8, Option.getD_some]
theorem nt8 : Try.f8.ntmps = 20 := by kernel_rfl
theorem fb3 : Try.f3.body = some body3 := by simp only [body3, Try.f3, Option.getD_some]
theorem nt3 : Try.f3.ntmps = 85 := by kernel_rfl
section
variable {Shun : Loc → Prop} {w : World} {Post : (Loc → Prop) → Goroutine → World → Prop} {A B : Int}
set_option maxRecDepth 100000 in
set_option maxHeartbeats 16000000 in
/-- ████ GangSame. ████ -/
theorem sameLawReach {J x1 x2 N1 N2 : Nat} (hJ : J ≤ 256) (e0 : IntKind.i64.wrap (J : Int) = (J : Int)) (e2 : IntKind.i64.wrap (1 + IntKind.i64.wrap ((x1 : Int).tmod 64)) = (N1 : Int)) (e3 : IntKind.i64.wrap (1 + IntKind.i64.wrap ((x2 : Int).tmod 64)) = (N2 : Int)) (hM1 : 1 ≤ N1 ∧ N1 ≤ 64) (hM2 : 1 ≤ N2 ∧ N2 ≤ 64) (hS : LowS Shun w.heap.size)
    (hend : ∀ S' w' a todo, Aft w w' 0 → LowS S' w'.heap.size → a.defers = [] → a.tmps.getD 8 undef = .bool true → Post S' (G {(base 3).at a todo with mode := .returning} []) w') :
    Reach Try.prog Shun (G ((base 3).at ⟨#[.int .u8 (J : Int), .int .u8 (x1 : Int), .int .u8 (x2 : Int), .agg #[.int .i64 A, .int .i64 B], undef, undef, undef, undef, undef, undef, undef, undef, undef, undef, undef, undef, undef, undef, undef, undef, undef, undef, undef, undef, undef, undef, undef, undef, undef, undef, undef, undef, undef, undef, undef, undef, undef, undef, undef, undef, undef, undef, undef, undef, undef, undef, undef, undef, undef, undef, undef, undef, undef, undef, undef, undef, undef, undef, undef, undef, undef, undef, undef, undef, undef, undef, undef, undef, undef, undef, undef, undef, undef, undef, undef, undef, undef, undef, undef, undef, undef, undef, undef, undef, undef], []⟩ [.code body3]) []) w Post := by
  refine Reach.walk (B := w.heap.size + 1) (n := 30 + (30 + 1)) (Nat.le_add_right _ _) (Stop := fun g w' => w.heap.size + 1 ≤ w'.heap.size ∧ Reach Try.prog Shun g w' Post) ?_ (fun _ _ h => h)
  have hF := atRel_refl w
  refine goL0 (n := 30) (m := 30 + 1) ?_
  rw [body3_eq]
  generalize q0 : S3a = X0
  generalize q1 : S3b = X1
  simp only [S3a, S3b, T3b, T3, body3, firstC, rightC, findLoop, Try.f3, Option.getD_some] at q0 q1
  subst q0; subst q1
  repeat w_go ar_rely
  refine Goes.stop (fun _ r₁ => ?_)
  replace hF := ar_rely hF r₁
  clear r₁
  refine goL_new (n := 30) (v := fun s => .pointer (some ⟨s, 0, none⟩)) hF rfl rfl (by k_ne) (run_box23 rfl rfl) fun _ hF => ?_
  refine goL0 (n := 30) (m := 0) ?_
  walk_nrm
  repeat w_go ar_rely
  u_in ar_rely hF
  refine goes_call (c := body7) rfl rfl (by k_ne) rfl Try.func7 nm7 fb7 ⟨by u_nil, ?_⟩
  simp only [nt7]
  walk_nrm
  refine Goes.stop (fun _ r₁ => ?_)
  replace hF := ar_rely hF r₁
  clear r₁
  refine Goes.stop (fun w₁ r₁ => ?_)
  replace hF := ar_rely hF r₁
  clear r₁
  have hs1 : w₁.heap.size = w.heap.size + 1 := (at_size hF).trans (size_al _ _)
  refine ⟨by omega, ?_⟩
  refine awakeReach (hS.mono (by omega)) ?_
  intro S2 w2 hA2 hL2 hN2
  have hP2 : w2.heap[w.heap.size]? = some (.cells #[.int .i64 A, .int .i64 B] 23) := by
    rw [hA2.old _ (by omega)]
    obtain ⟨d, rfl⟩ := hF
    exact alloc_at_new _ _
  replace hA2 : Aft w w2 10 := ((Aft.alloc _ _).at hF).trans hA2
  rw [hs1] at hN2
  have hnp2 : ∀ i, ¬ S2 (.cell ⟨w.heap.size, i, none⟩) := fun i => hN2.not (hS.not (Nat.le_refl _)) (by omega)
  replace hN2 := NewS.trans (NewS.refl (Shun := Shun) (s := w.heap.size)) hN2 (by omega)
  clear hF hs1
  have hz2 := hA2.size
  refine Reach.walk (B := w2.heap.size) (n := 90 + (60 + 1)) (Nat.le_refl _) (Stop := fun g w' => w2.heap.size ≤ w'.heap.size ∧ Reach Try.prog S2 g w' Post) ?_ (fun _ _ h => h)
  have hF := atRel_refl w2
  refine goL0 (n := 90) (m := 60 + 1) ?_
  walk_nrm
  repeat w_but "T3" ar_rely
  rw [T3_eq]
  generalize q0 : S3c = X0
  generalize q1 : S3d = X1
  simp only [S3c, S3d, T3b, T3, body3, firstC, rightC, findLoop, Try.f3, Option.getD_some] at q0 q1
  subst q0; subst q1
  repeat w_go ar_rely
  refine Goes.stop (fun _ r₁ => ?_)
  replace hF := ar_rely hF r₁
  clear r₁
  refine goL_ld23 (n := 60) (p := w.heap.size) hF rfl rfl (by k_ne) rfl rfl loud3 hP2 (evP_cell (hnp2 0) (fun h => h) (show w.heap.size < w2.heap.size by omega)) (evP_cell (hnp2 1) (fun h => h) (show w.heap.size < w2.heap.size by omega)) fun _ hF => ?_
  refine goL0 (n := 60) (m := 0) ?_
  walk_nrm
  repeat w_go ar_rely
  u_in ar_rely hF
  refine goes_call (c := body8) rfl rfl (by k_ne) rfl Try.func8 nm8 fb8 ⟨by u_nil, ?_⟩
  simp only [nt8]
  walk_nrm
  refine Goes.stop (fun _ r₁ => ?_)
  replace hF := ar_rely hF r₁
  clear r₁
  refine Goes.stop (fun w₁ r₁ => ?_)
  replace hF := ar_rely hF r₁
  clear r₁
  have hs1 : w₁.heap.size = w2.heap.size := at_size hF
  refine ⟨by omega, ?_⟩
  refine eachReachP (A := A) (B := B) (J := J) (N := N1) hJ hM1.1 hM1.2 (hL2.mono (by omega)) ?_
  intro S3 w3 hA3 hL3 hN3 hR3
  have hrn3 : ∀ i, ¬ S3 (.cell ⟨w2.heap.size + 1, i, none⟩) := fun i h => by
    rcases hN3 _ h with h1 | ⟨ad, e, hb⟩
    · exact hL2.not (by omega) h1
    · cases e; simp at hb; omega
  replace hN3 : NewS S2 S3 w₁.heap.size := fun l hl => (hN3 l hl).imp id fun ⟨ad, e, hb⟩ => ⟨ad, e, by omega⟩
  replace hA3 : Aft w2 w3 8 := ((Aft.refl _).at hF).trans hA3
  clear hF
  rw [hs1] at hN3 hR3 ⊢
  clear hs1
  have hP3 : w3.heap[w.heap.size]? = some (.cells #[.int .i64 A, .int .i64 B] 23) := (hA3.old _ (by omega)).trans hP2
  have hnp3 : ∀ i, ¬ S3 (.cell ⟨w.heap.size, i, none⟩) := fun i => hN3.not (hnp2 i) (by omega)
  have hz3 := hA3.size
  refine Reach.walk (B := w3.heap.size) (n := 90 + (60 + 1)) (Nat.le_refl _) (Stop := fun g w' => w3.heap.size ≤ w'.heap.size ∧ Reach Try.prog S3 g w' Post) ?_ (fun _ _ h => h)
  have hF := atRel_refl w3
  refine goL0 (n := 90) (m := 60 + 1) ?_
  walk_nrm
  repeat w_go ar_rely
  refine Goes.stop (fun _ r₁ => ?_)
  replace hF := ar_rely hF r₁
  clear r₁
  refine goL_ld23 (n := 60) (p := w.heap.size) hF rfl rfl (by k_ne) rfl rfl loud3 hP3 (evP_cell (hnp3 0) (fun h => h) (show w.heap.size < w3.heap.size by omega)) (evP_cell (hnp3 1) (fun h => h) (show w.heap.size < w3.heap.size by omega)) fun _ hF => ?_
  refine goL0 (n := 60) (m := 0) ?_
  walk_nrm
  repeat w_go ar_rely
  u_in ar_rely hF
  refine goes_call (c := body8) rfl rfl (by k_ne) rfl Try.func8 nm8 fb8 ⟨by u_nil, ?_⟩
  simp only [nt8]
  walk_nrm
  refine Goes.stop (fun _ r₁ => ?_)
  replace hF := ar_rely hF r₁
  clear r₁
  refine Goes.stop (fun w₁ r₁ => ?_)
  replace hF := ar_rely hF r₁
  clear r₁
  have hs1 : w₁.heap.size = w3.heap.size := at_size hF
  refine ⟨by omega, ?_⟩
  refine eachReachP (A := A) (B := B) (J := J) (N := N2) hJ hM2.1 hM2.2 (hL3.mono (by omega)) ?_
  intro S4 w4 hA4 hL4 hN4 hR4
  have hrn4 : ∀ i, ¬ S4 (.cell ⟨w3.heap.size + 1, i, none⟩) := fun i h => by
    rcases hN4 _ h with h1 | ⟨ad, e, hb⟩
    · exact hL3.not (by omega) h1
    · cases e; simp at hb; omega
  replace hN4 : NewS S3 S4 w₁.heap.size := fun l hl => (hN4 l hl).imp id fun ⟨ad, e, hb⟩ => ⟨ad, e, by omega⟩
  replace hA4 : Aft w3 w4 8 := ((Aft.refl _).at hF).trans hA4
  clear hF
  rw [hs1] at hN4 hR4 ⊢
  clear hs1
  have hP4 : w4.heap[w.heap.size]? = some (.cells #[.int .i64 A, .int .i64 B] 23) := (hA4.old _ (by omega)).trans hP3
  have hnp4 : ∀ i, ¬ S4 (.cell ⟨w.heap.size, i, none⟩) := fun i => hN4.not (hnp3 i) (by omega)
  have hz4 := hA4.size
  have hrn34 : ∀ i, ¬ S4 (.cell ⟨w2.heap.size + 1, i, none⟩) := fun i => hN4.not (hrn3 i) (by omega)
  replace hR3 := (hA4.old _ (by omega)).trans hR3
  refine Reach.walk (B := w4.heap.size) (n := 90 + 0) (Nat.le_refl _) (Stop := fun g w' => w4.heap.size ≤ w'.heap.size ∧ Reach Try.prog S4 g w' Post) ?_ (fun _ _ h => h)
  have hF := atRel_refl w4
  refine goL0 (n := 90) (m := 0) ?_
  walk_nrm
  repeat w_but "T3b" ar_rely
  rw [T3b_eq]
  generalize q0 : S3e = X0
  generalize q1 : S3f = X1
  simp only [S3e, S3f, T3b, T3, body3, firstC, rightC, findLoop, Try.f3, Option.getD_some] at q0 q1
  subst q0; subst q1
  repeat w_but "code.loop" ar_rely
  u_c stepG_loop ar_rely hF
  refine Goes.stop (fun _ r₁ => ?_)
  replace hF := ar_rely hF r₁
  clear r₁
  refine Goes.stop (fun w₁ r₁ => ?_)
  replace hF := ar_rely hF r₁
  clear r₁
  have hs1 : w₁.heap.size = w4.heap.size := at_size hF
  refine ⟨by omega, ?_⟩
  have hA4' : Aft w w₁ 0 := ((((hA2.trans hA3).trans hA4)).at hF).mono (Nat.zero_le _)
  have hh : ∀ k : Nat, w₁.heap[k]? = w4.heap[k]? := fun k => by obtain ⟨d, rfl⟩ := hF; rfl
  refine sameRounds (J := J) (R1 := w2.heap.size + 1) (R2 := w3.heap.size + 1) (p := w.heap.size) (A := A) (B := B) (w0 := w₁) hJ (by omega) (by omega) (by omega) (hL4.mono (by omega)) hrn34 hrn4 hnp4 ((hh _).trans hR3) ((hh _).trans hR4) ((hh _).trans hP4) (fun w' a todo hA ha ht => ?_) J 0 (by omega) _ _ _ _ _ _ _ _ _ _ _ _ _ _ _ _ _ _ _ _ _ _ _ _ _ _ _ _ _ _ _ _ _ _ _ _ _ _ _ _ _ _ _ _ _ _ _ _ _ _ _ _ _ _ _ _ _ _ _ _ _ _ _ _ _ _ _ _ _ _ _ _ _ _ _ _ _ _ _ _ _ _ (Aft.refl _)
  exact Reach.done (hend S4 w' a todo ((hA4'.trans hA).mono (Nat.zero_le _)) ((hL4.mono (by have := hA.size; omega))) ha ht)
end
end Go.Proofs.Ytapjmifhhbpikaa

/- The gang, pairs: GangSame's run. -/
set_option linter.unusedVariables false
set_option linter.unusedSimpArgs false
namespace Go.Proofs.Ytapjmifhhbpikaa
open Go.Conc Go.ConcN Go.ConcM Go.RowKit Go.Conc.Lib Go.ConcR.Gen
open Go.ConcR (KK wgBlock WgAt stA smA rd wr mk)
set_option maxRecDepth 100000 in
theorem tm3 (a b c d : Value) : #[a, b, c, d] ++ Array.replicate (85 - (#[a, b, c, d] : Array Value).size) undef = #[a, b, c, d, undef, undef, undef, undef, undef, undef, undef, undef, undef, undef, undef, undef, undef, undef, undef, undef, undef, undef, undef, undef, undef, undef, undef, undef, undef, undef, undef, undef, undef, undef, undef, undef, undef, undef, undef, undef, undef, undef, undef, undef, undef, undef, undef, undef, undef, undef, undef, undef, undef, undef, undef, undef, undef, undef, undef, undef, undef, undef, undef, undef, undef, undef, undef, undef, undef, undef, undef, undef, undef, undef, undef, undef, undef, undef, undef, undef, undef, undef, undef, undef, undef] := by
  simp only [List.size_toArray, List.length_cons, List.length_nil, Nat.reduceAdd, Nat.reduceSub, Array.replicate_succ, Array.replicate_zero, List.push_toArray, List.append_toArray, List.nil_append, List.cons_append]
set_option maxRecDepth 100000 in
set_option maxHeartbeats 1000000 in
/-- ████ GangSame's RUN, ON WHATEVER TAPE. ████ -/
theorem same_run {W : World} {x0 x1 x2 : Nat} {A B : Int} (hx0 : x0 < 256) (hx1 : x1 < 256) (hx2 : x2 < 256) :
    ∃ M last o w' t', runNT Try.prog (M + 1) (solo (G (Frame.enter Try.prog 3 #[.int .u8 (x0 : Int), .int .u8 (x1 : Int), .int .u8 (x2 : Int), .agg #[.int .i64 A, .int .i64 B]] .normal) []) W) #[] = (.ended o w', t') ∧
      runN Try.prog M (solo (G (Frame.enter Try.prog 3 #[.int .u8 (x0 : Int), .int .u8 (x1 : Int), .int .u8 (x2 : Int), .agg #[.int .i64 A, .int .i64 B]] .normal) []) W) = .next last ∧ step Try.prog last = .ended o w' ∧ Good Try.prog (fun v w' => v = .bool true ∧ Aft W w' 0) last o w' t' := by
  rw [enter_at (c := body3) _ Try.func3 fb3, nt3, tm3]
  refine reach_ends ?_
  have b1 := Nat.mod_lt x1 (show 0 < 64 by omega)
  have b2 := Nat.mod_lt x2 (show 0 < 64 by omega)
  refine sameLawReach (J := x0) (N1 := 1 + x1 % 64) (N2 := 1 + x2 % 64) (by omega) (by rw [IntKind.wrap_i64]; omega) (by rw [show (64 : Int) = ((64 : Nat) : Int) from rfl, wrap_u8 x1 64 hx1 (by omega), IntKind.wrap_i64]; omega) (by rw [show (64 : Int) = ((64 : Nat) : Int) from rfl, wrap_u8 x2 64 hx2 (by omega), IntKind.wrap_i64]; omega)
    ⟨by omega, by omega⟩ ⟨by omega, by omega⟩ (fun _ h => h.elim) fun S' w' a todo hA hL hd ht => ?_
  refine ⟨0, Goes.stop fun w₁ r => ⟨rfl, .bool true, #[], ?_, by simp, rfl, hA.at r⟩⟩
  obtain ⟨tm, ds⟩ := a
  replace hd : ds = [] := hd
  replace ht : tm.getD 8 undef = .bool true := ht
  subst hd
  have hres : Try.f3.results = #[.tmp 8] := by kernel_rfl
  simp [G, stepG, unwind, doReturn, results, Frame.at, base, Try.func3, hres, seen, GStep.after]
  simpa using ht
end Go.Proofs.Ytapjmifhhbpikaa

/- Gangs within gangs: The gang: steps of the program's own code in company: loads, stores, boxes, calls through a function value, a receive, a send. -/
import Derived.Test.YtapjmifhhbpikaaXb
set_option linter.unusedVariables false
set_option linter.unusedSimpArgs false
namespace Go.Proofs.Ytapjmifhhbpikaa
open Go.Conc Go.ConcN Go.ConcM Go.RowKit Go.Conc.Lib Go.ConcR.Gen
open Go.ConcR (KK wgBlock WgAt stA smA rd wr mk)
theorem loud23 : (Try.prog.funcs[(baseD 23).fn]?).any (·.norace) = false := by kernel_rfl
theorem loud21 : (Try.prog.funcs[(base 21).fn]?).any (·.norace) = false := by kernel_rfl
theorem loud18 : (Try.prog.funcs[(base 18).fn]?).any (·.norace) = false := by kernel_rfl
theorem loud11 : (Try.prog.funcs[(base 11).fn]?).any (·.norace) = false := by kernel_rfl
theorem loud9 : (Try.prog.funcs[(base 9).fn]?).any (·.norace) = false := by kernel_rfl
theorem loud17 : (Try.prog.funcs[(base 17).fn]?).any (·.norace) = false := by kernel_rfl
section
variable {main : Bool} {b : Frame} {a : Act} {kk : List Item} {cs : List Frame} {w : World} {ops : Array Oper} {i : Nat} {rest : List Nat} {o : Oper}
/-- THE CALL OF A FUNCTION VALUE. -/
theorem goes_callv {x : Operand} {args : Array Operand} {ats : Array TypeId} {f : FuncId} {fn : Func} {c : Code} {first cap : Array Value} {K : Goroutine → World → Array Event → Prop}
    (ho : ops[i]? = some o) (hw : Region.wanted o (yielded ops a.tmps) = true) (hk : b.kind ≠ .early) (hop : o.op = .call { callee := .value x, args, argTypes := ats }) (hx : a.eval x = .func (.func f) first cap)
    (hf : Try.prog.funcs[f]? = some fn) (hname : (fn.name == "runtime.NumGoroutine") = false) (hb : fn.body = some c)
    (h : K (G ((base f).at { tmps := (first ++ args.map a.eval ++ cap) ++ Array.replicate (fn.ntmps - (first ++ args.map a.eval ++ cap).size) undef, defers := [] } [.code c]) (b.at a (.inRegion ops (i :: rest) :: kk) :: cs)) w #[]) :
    (stepG Try.prog main (G (b.at a (.inRegion ops (i :: rest) :: kk)) cs) w).goes K := by
  have h1 : ¬ fn.name = "runtime.NumGoroutine" := by simpa using hname
  have h2 : ¬ fn.body = none := by rw [hb]; simp
  have hr : (execOp a.eval o).run Try.prog w = .ok (.enter f (first ++ args.map a.eval ++ cap)) w := by
    unfold execOp
    simp [hop, resolve, Deferred.ofValue, hx, invoke, callFunc, hf, h1, h2]
  have he : (execOp a.eval o).events Try.prog w #[] = #[] := by
    unfold execOp
    simp [hop, resolve, Deferred.ofValue, hx, invoke, callFunc, hf, h1, h2]
  rw [stepG_enter ho hw hk hr, enter_at _ hf hb]
  have hl : listed Try.prog b.fn a o w = #[] := by unfold listed; rw [he]; exact seen_none _ _
  rw [hl]
  exact h
/-- A plain load of one cell. -/
theorem stepG_ld {ty : TypeId} {x : Operand} (ho : ops[i]? = some o) (hw : Region.wanted o (yielded ops a.tmps) = true) (hk : b.kind ≠ .early) (hop : o.op = .load ty x) (hty : ty = 3 ∨ ty = 53 ∨ ty = 52 ∨ ty = 36 ∨ ty = 33 ∨ ty = 31 ∨ ty = 25 ∨ ty = 5)
    {ad : Addr} {v : Value} (hx : a.eval x = .pointer (some ad)) (hc : w.cell? ad = some v) (hq : (Try.prog.funcs[b.fn]?).any (·.norace) = false) :
    stepG Try.prog main (G (b.at a (.inRegion ops (i :: rest) :: kk)) cs) w = .go (G (b.at (a.put o.dst v) (.inRegion ops rest :: kk)) cs) w #[⟨.cell ad, false, false⟩] := by
  have hr : (execOp a.eval o).run Try.prog w = .ok (.value v) w := by
    unfold execOp
    simp only [hop, hx]
    rcases hty with rfl | rfl | rfl | rfl | rfl | rfl | rfl | rfl <;> simp [go_sem, hc]
  have he : (execOp a.eval o).events Try.prog w #[] = #[⟨.cell ad, false, false⟩] := by
    unfold execOp
    simp only [hop, hx]
    rcases hty with rfl | rfl | rfl | rfl | rfl | rfl | rfl | rfl <;> simp [go_sem, hc]
  rw [stepG_value ho hw hk hr]
  unfold listed
  rw [he, seen_eq hq (by simp)]
theorem stepG_st3 {x y : Operand} (ho : ops[i]? = some o) (hw : Region.wanted o (yielded ops a.tmps) = true) (hk : b.kind ≠ .early) (hop : o.op = .store 3 x y)
    {ad : Addr} {v : Int} {u : Value} (hx : a.eval x = .pointer (some ad)) (hy : a.eval y = .int .i64 v) (hc : w.cell? ad = some u) (hz : w.frozen? ad = false) (hq : (Try.prog.funcs[b.fn]?).any (·.norace) = false) :
    stepG Try.prog main (G (b.at a (.inRegion ops (i :: rest) :: kk)) cs) w = .go (G (b.at (a.put o.dst undef) (.inRegion ops rest :: kk)) cs) (w.setCell ad (.int .i64 v)) #[⟨.cell ad, true, false⟩] := by
  have hr : (execOp a.eval o).run Try.prog w = .ok .skip (w.setCell ad (.int .i64 v)) := by
    unfold execOp
    simp only [hop, hx, hy]
    simp [go_sem, stored, hc, hz]
  have he : (execOp a.eval o).events Try.prog w #[] = #[⟨.cell ad, true, false⟩] := by
    unfold execOp
    simp only [hop, hx, hy]
    simp [go_sem, storedEv, hc, hz]
  rw [stepG_none ho hw hk hr]
  unfold listed
  rw [he, seen_eq hq (by simp)]
/-- THE BOX OF A Job: a block of two ints. -/
theorem stepG_box23 {x : Operand} (ho : ops[i]? = some o) (hw : Region.wanted o (yielded ops a.tmps) = true) (hk : b.kind ≠ .early) (hop : o.op = .box 23 x) {A B : Value} (hx : a.eval x = .agg #[A, B]) :
    stepG Try.prog main (G (b.at a (.inRegion ops (i :: rest) :: kk)) cs) w = .go (G (b.at (a.put o.dst (.pointer (some ⟨w.heap.size, 0, none⟩))) (.inRegion ops rest :: kk)) cs) (w.alloc (.cells #[A, B] 23)) #[] := by
  have hr : (execOp a.eval o).run Try.prog w = .ok (.value (.pointer (some ⟨w.heap.size, 0, none⟩))) (w.alloc (.cells #[A, B] 23)) := by
    unfold execOp
    simp only [hop, hx]
    simp [go_sem]
  have he : (execOp a.eval o).events Try.prog w #[] = #[] := by
    unfold execOp
    simp only [hop, hx]
    simp [go_sem]
  rw [stepG_value ho hw hk hr]
  unfold listed
  rw [he]
  rw [seen_none]
/-- A receive. -/
theorem stepG_recv {x : Operand} (ho : ops[i]? = some o) (hw : Region.wanted o (yielded ops a.tmps) = true) (hk : b.kind ≠ .early) (hop : o.op = .recv 53 x true) {c : Nat} (hx : a.eval x = .chan (some c)) :
    stepG Try.prog main (G (b.at a (.inRegion ops (i :: rest) :: kk)) cs) w = .comm (G (b.at a (.inRegion ops (i :: rest) :: kk)) cs) #[rcase c (.int .i64 0)] true (.recv true) w #[] := by
  have hr : (execOp a.eval o).run Try.prog w = .ok (.comm #[rcase c (.int .i64 0)] true (.recv true)) w := by
    unfold execOp
    simp only [hop, hx]
    simp [go_sem, rcase]
  have he : (execOp a.eval o).events Try.prog w #[] = #[] := by
    unfold execOp
    simp only [hop, hx]
    simp [go_sem]
  rw [stepG_comm ho hw hk hr]
  unfold listed
  rw [he, seen_none]
/-- A send. -/
theorem stepG_send {x y : Operand} (ho : ops[i]? = some o) (hw : Region.wanted o (yielded ops a.tmps) = true) (hk : b.kind ≠ .early) (hop : o.op = .send x y) {c : Nat} {v : Value} (hx : a.eval x = .chan (some c)) (hy : a.eval y = v) :
    stepG Try.prog main (G (b.at a (.inRegion ops (i :: rest) :: kk)) cs) w = .comm (G (b.at a (.inRegion ops (i :: rest) :: kk)) cs) #[scase c v (.tuple #[])] true .send w #[] := by
  have hr : (execOp a.eval o).run Try.prog w = .ok (.comm #[scase c v (.tuple #[])] true .send) w := by
    unfold execOp
    simp only [hop, hx, hy]
    simp [go_sem, scase]
  have he : (execOp a.eval o).events Try.prog w #[] = #[] := by
    unfold execOp
    simp only [hop, hx, hy]
    simp [go_sem]
  rw [stepG_comm ho hw hk hr]
  unfold listed
  rw [he, seen_none]
end
end Go.Proofs.Ytapjmifhhbpikaa

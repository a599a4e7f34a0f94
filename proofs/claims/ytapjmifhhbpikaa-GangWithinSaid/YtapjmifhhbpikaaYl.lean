/- Gangs within gangs: the gang, in a row: goroutine 0's own steps beside leavers: words. -/
import Derived.Test.YtapjmifhhbpikaaYa
import Derived.Test.YtapjmifhhbpikaaXw1
import Derived.Conc.SmallLaws
import Derived.Conc.AppendWalk
import Derived.Deep.OwnRows
set_option linter.unusedVariables false
set_option linter.unusedSimpArgs false
namespace Go.Proofs.Ytapjmifhhbpikaa
open Go.Conc Go.ConcN Go.ConcM Go.RowKit Go.Conc.Lib Go.ConcR.Gen
open Go.ConcR (KK wgBlock WgAt stA smA rd wr mk)
theorem ar_rely {W w w₁ : World} (h : AtRel W w) (r : AtRel w w₁) : AtRel W w₁ := atRel_trans _ _ _ h r
theorem goL0 {P : Program} {E : Event → Prop} {Stop : Goroutine → World → Prop} {m : Nat} : ∀ {n : Nat} {g : Goroutine} {w : World}, Goes P true AtRel Go.ConcR.DC0 (Goes P true AtRel (DE E) Stop m) n g w → Goes P true AtRel (DE E) Stop (n + m) g w
  | 0, g, w, h => by rw [Nat.zero_add]; exact h w (atRel_refl _)
  | n + 1, g, w, h => by
    rcases h with h | ⟨hr, h⟩
    · have := h w (atRel_refl _)
      rw [Nat.add_comm]
      exact goes_pad this _
    · rw [show n + 1 + m = (n + m) + 1 by omega]
      refine .inr ⟨hr, fun w₁ r => ?_⟩
      have := h w₁ r
      revert this
      cases stepG P true g w₁ <;> simp only [GStep.goes, imp_self]
      rintro ⟨⟨rfl, rfl⟩, x⟩
      exact ⟨fun e he => by simp at he, goL0 x⟩
section
variable {E : Event → Prop} {Stop : Goroutine → World → Prop} {n : Nat} {b : Frame} {a : Act} {kk : List Item} {cs : List Frame} {W w : World} {ops : Array Oper} {i : Nat} {rest : List Nat} {o : Oper}
/-- A LOAD of one cell. -/
theorem goL_ld {ty : TypeId} {x : Operand} (hF : AtRel W w) (ho : ops[i]? = some o) (hw : Region.wanted o (yielded ops a.tmps) = true) (hk : b.kind ≠ .early) (hop : o.op = .load ty x) (hty : ty = 3 ∨ ty = 53 ∨ ty = 52 ∨ ty = 36 ∨ ty = 33 ∨ ty = 31 ∨ ty = 25 ∨ ty = 5)
    {ad : Addr} {v : Value} (hx : a.eval x = .pointer (some ad)) (hq : (Try.prog.funcs[b.fn]?).any (·.norace) = false) (hc : W.cell? ad = some v) (hev : E ⟨.cell ad, false, false⟩)
    (hgo : ∀ w₁, AtRel W w₁ → Goes Try.prog true AtRel (DE E) Stop n (G (b.at (a.put o.dst v) (.inRegion ops rest :: kk)) cs) w₁) : Goes Try.prog true AtRel (DE E) Stop (n + 1) (G (b.at a (.inRegion ops (i :: rest) :: kk)) cs) w := by
  refine Goes.step rfl fun w₁ r => ?_
  obtain ⟨d, rfl⟩ := ar_rely hF r
  rw [stepG_ld (w := W.at d) ho hw hk hop hty hx hc hq]
  simp only [goes_go]
  exact ⟨fun e he => by simp at he; subst he; exact hev, hgo _ ⟨d, rfl⟩⟩
/-- AN OPERATION THAT MAKES A BLOCK and tells v. -/
theorem goL_new {v : Nat → Value} {ob : Obj} (hF : AtRel W w) (ho : ops[i]? = some o) (hw : Region.wanted o (yielded ops a.tmps) = true) (hk : b.kind ≠ .early)
    (hr : ∀ w : World, (execOp a.eval o).run Try.prog w = .ok (.value (v w.heap.size)) (w.alloc ob) ∧ (execOp a.eval o).events Try.prog w #[] = #[])
    (hgo : ∀ w₁, AtRel (W.alloc ob) w₁ → Goes Try.prog true AtRel (DE E) Stop n (G (b.at (a.put o.dst (v W.heap.size)) (.inRegion ops rest :: kk)) cs) w₁) : Goes Try.prog true AtRel (DE E) Stop (n + 1) (G (b.at a (.inRegion ops (i :: rest) :: kk)) cs) w := by
  refine Goes.step rfl fun w₁ r => ?_
  obtain ⟨d, rfl⟩ := ar_rely hF r
  rw [stepG_value ho hw hk (hr _).1]
  unfold listed
  rw [(hr _).2, seen_none]
  simp only [goes_go]
  exact ⟨fun e he => by simp at he, hgo _ ⟨d, rfl⟩⟩
/-- A STORE into one cell. -/
theorem goL_st {ty : TypeId} {x y : Operand} (hF : AtRel W w) (ho : ops[i]? = some o) (hw : Region.wanted o (yielded ops a.tmps) = true) (hk : b.kind ≠ .early) (hop : o.op = .store ty x y) {ad : Addr} {v : Value}
    (hr : ∀ w : World, w.cell? ad = W.cell? ad → w.frozen? ad = W.frozen? ad → (execOp a.eval o).run Try.prog w = .ok .skip (w.setCell ad v) ∧ (execOp a.eval o).events Try.prog w #[] = #[⟨.cell ad, true, false⟩]) (hq : (Try.prog.funcs[b.fn]?).any (·.norace) = false) (hev : E ⟨.cell ad, true, false⟩)
    (hgo : ∀ w₁, AtRel (W.setCell ad v) w₁ → Goes Try.prog true AtRel (DE E) Stop n (G (b.at (a.put o.dst undef) (.inRegion ops rest :: kk)) cs) w₁) : Goes Try.prog true AtRel (DE E) Stop (n + 1) (G (b.at a (.inRegion ops (i :: rest) :: kk)) cs) w := by
  refine Goes.step rfl fun w₁ r => ?_
  obtain ⟨d, rfl⟩ := ar_rely hF r
  rw [stepG_none ho hw hk (hr (W.at d) rfl rfl).1]
  unfold listed
  rw [(hr (W.at d) rfl rfl).2, seen_eq hq (by simp)]
  simp only [goes_go]
  exact ⟨fun e he => by simp at he; subst he; exact hev, hgo _ ⟨d, rfl⟩⟩
/-! ### what makes a block -/
theorem run_box {ty : TypeId} {x : Operand} (hop : o.op = .box ty x) {v : Value} (hx : a.eval x = v) (hty : (ty = 36 ∨ ty = 52 ∨ ty = 31) ∧ (∃ f fs cp, v = .func f fs cp) ∨ ty = 5 ∧ ∃ z, v = .int .u8 z) (w : World) :
    (execOp a.eval o).run Try.prog w = .ok (.value (.pointer (some ⟨w.heap.size, 0, none⟩))) (w.alloc (.cells #[v] ty)) ∧ (execOp a.eval o).events Try.prog w #[] = #[] := by
  constructor
  · unfold execOp
    simp only [hop, hx]
    rcases hty with ⟨rfl | rfl | rfl, f, fs, cp, rfl⟩ | ⟨rfl, z, rfl⟩ <;> simp [go_sem]
  · unfold execOp
    simp only [hop, hx]
    rcases hty with ⟨rfl | rfl | rfl, f, fs, cp, rfl⟩ | ⟨rfl, z, rfl⟩ <;> simp [go_sem]
theorem run_box23 {x : Operand} (hop : o.op = .box 23 x) {A B : Value} (hx : a.eval x = .agg #[A, B]) (w : World) :
    (execOp a.eval o).run Try.prog w = .ok (.value (.pointer (some ⟨w.heap.size, 0, none⟩))) (w.alloc (.cells #[A, B] 23)) ∧ (execOp a.eval o).events Try.prog w #[] = #[] := by
  constructor
  · unfold execOp
    simp only [hop, hx]
    simp [go_sem]
  · unfold execOp
    simp only [hop, hx]
    simp [go_sem]
theorem run_alloc33 (hop : o.op = .alloc 33) (w : World) : (execOp a.eval o).run Try.prog w = .ok (.value (.pointer (some ⟨w.heap.size, 0, none⟩))) (w.alloc (.cells #[.slice none 0 0] 33)) ∧ (execOp a.eval o).events Try.prog w #[] = #[] := by
  constructor
  · unfold execOp
    simp only [hop]
    simp [go_sem]
  · unfold execOp
    simp only [hop]
    simp [go_sem]
theorem run_alloc53 (hop : o.op = .alloc 53) (w : World) : (execOp a.eval o).run Try.prog w = .ok (.value (.pointer (some ⟨w.heap.size, 0, none⟩))) (w.alloc (.cells #[.chan none] 53)) ∧ (execOp a.eval o).events Try.prog w #[] = #[] := by
  constructor
  · unfold execOp
    simp only [hop]
    simp [go_sem]
  · unfold execOp
    simp only [hop]
    simp [go_sem]
theorem run_alloc50 (hop : o.op = .alloc 50) (w : World) : (execOp a.eval o).run Try.prog w = .ok (.value (.pointer (some ⟨w.heap.size, 0, none⟩))) (w.alloc (muBlock 50 0 0)) ∧ (execOp a.eval o).events Try.prog w #[] = #[] := by
  constructor
  · unfold execOp
    simp only [hop]
    simp [go_sem, muBlock]
  · unfold execOp
    simp only [hop]
    simp [go_sem]
theorem run_alloc60 (hop : o.op = .alloc 60) (w : World) : (execOp a.eval o).run Try.prog w = .ok (.value (.pointer (some ⟨w.heap.size, 0, none⟩))) (w.alloc (wgBlock 60 0 0)) ∧ (execOp a.eval o).events Try.prog w #[] = #[] := by
  constructor
  · unfold execOp
    simp only [hop]
    simp [go_sem, wgBlock]
  · unfold execOp
    simp only [hop]
    simp [go_sem]
theorem info3 : (Try.prog.info? 3).map (fun i => (i.zero, i.size, i.bytes)) = some (some (.int .i64 0), 1, 8) := by kernel_rfl
theorem und53 : Try.prog.underlying 53 = some (.chan .both 3) := Try.underlying53
theorem und33 : Try.prog.underlying 33 = some (.slice 3) := Try.underlying33
theorem run_mkChan (hop : o.op = .makeChan 53 (.const (.int .i64 0))) (w : World) : (execOp a.eval o).run Try.prog w = .ok (.value (.chan (some w.heap.size))) (w.alloc (.chan 0 #[] false 0 0 false)) ∧ (execOp a.eval o).events Try.prog w #[] = #[] := by
  obtain ⟨i, hi, hzz⟩ := Option.map_eq_some_iff.1 info3
  have h1 := Go.Conc.run_makeChan (w := w) und53 hi .i64 0 (by omega) (by simp)
  have h2 := Go.Conc.events_makeChan (w := w) und53 hi .i64 0 (by omega) (by simp) #[]
  constructor
  · unfold execOp
    simp only [hop]
    simp [go_sem, Act.eval]
    rw [show (Value.int IntKind.i64 0) = Value.int IntKind.i64 ((0 : Nat) : Int) from rfl, h1]; rfl
  · unfold execOp
    simp only [hop]
    simp [go_sem, Act.eval]
    have e1 : Sem.run Try.prog (Instr.makeChan 53 (Value.int IntKind.i64 0)) w = _ := h1
    have e2 : Sem.events Try.prog (Instr.makeChan 53 (Value.int IntKind.i64 0)) w #[] = #[] := h2
    simp [e1, e2]
theorem made_rep (z : Value) (n : Nat) : madeCells #[z] n = Array.replicate n z := by
  apply Array.ext
  · simp [madeCells]
  · intro i h1 h2
    simp [madeCells, Nat.mod_one]
theorem run_mkSlice {x y : Operand} (hop : o.op = .makeSlice 33 x y) {j : Nat} (hj : j ≤ 1000) (hx : a.eval x = .int .i64 (j : Int)) (hy : a.eval y = .int .i64 (j : Int)) (w : World) : (execOp a.eval o).run Try.prog w = .ok (.value (.slice (some ⟨w.heap.size, 0, none⟩) j j)) (w.alloc (.cells (Array.replicate j (.int .i64 0)) 3)) ∧ (execOp a.eval o).events Try.prog w #[] = #[] := by
  obtain ⟨i, hi, hzz⟩ := Option.map_eq_some_iff.1 info3
  simp only [Prod.mk.injEq] at hzz
  obtain ⟨hz, hs, hb⟩ := hzz
  have h1 := run_make_row' (P := Try.prog) 33 3 (.int .i64 0) 8 und33 info3 rfl .i64 .i64 j (by omega) (by omega) w
  have h2 := Go.Conc.events_make (P := Try.prog) w 33 3 i (.int .i64 0) und33 hi hz .i64 .i64 (j : Int) (j : Int) (by omega) (by omega) (by rw [hb]; omega) (by omega) (by rw [hb]; simp; omega) #[]
  rw [made_rep] at h1
  constructor
  · unfold execOp
    simp only [hop, hx, hy]
    simp [go_sem, h1]
  · unfold execOp
    simp only [hop, hx, hy]
    simp [go_sem, h1, h2]
theorem events_store_sl (P : Program) (w : World) (es : Array Event) (ad : Addr) (m : Mode) (b : Option Addr) (l c : Nat) : (store ad (.slice b l c) m).events P w es = storedEv P w es ad (.slice b l c) m := events_store P w es ad _ m rfl
theorem run_st {ty : TypeId} {x y : Operand} {ad : Addr} {v u : Value} (hop : o.op = .store ty x y) (hx : a.eval x = .pointer (some ad)) (hy : a.eval y = v) (hty : ty = 33 ∧ (∃ p l c, v = .slice p l c) ∨ ty = 53 ∧ (∃ c, v = .chan c) ∨ ty = 3 ∧ ∃ z, v = .int .i64 z) (w : World) (hc : w.cell? ad = some u) (hz : w.frozen? ad = false) :
    (execOp a.eval o).run Try.prog w = .ok .skip (w.setCell ad v) ∧ (execOp a.eval o).events Try.prog w #[] = #[⟨.cell ad, true, false⟩] := by
  constructor
  · unfold execOp
    simp only [hop, hx, hy]
    rcases hty with ⟨rfl, p, l, c, rfl⟩ | ⟨rfl, c, rfl⟩ | ⟨rfl, z, rfl⟩ <;> simp [go_sem, stored, hc, hz]
  · unfold execOp
    simp only [hop, hx, hy]
    rcases hty with ⟨rfl, p, l, c, rfl⟩ | ⟨rfl, c, rfl⟩ | ⟨rfl, z, rfl⟩ <;> simp [go_sem, events_store_sl, storedEv, hc, hz]
end
end Go.Proofs.Ytapjmifhhbpikaa

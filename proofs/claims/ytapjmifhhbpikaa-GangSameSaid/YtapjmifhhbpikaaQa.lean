/- The gang, pairs. (Joined by join.py.) -/
import Derived.Test.YtapjmifhhbpikaaHk
import Derived.Laws.StructEq
import Derived.Laws.Slices
import Derived.Orders
/- The gang, pairs: what operations on a Pair do; a region that draws, by what has come up. -/
set_option linter.unusedVariables false
set_option linter.unusedSimpArgs false
namespace Go.Proofs.Ytapjmifhhbpikaa
open Go.Conc Go.ConcN Go.ConcM Go.RowKit Go.Conc.Lib Go.ConcR.Gen
open Go.ConcR (KK wgBlock WgAt stA smA rd wr mk)
/-! ### whatever order comes up -/
/-- How many have not come up. -/
def left (D : Array Bool) : Nat := D.toList.countP (! ·)
theorem left_set {D : Array Bool} {i : Nat} (h : D[i]? = some false) : left (D.setIfInBounds i true) + 1 = left D := by
  obtain ⟨hi, e⟩ := Array.getElem?_eq_some_iff.1 h
  unfold left
  have hi' : i < D.toList.length := by simpa using hi
  rw [Array.toList_setIfInBounds, List.countP_set hi']
  have e' : D.toList[i]'hi' = false := by simpa using e
  have hpos : 0 < D.toList.countP (! ·) := List.countP_pos_iff.2 ⟨false, by rw [← e']; exact List.getElem_mem _, rfl⟩
  rw [e']
  simp only [Bool.not_false, if_true, Bool.not_true, Bool.false_eq_true, if_false, Nat.add_zero]
  omega
theorem lin_ind {md : Region.Mode} {ops : Array Oper} {Q : Array Bool → List Nat → Prop} (hnil : ∀ D, D.size = ops.size → Region.ready md ops D = [] → Q D [])
    (hstep : ∀ D i l, D.size = ops.size → i ∈ Region.ready md ops D → Q (D.setIfInBounds i true) l → Q D (i :: l)) :
    ∀ fuel t D, D.size = ops.size → left D ≤ fuel → Q D (Region.linearise.go md ops fuel t D []) ∧ (Region.linearise.go md ops fuel t D []).length ≤ fuel := by
  intro fuel
  induction fuel with
  | zero =>
    intro t D hs hc
    refine ⟨hnil D hs ?_, by simp [Region.linearise.go]⟩
    unfold Region.ready
    rw [List.filter_eq_nil_iff]
    intro i hi
    rw [List.mem_range] at hi
    have hD : D[i]'(by omega) = true := by
      cases e : D[i]'(by omega) with
      | true => rfl
      | false =>
        have : 0 < D.toList.countP (! ·) := List.countP_pos_iff.2 ⟨false, by rw [← e]; simp, rfl⟩
        unfold left at hc
        omega
    simp [Array.getD, hs, hi, hD]
  | succ fuel ih =>
    intro t D hs hc
    simp only [Region.linearise.go]
    change Q D (match (Region.ready md ops D)[t % (Region.ready md ops D).length]? with
      | some i => Region.linearise.go md ops fuel (t / (Region.ready md ops D).length) (D.setIfInBounds i true) [i]
      | none => [].reverse) ∧ (match (Region.ready md ops D)[t % (Region.ready md ops D).length]? with
      | some i => Region.linearise.go md ops fuel (t / (Region.ready md ops D).length) (D.setIfInBounds i true) [i]
      | none => [].reverse).length ≤ fuel + 1
    cases hi : (Region.ready md ops D)[t % (Region.ready md ops D).length]? with
    | none =>
      have hnil' : Region.ready md ops D = [] := by
        cases hr : Region.ready md ops D with
        | nil => rfl
        | cons x xs =>
          rw [hr] at hi
          have hlt : t % (x :: xs).length < (x :: xs).length := Nat.mod_lt _ (by simp)
          simp at hi
          simp at hlt
          omega
      exact ⟨hnil D hs hnil', by simp⟩
    | some i =>
      have hm := List.mem_of_getElem? hi
      have hf : D[i]? = some false := by
        unfold Region.ready at hm
        rw [List.mem_filter, List.mem_range] at hm
        have hlt : i < D.size := by omega
        have := hm.2
        simp only [Bool.and_eq_true, Bool.not_eq_true'] at this
        have h1 := this.1
        simp only [Array.getD, hlt, dif_pos] at h1
        rw [Array.getElem?_eq_getElem hlt]
        simpa using h1
      have hl := left_set hf
      obtain ⟨h1, h2⟩ := ih (t / (Region.ready md ops D).length) (D.setIfInBounds i true) (by simpa using hs) (by omega)
      simp only []
      rw [linearise_go_acc, List.reverse_singleton, List.singleton_append]
      exact ⟨hstep D i _ hs hm h1, by simp; omega⟩
/-! ### a Pair -/
theorem info30 : (Try.prog.info? 30).map (fun i => (i.zero, i.size)) = some (some (.agg #[.int .i64 0, .string { data := #[] }]), 2) := by kernel_rfl
theorem info9 : (Try.prog.info? 9).map (fun i => (i.zero, i.size)) = some (some (.string { data := #[] }), 1) := by kernel_rfl
section
variable {a : Act} {o : Oper}
theorem run_alloc30 (hop : o.op = .alloc 30) (w : World) : (execOp a.eval o).run Try.prog w = .ok (.value (.pointer (some ⟨w.heap.size, 0, none⟩))) (w.alloc (.cells #[.int .i64 0, .string { data := #[] }] 30)) ∧ (execOp a.eval o).events Try.prog w #[] = #[] := by
  constructor
  · unfold execOp
    simp only [hop]
    simp [go_sem]
  · unfold execOp
    simp only [hop]
    simp [go_sem]
theorem run_alloc25 (hop : o.op = .alloc 25) (w : World) : (execOp a.eval o).run Try.prog w = .ok (.value (.pointer (some ⟨w.heap.size, 0, none⟩))) (w.alloc (.cells #[.slice none 0 0] 25)) ∧ (execOp a.eval o).events Try.prog w #[] = #[] := by
  constructor
  · unfold execOp
    simp only [hop]
    simp [go_sem]
  · unfold execOp
    simp only [hop]
    simp [go_sem]
theorem run_ld2 {ty : TypeId} {x : Operand} (hty : ty = 30 ∨ ty = 23) (hop : o.op = .load ty x) {p f : Nat} {X Y : Value} (hx : a.eval x = .pointer (some ⟨p, f, none⟩)) (w : World) (h0 : w.cell? ⟨p, f, none⟩ = some X) (h1 : w.cell? ⟨p, f + 1, none⟩ = some Y) :
    (execOp a.eval o).run Try.prog w = .ok (.value (.agg #[X, Y])) w ∧ (execOp a.eval o).events Try.prog w #[] = #[⟨.cell ⟨p, f, none⟩, false, false⟩, ⟨.cell ⟨p, f + 1, none⟩, false, false⟩] := by
  constructor
  · unfold execOp
    simp only [hop, hx]
    rcases hty with rfl | rfl <;> simp [go_sem, h0, h1]
  · unfold execOp
    simp only [hop, hx]
    rcases hty with rfl | rfl <;> simp [go_sem, h0, h1]
theorem events_store_str (P : Program) (w : World) (es : Array Event) (ad : Addr) (m : Mode) (b : ByteArray) : (store ad (.string b) m).events P w es = storedEv P w es ad (.string b) m := events_store P w es ad _ m rfl
theorem run_st30 {x y : Operand} (hop : o.op = .store 30 x y) {p f : Nat} {X0 Y0 : Value} {X : Int} {Y : ByteArray} (hx : a.eval x = .pointer (some ⟨p, f, none⟩)) (hy : a.eval y = .agg #[.int .i64 X, .string Y]) (w : World) (h0 : w.cell? ⟨p, f, none⟩ = some X0) (h1 : w.cell? ⟨p, f + 1, none⟩ = some Y0) (z0 : w.frozen? ⟨p, f, none⟩ = false) (z1 : w.frozen? ⟨p, f + 1, none⟩ = false) :
    (execOp a.eval o).run Try.prog w = .ok .skip ((w.setCell ⟨p, f, none⟩ (.int .i64 X)).setCell ⟨p, f + 1, none⟩ (.string Y)) ∧ (execOp a.eval o).events Try.prog w #[] = #[⟨.cell ⟨p, f, none⟩, true, false⟩, ⟨.cell ⟨p, f + 1, none⟩, true, false⟩] := by
  constructor
  · unfold execOp
    simp only [hop, hx, hy]
    simp [go_sem, stored, h0, h1, z0, z1]
  · unfold execOp
    simp only [hop, hx, hy]
    have hne : (⟨p, f, none⟩ : Addr) ≠ ⟨p, f + 1, none⟩ := by simp
    have h1' : (w.setCell ⟨p, f, none⟩ (.int .i64 X)).cell? ⟨p, f + 1, none⟩ = some Y0 := (World.cell?_setCell_other _ _ _ _ hne).trans h1
    have z1' : (w.setCell ⟨p, f, none⟩ (.int .i64 X)).frozen? ⟨p, f + 1, none⟩ = false := by rw [World.frozen?_setCell]; exact z1
    simp [go_sem, storedEv, h0, h1, z0, z1, events_store_str, h1', z1']
theorem run_build30 {x y : Operand} (hop : o.op = .build 30 #[(0, x), (1, y)]) {X : Int} {Y : ByteArray} (hx : a.eval x = .int .i64 X) (hy : a.eval y = .string Y) (w : World) : (execOp a.eval o).run Try.prog w = .ok (.value (.agg #[.int .i64 X, .string Y])) w ∧ (execOp a.eval o).events Try.prog w #[] = #[] := by
  constructor
  · unfold execOp
    simp only [hop, List.map_toArray, List.map_cons, List.map_nil, hx, hy]
    simp [go_sem]
    rw [run_build (P := Try.prog) w 30 #[(0, Value.int IntKind.i64 X), (1, .string Y)] #[.int .i64 X, .string Y] (by kernel_rfl)]
    rfl
  · unfold execOp
    simp only [hop, List.map_toArray, List.map_cons, List.map_nil, hx, hy]
    simp [go_sem]
    obtain ⟨i, hi, hzz⟩ := Option.map_eq_some_iff.1 info30
    obtain ⟨j, hj, hyy⟩ := Option.map_eq_some_iff.1 info3
    obtain ⟨k, hk, hkk⟩ := Option.map_eq_some_iff.1 info9
    simp only [Prod.mk.injEq] at hzz hyy hkk
    simp [Instr.build, zeroValue, typeInfo, underlying, sizeOf, go_sem, hi, hj, hk, hzz.1, hyy.2.1, hkk.2]
/-- What jobs are called. -/
def jobS : ByteArray := { data := #[106, 111, 98, 32] }
theorem run_str {y : Operand} (hop : o.op = .slice 9 (.const (.string { data := #[106, 111, 98, 32] })) none (some y) none) {n : Nat} (hn : n ≤ 4) (hy : a.eval y = .int .i64 (n : Int)) (w : World) : (execOp a.eval o).run Try.prog w = .ok (.value (.string (jobS.extract 0 n))) w ∧ (execOp a.eval o).events Try.prog w #[] = #[] := by
  have e0 : (0 : Int) ≤ (n : Int) := by omega
  have h4 : n ≤ ({ data := #[106, 111, 98, 32] } : ByteArray).size := hn
  constructor
  · unfold execOp
    simp only [hop, Option.map_some, Option.map_none, hy]
    simp [go_sem, e0, h4, Instr.slice, run_underlying Try.underlying9, Instr.sliceBounds, run_sliceBound]
    rfl
  · unfold execOp
    simp only [hop, Option.map_some, Option.map_none, hy]
    simp [go_sem, e0, h4, Instr.sliceAt, Instr.slice, run_underlying Try.underlying9, Instr.sliceBounds, run_sliceBound, Instr.sliceBound, asIntOf]
theorem run_neq30 {x y : Operand} (hop : o.op = .binOp .neq 30 x y 30) {X : Int} {Y : ByteArray} (hx : a.eval x = .agg #[.int .i64 X, .string Y]) (hy : a.eval y = .agg #[.int .i64 X, .string Y]) (w : World) : (execOp a.eval o).run Try.prog w = .ok (.value (.bool false)) w ∧ (execOp a.eval o).events Try.prog w #[] = #[] := by
  have hg := fun w => run_eqGuard_agg (P := Try.prog) w .neq 30 x y #[Value.int IntKind.i64 X, Value.string Y] #[Value.int IntKind.i64 X, Value.string Y] (by kernel_rfl)
  have hp : Try.prog.stoodInHeld 30 = false := by kernel_rfl
  have hf : Try.prog.underlying 30 = some (.struct (Try.prog.fieldsOf 30)) := by rw [Try.underlying30]; simp [Program.fieldsOf, Try.underlying30]
  have hff : (Try.prog.fieldsOf 30).toList = [{ name := "N", type := 3, offset := 0, embedded := false, tag := "", pkgPath := "", byteOffset := 0 }, { name := "S", type := 9, offset := 1, embedded := false, tag := "", pkgPath := "", byteOffset := 8 }] := by simp [Program.fieldsOf, Try.underlying30]
  constructor
  · unfold execOp
    simp only [hop, hx, hy]
    simp [hg, run_neq_struct, run_equalIn_struct _ 9999 30 _ _ hf hp, hff, Op.eqFields, go_sem, Try.underlying3, Try.underlying9]
  · have hm : Try.prog.eqGuardType Try.prog.depth 30 = false := by kernel_rfl
    have g1 : ∀ es, (eqGuard BinOp.neq 30 x y (Value.agg #[Value.int IntKind.i64 X, Value.string Y]) (Value.agg #[Value.int IntKind.i64 X, Value.string Y])).events Try.prog w es = es := fun es => by
      simp [eqGuard, run_program, hm]
    have i3 : ∀ d w es, (Op.equalIn (d + 1) 3 (.int .i64 X) (.int .i64 X)).events Try.prog w es = es := fun d w es => by
      simp [Op.equalIn, run_underlying Try.underlying3]
    have i9 : ∀ d w es, (Op.equalIn (d + 1) 9 (.string Y) (.string Y)).events Try.prog w es = es := fun d w es => by
      simp [Op.equalIn, run_underlying Try.underlying9]
    have r3 : ∀ d w, (Op.equalIn (d + 1) 3 (.int .i64 X) (.int .i64 X)).run Try.prog w = .ok true w := fun d w => by
      simp [Op.equalIn, run_underlying Try.underlying3]
    have g2 : ∀ es, (Op.equalIn (9998 + 1 + 1) 30 (Value.agg #[Value.int IntKind.i64 X, Value.string Y]) (Value.agg #[Value.int IntKind.i64 X, Value.string Y])).events Try.prog w es = es := fun es => by
      rw [Op.equalIn]
      simp [run_underlying Try.underlying30, run_program, hp, i3, i9, r3, go_sem]
    unfold execOp
    simp only [hop, hx, hy]
    simp [g1, hg, binOp, Op.equal, Op.maxDepth]
    exact g2 #[]
end
end Go.Proofs.Ytapjmifhhbpikaa

/- The gang, pairs: a worker's steps on blocks of its own; Do by a worker that has made blocks before. -/
set_option linter.unusedVariables false
set_option linter.unusedSimpArgs false
namespace Go.Proofs.Ytapjmifhhbpikaa
open Go.Conc Go.ConcN Go.ConcM Go.RowKit Go.Conc.Lib Go.ConcR.Gen
open Go.ConcR (KK wgBlock WgAt stA smA rd wr mk)
/-- What a worker knows of blocks of its own. -/
structure KO (K : Band) (W : World) (l : List (Nat × Obj)) (w : World) : Prop where
  kn : Kn K W w
  own : ∀ x ∈ l, w.heap[x.1]? = some x.2 ∧ K.B0 ≤ x.1
theorem kj_rely {K : Band} {W w w₁ : World} {l : List (Nat × Obj)} {own : Bool} {mine : List Nat} (hm : ∀ x ∈ l, x.1 ∈ mine) (h : KO K W l w) (r : RB K own mine w w₁) : KO K W l w₁ :=
  ⟨h.kn.rely r, fun x hx => ⟨(r.mine _ (hm x hx)).trans (h.own x hx).1, (h.own x hx).2⟩⟩
theorem KO.less {K : Band} {W w : World} {l l' : List (Nat × Obj)} (h : KO K W l w) (hl : ∀ x ∈ l', x ∈ l) : KO K W l' w := ⟨h.kn, fun x hx => h.own x (hl x hx)⟩
theorem set2_heap {w : World} {b : Nat} {X0 Y0 X Y : Value} {t : TypeId} (h : w.heap[b]? = some (.cells #[X0, Y0] t)) :
    ((w.setCell ⟨b, 0, none⟩ X).setCell ⟨b, 1, none⟩ Y).heap[b]? = some (.cells #[X, Y] t) := by
  have h1 : (w.setCell ⟨b, 0, none⟩ X).heap[b]? = some (.cells #[X, Y0] t) := by
    rw [setCell_eq_setRow w b 0 _ t (0, 0) _ h, setRow_heap w b _ _ t _ h]
    rfl
  rw [setCell_eq_setRow _ b 1 _ t (0, 0) _ h1, setRow_heap _ b _ _ t _ h1]
  rfl
theorem KO.st {K : Band} {W w : World} {l l' : List (Nat × Obj)} {b : Nat} {X0 Y0 X Y : Value} {t : TypeId} (h : KO K W l w) (hb : (b, .cells #[X0, Y0] t) ∈ l) (hl : ∀ x ∈ l', x = (b, .cells #[X, Y] t) ∨ (x.1 ≠ b ∧ x ∈ l)) :
    KO K W l' ((w.setCell ⟨b, 0, none⟩ X).setCell ⟨b, 1, none⟩ Y) := by
  have A0 := aside_setCell w ⟨b, 0, none⟩ X
  have A1 := aside_setCell (w.setCell ⟨b, 0, none⟩ X) ⟨b, 1, none⟩ Y
  obtain ⟨hh, hB⟩ := h.own _ hb
  have bl : ∀ k, k ≠ b → ((w.setCell ⟨b, 0, none⟩ X).setCell ⟨b, 1, none⟩ Y).heap[k]? = w.heap[k]? := fun k hk => (A1.block k hk).trans (A0.block k hk)
  have hB : K.B0 ≤ b := hB
  obtain ⟨s, hsh⟩ := h.kn.live.sh
  obtain ⟨c, s1, r1, hch⟩ := h.kn.live.ch
  obtain ⟨cs, hc, hs⟩ := h.kn.live.row
  have bM := K.bM; have bW := K.bW; have bH := K.bH; have bC := K.bC
  refine ⟨⟨⟨⟨s, hsh.of_block (bl _ (by omega)) (bl _ (by omega))⟩, ⟨c, s1, r1, (bl _ (by omega)).trans hch⟩, ⟨cs, (bl _ (by omega)).trans hc, hs⟩⟩, fun k hk => (bl k (by have := hk.1; omega)).trans (h.kn.still k hk), ?_, (A1.tape.trans A0.tape).trans h.kn.tape, (A1.output.trans A0.output).trans h.kn.output, ?_⟩, fun x hx => ?_⟩
  · rw [A1.size, A0.size]; exact h.kn.B
  · rw [A1.os, A0.os]; exact h.kn.os
  · rcases hl x hx with rfl | ⟨h1, h2⟩
    · exact ⟨set2_heap hh, hB⟩
    · exact ⟨(bl _ h1).trans (h.own x h2).1, (h.own x h2).2⟩
theorem KO.cell {K : Band} {W w : World} {l : List (Nat × Obj)} {b : Nat} {X Y : Value} {t : TypeId} (h : KO K W l w) (hb : (b, .cells #[X, Y] t) ∈ l) : w.cell? ⟨b, 0, none⟩ = some X ∧ w.cell? ⟨b, 1, none⟩ = some Y ∧ w.frozen? ⟨b, 0, none⟩ = false ∧ w.frozen? ⟨b, 1, none⟩ = false ∧ b < w.heap.size := by
  obtain ⟨hh, _⟩ := h.own _ hb
  have hh : w.heap[b]? = some (.cells #[X, Y] t) := hh
  refine ⟨?_, ?_, ?_, ?_, (Array.getElem?_eq_some_iff.1 hh).1⟩ <;> simp [World.cell?, World.frozen?, hh]
theorem db_own2 {K : Band} {w : World} {mine : List Nat} {b : Nat} {X Y : Value} (hb : b ∈ mine) (hlt : b < w.heap.size) :
    DB K false mine false false w ((w.setCell ⟨b, 0, none⟩ X).setCell ⟨b, 1, none⟩ Y) #[⟨.cell ⟨b, 0, none⟩, true, false⟩, ⟨.cell ⟨b, 1, none⟩, true, false⟩] := by
  have A0 := aside_setCell w ⟨b, 0, none⟩ X
  have A1 := aside_setCell (w.setCell ⟨b, 0, none⟩ X) ⟨b, 1, none⟩ Y
  refine ⟨A1.tape.trans A0.tape, A1.output.trans A0.output, A1.os.trans A0.os, A1.size.trans A0.size, fun k hk _ => ?_, (fun h => by cases h), fun e he => ?_, (fun h => by cases h)⟩
  · have : k ≠ b := fun e => hk (e ▸ hb)
    exact (A1.block k this).trans (A0.block k this)
  · simp at he
    rcases he with rfl | rfl <;> exact ev_plain hlt (.inr (.inl hb))
section
variable {Fa : Nat → Th → Array Value → Goroutine → World → Prop} {K : Band} [Fam K Fa] {W : World} {T : Th} {Nx : Goroutine → World → Prop} {n : Nat} {b : Frame} {a : Act} {kk : List Item} {cs : List Frame} {w : World} {ops : Array Oper} {i : Nat} {rest : List Nat} {o : Oper} {l : List (Nat × Obj)}
omit [Fam K Fa]
/-- AN OPERATION THAT YIELDS A VALUE and touches nothing. -/
theorem goW_val {v : Value} (hl : ∀ x ∈ l, x.1 ∈ T.blk) (hF : KO K W l w) (ho : ops[i]? = some o) (hw : Region.wanted o (yielded ops a.tmps) = true) (hk : b.kind ≠ .early)
    (hr : ∀ w : World, (execOp a.eval o).run Try.prog w = .ok (.value v) w ∧ (execOp a.eval o).events Try.prog w #[] = #[])
    (hgo : ∀ w₁, KO K W l w₁ → GoW Try.prog K T Nx n (G (b.at (a.put o.dst v) (.inRegion ops rest :: kk)) cs) w₁) : GoW Try.prog K T Nx (n + 1) (G (b.at a (.inRegion ops (i :: rest) :: kk)) cs) w := by
  refine Goes.step rfl fun w₁ r => ?_
  rw [stepG_value ho hw hk (hr _).1]
  unfold listed
  rw [(hr _).2, seen_none]
  simp only [goes_go]
  exact ⟨db_none fun e he => by simp at he, hgo _ (kj_rely hl hF r)⟩
/-- A LOAD of two cells of its own. -/
theorem goW_ld2 {ty : TypeId} (hty : ty = 30 ∨ ty = 23) {x : Operand} {bk : Nat} {X Y : Value} {t : TypeId} (hl : ∀ x ∈ l, x.1 ∈ T.blk) (hF : KO K W l w) (ho : ops[i]? = some o) (hw : Region.wanted o (yielded ops a.tmps) = true) (hk : b.kind ≠ .early)
    (hop : o.op = .load ty x) (hx : a.eval x = .pointer (some ⟨bk, 0, none⟩)) (hq : (Try.prog.funcs[b.fn]?).any (·.norace) = false) (hm : T.mute = false) (hb : (bk, .cells #[X, Y] t) ∈ l)
    (hgo : ∀ w₁, KO K W l w₁ → GoW Try.prog K T Nx n (G (b.at (a.put o.dst (.agg #[X, Y])) (.inRegion ops rest :: kk)) cs) w₁) : GoW Try.prog K T Nx (n + 1) (G (b.at a (.inRegion ops (i :: rest) :: kk)) cs) w := by
  refine Goes.step rfl fun w₁ r => ?_
  have hF1 := kj_rely hl hF r
  obtain ⟨c0, c1, _, _, hlt⟩ := hF1.cell hb
  have hr := run_ld2 hty hop hx w₁ c0 c1
  rw [stepG_value ho hw hk hr.1]
  unfold listed
  rw [hr.2, seen_eq hq (by simp)]
  simp only [goes_go]
  refine ⟨?_, hgo _ hF1⟩
  rw [hm]
  have hbm := hl _ hb
  refine ⟨rfl, rfl, rfl, rfl, fun _ _ _ => rfl, fun _ h => h, fun e he => ?_, (fun h => by cases h)⟩
  simp at he
  rcases he with rfl | rfl <;> exact ev_plain hlt (.inr (.inl hbm))
/-- A STORE into two cells of its own. -/
theorem goW_st30 {x y : Operand} {bk : Nat} {X0 Y0 : Value} {X : Int} {Y : ByteArray} {l' : List (Nat × Obj)} (hl : ∀ x ∈ l, x.1 ∈ T.blk) (hF : KO K W l w) (ho : ops[i]? = some o) (hw : Region.wanted o (yielded ops a.tmps) = true) (hk : b.kind ≠ .early)
    (hop : o.op = .store 30 x y) (hx : a.eval x = .pointer (some ⟨bk, 0, none⟩)) (hy : a.eval y = .agg #[.int .i64 X, .string Y]) (hq : (Try.prog.funcs[b.fn]?).any (·.norace) = false) (hm : T.mute = false) (how : T.owns = false) (hb : (bk, .cells #[X0, Y0] 30) ∈ l)
    (hl' : ∀ x ∈ l', x = (bk, .cells #[.int .i64 X, .string Y] 30) ∨ (x.1 ≠ bk ∧ x ∈ l))
    (hgo : ∀ w₁, KO K W l' w₁ → GoW Try.prog K T Nx n (G (b.at (a.put o.dst undef) (.inRegion ops rest :: kk)) cs) w₁) : GoW Try.prog K T Nx (n + 1) (G (b.at a (.inRegion ops (i :: rest) :: kk)) cs) w := by
  refine Goes.step rfl fun w₁ r => ?_
  have hF1 := kj_rely hl hF r
  obtain ⟨c0, c1, z0, z1, hlt⟩ := hF1.cell hb
  have hr := run_st30 hop hx hy w₁ c0 c1 z0 z1
  rw [stepG_none ho hw hk hr.1]
  unfold listed
  rw [hr.2, seen_eq hq (by simp)]
  simp only [goes_go]
  refine ⟨?_, hgo _ (hF1.st hb hl')⟩
  rw [hm, how]
  exact db_own2 (hl _ hb) hlt
theorem mixed_ : Try.prog.follows .mixedOrders = true := by kernel_rfl
/-- A REGION THAT DRAWS. -/
theorem goW_draw {id : Nat} (hl : ∀ x ∈ l, x.1 ∈ T.blk) (hF : KO K W l w)
    (hgo : ∀ t w₁, KO K W l w₁ → GoW Try.prog K T Nx n (G (b.at a (.inRegion ops (Region.linearise.go .any ops ops.size t (Array.replicate ops.size false) []) :: kk)) cs) w₁) :
    GoW Try.prog K T Nx (n + 1) (G (b.at a (.code (.region id ops true) :: kk)) cs) w := by
  refine Goes.step rfl fun w₁ r => ?_
  rw [stepG_region_draw]
  simp only [goes_go, Region.schedule, mixed_, Bool.true_or, if_true]
  have hF1 := kj_rely hl hF r
  refine ⟨⟨rfl, rfl, rfl, rfl, fun _ _ _ => rfl, fun _ h => h, fun e he => by simp at he, fun _ => rfl⟩, hgo _ _ ?_⟩
  exact ⟨⟨⟨hF1.kn.live.sh, hF1.kn.live.ch, hF1.kn.live.row⟩, hF1.kn.still, hF1.kn.B, hF1.kn.tape, hF1.kn.output, hF1.kn.os⟩, hF1.own⟩
/-- The return of a function whose result lies in a cell of its own. -/
theorem results_cell {fn : Func} {t : Tmp} {ty : TypeId} (hty : ty = 30) (h : fn.results = #[.cell t ty]) {tm : Array Value} {bk : Nat} {X Y : Value} (ht : tm.getD t undef = .pointer (some ⟨bk, 0, none⟩)) (w : World) (h0 : w.cell? ⟨bk, 0, none⟩ = some X) (h1 : w.cell? ⟨bk, 1, none⟩ = some Y) :
    (results fn tm).run Try.prog w = .ok (.agg #[X, Y]) w ∧ (results fn tm).events Try.prog w #[] = #[⟨.cell ⟨bk, 0, none⟩, false, false⟩, ⟨.cell ⟨bk, 1, none⟩, false, false⟩] := by
  subst hty
  have ht' : tm[t]?.getD undef = .pointer (some ⟨bk, 0, none⟩) := by simpa using ht
  constructor
  · unfold results
    simp [h, ht', go_sem, h0, h1]
  · unfold results
    simp [h, ht', go_sem, h0, h1]
end
end Go.Proofs.Ytapjmifhhbpikaa

/- The gang, pairs: Do by a worker that has made blocks before; Two by a worker. (Printed by pc.py.) -/
set_option linter.unusedVariables false
set_option linter.unusedSimpArgs false
namespace Go.Proofs.Ytapjmifhhbpikaa
open Go.Conc Go.ConcN Go.ConcM Go.RowKit Go.Conc.Lib Go.ConcR.Gen
open Go.ConcR (KK wgBlock WgAt stA smA rd wr mk)
theorem run_move {a : Act} {o : Oper} {x : Operand} {v : Value} (hop : o.op = .move x) (hx : a.eval x = v) (w : World) : (execOp a.eval o).run Try.prog w = .ok (.value v) w ∧ (execOp a.eval o).events Try.prog w #[] = #[] := by
  constructor
  · unfold execOp
    simp only [hop, hx]
    simp [go_sem]
  · unfold execOp
    simp only [hop, hx]
    simp [go_sem]
theorem run_rem5 {a : Act} {o : Oper} {x : Operand} {j n5 : Nat} (hop : o.op = .binOp .rem 3 x (.const (.int .i64 5)) 3) (hx : a.eval x = .int .i64 (j : Int)) (hn : n5 = j % 5) (w : World) : (execOp a.eval o).run Try.prog w = .ok (.value (.int .i64 (n5 : Int))) w ∧ (execOp a.eval o).events Try.prog w #[] = #[] := by
  have e : (j : Int).tmod 5 = (n5 : Int) := by subst hn; rfl
  constructor
  · unfold execOp
    simp only [hop, hx]
    simp [go_sem, Act.eval, e]
  · unfold execOp
    simp only [hop, hx]
    simp [go_sem, Act.eval, e]
theorem stepG_leaveE {main : Bool} {b : Frame} {a : Act} {cs : List Frame} {w : World} {fn : Func} {todo : List Item} {c : Frame} {v : Value} {es : Array Event} (hn : b.kind = .normal) (hd : a.defers = []) (hf : Try.prog.funcs[b.fn]? = some fn)
    (hr : (results fn a.tmps).run Try.prog w = .ok v w) (he : (results fn a.tmps).events Try.prog w #[] = es) :
    stepG Try.prog main (G { b.at a todo with mode := .returning } (c :: cs)) w = .go (G (c.finish v) cs) w (seen Try.prog b.fn es) := by
  simp [G, stepG, unwind, doReturn, Frame.at, hn, hd, hf, hr, he, GStep.after]
section
variable {Fa : Nat → Th → Array Value → Goroutine → World → Prop} {K : Band} [Fam K Fa] {W : World} {b₁ : Frame} {a₁ : Act} {ops₁ : Array Oper} {i₁ : Nat} {rest₁ : List Nat} {k₁ : List Item} {cs₁ : List Frame} {l : List (Nat × Obj)} {v : Array Value}
/-- A STOP THAT MAKES A BLOCK. -/
theorem goW_new {T : Th} {n k : Nat} {p : Pc} {v' : Nat → Value} {ob : Obj} {b : Frame} {a : Act} {kk : List Item} {cs : List Frame} {w : World} {ops : Array Oper} {i : Nat} {rest : List Nat} {o : Oper} (hpc : T.pc = .bx) (hit : n < T.it) (hp : p = .bx ∨ p = .ld) (hl : ∀ x ∈ l, x.1 ∈ T.blk) (hF : KO K W l w)
    (ho : ops[i]? = some o) (hw : Region.wanted o (yielded ops a.tmps) = true) (hk : b.kind ≠ .early)
    (hr : ∀ w : World, (execOp a.eval o).run Try.prog w = .ok (.value (v' w.heap.size)) (w.alloc ob) ∧ (execOp a.eval o).events Try.prog w #[] = #[])
    (hgo : ∀ k' bk, (∀ x ∈ l, x.1 ≠ bk) → ∃ m, ∀ w₁, KO K W ((bk, ob) :: l) w₁ → GoW Try.prog K { pc := p, it := if p = .bx then n else 0, job := T.job, blk := bk :: T.blk } (Fa k' { pc := p, it := if p = .bx then n else 0, job := T.job, blk := bk :: T.blk } v) m (G (b.at (a.put o.dst (v' bk)) (.inRegion ops rest :: kk)) cs) w₁) :
    GoW Try.prog K T (Fa k T v) 0 (G (b.at a (.inRegion ops (i :: rest) :: kk)) cs) w := by
  refine Goes.stop (fun wx r => ?_)
  have hF := kj_rely hl hF r
  rcases k with _ | k
  · exact Fam.zero (K := K) _ _ _ _
  refine Fam.succ (K := K) (A := Fa) ?_
  have step : stepG Try.prog false (G (b.at a (.inRegion ops (i :: rest) :: kk)) cs) wx = .go (G (b.at (a.put o.dst (v' wx.heap.size)) (.inRegion ops rest :: kk)) cs) (wx.alloc ob) #[] := by
    rw [stepG_value ho hw hk (hr _).1]
    unfold listed
    rw [(hr _).2, seen_none]
  refine ⟨rfl, rfl, (fun h => by rw [hpc] at h; simp at h), (fun h => by rw [hpc] at h; cases h), (fun h => by rw [hpc] at h; cases h), (fun h => by rw [hpc] at h; cases h), fun _ s hs hfit _ cs' hcs => ⟨_, s, .bx wx.heap.size p n hpc hit hp, _, _, _, step, hs.alloc hF.kn.B _, by rw [hpc]; exact effB_alloc _ _, by unfold EvW; rw [hpc]; exact ⟨rfl, rfl⟩, ?_⟩⟩
  have hlt : ∀ x ∈ l, x.1 < wx.heap.size := fun x hx => (Array.getElem?_eq_some_iff.1 (hF.own x hx).1).1
  obtain ⟨m, hm⟩ := hgo k wx.heap.size (fun x hx => Nat.ne_of_lt (hlt x hx))
  have hF2 : KO K W ((wx.heap.size, ob) :: l) (wx.alloc ob) := ⟨hF.kn.eff (effB_alloc _ _) (hs.alloc hF.kn.B _), fun x hx => by
    rcases List.mem_cons.1 hx with rfl | hx
    · exact ⟨alloc_at_new _ _, hF.kn.B⟩
    · exact ⟨(alloc_old (hlt x hx)).trans (hF.own x hx).1, (hF.own x hx).2⟩⟩
  unfold AfterW
  rw [if_neg (by rcases hp with rfl | rfl <;> simp), show (if T.pc = .la then K.put T.job cs' else v) = v from if_neg (by rw [hpc]; simp)]
  exact ⟨m, hm _ hF2⟩
set_option maxRecDepth 100000 in
set_option maxHeartbeats 8000000 in
/-- ████ Do, BY A WORKER THAT HAS MADE BLOCKS BEFORE. ████ -/
theorem doGoB {T : Th} {n : Nat} {p : Pc} (A B : Int) (j k : Nat) (hpc : T.pc = .bx) (hit : n < T.it) (hp : p = .bx ∨ p = .ld) (hl : ∀ x ∈ l, x.1 ∈ T.blk) {w : World} (hF : KO K W l w)
    (hT : ∀ k' bk, (∀ x ∈ l, x.1 ≠ bk) → ∃ m, ∀ w, KO K W ((bk, .cells #[.int .i64 A, .int .i64 B] 23) :: l) w → GoW Try.prog K { pc := p, it := if p = .bx then n else 0, job := T.job, blk := bk :: T.blk } (Fa k' { pc := p, it := if p = .bx then n else 0, job := T.job, blk := bk :: T.blk } v) m (G (b₁.at (a₁.put ((ops₁[i₁]?).bind (·.dst)) (.int .i64 (doV A B j))) (.inRegion ops₁ rest₁ :: k₁)) cs₁) w) :
    GoW Try.prog K T (Fa k T v) 10 (G ((base 11).at ⟨#[.agg #[.int .i64 A, .int .i64 B], .int .i64 (j : Int), undef, undef, undef, undef, undef, undef, undef, undef, undef, undef, undef, undef, undef, undef], []⟩ [.code body11]) (b₁.at a₁ (.inRegion ops₁ (i₁ :: rest₁) :: k₁) :: cs₁)) w := by
  refine goW0 (n := 10) (m := 0) ?_
  simp only [body11, Try.f11, Option.getD_some]
  repeat w_go (kj_rely hl)
  refine Goes.stop (fun _ r₁ => ?_)
  replace hF := kj_rely hl hF r₁
  clear r₁
  refine goW_new hpc hit hp hl hF rfl rfl (by k_ne) (v' := fun s => .pointer (some ⟨s, 0, none⟩)) (run_box23 rfl rfl) ?_
  clear hF
  intro k' bk hne
  obtain ⟨mT, hT'⟩ := hT k' bk hne
  have hm2 : ({ pc := p, it := if p = .bx then n else 0, job := T.job, blk := bk :: T.blk } : Th).mute = false := by rcases hp with rfl | rfl <;> rfl
  have ho2 : ({ pc := p, it := if p = .bx then n else 0, job := T.job, blk := bk :: T.blk } : Th).owns = false := by rcases hp with rfl | rfl <;> rfl
  have hl2 : ∀ x ∈ ((bk, .cells #[.int .i64 A, .int .i64 B] 23) :: l : List (Nat × Obj)), x.1 ∈ ({ pc := p, it := if p = .bx then n else 0, job := T.job, blk := bk :: T.blk } : Th).blk := fun x hx => by
    rcases List.mem_cons.1 hx with rfl | hx
    · exact List.mem_cons_self
    · exact List.mem_cons_of_mem _ (hl x hx)
  refine ⟨20 + (20 + (30 + mT + 1) + 1), fun w hF => ?_⟩
  generalize hT2 : ({ pc := p, it := if p = .bx then n else 0, job := T.job, blk := bk :: T.blk } : Th) = T2 at hm2 ho2 hl2 hT' ⊢
  have hmem : (bk, (.cells #[.int .i64 A, .int .i64 B] 23 : Obj)) ∈ ((bk, .cells #[.int .i64 A, .int .i64 B] 23) :: l : List (Nat × Obj)) := List.mem_cons_self
  refine goW0 (n := 20) (m := 20 + (30 + mT + 1) + 1) ?_
  walk_nrm
  repeat w_go (kj_rely hl2)
  refine Goes.stop (fun _ r₁ => ?_)
  replace hF := kj_rely hl2 hF r₁
  clear r₁
  refine goW_mine rfl rfl (by k_ne) rfl (.inl rfl) rfl loud11 hm2 (hl2 _ hmem) (hF.cell hmem).1 fun _ r₁ => ?_
  replace hF := kj_rely hl2 hF r₁
  clear r₁
  refine goW0 (n := 20) (m := 30 + mT + 1) ?_
  walk_nrm
  repeat w_go (kj_rely hl2)
  refine Goes.stop (fun _ r₁ => ?_)
  replace hF := kj_rely hl2 hF r₁
  clear r₁
  refine goW_mine rfl rfl (by k_ne) rfl (.inl rfl) rfl loud11 hm2 (hl2 _ hmem) (hF.cell hmem).2.1 fun _ r₁ => ?_
  replace hF := kj_rely hl2 hF r₁
  clear r₁
  refine goW0 (n := 30) (m := mT) ?_
  walk_nrm
  repeat w_go (kj_rely hl2)
  u_leave1 Try.func11 (kj_rely hl2) hF
  refine Goes.stop (fun _ r₁ => ?_)
  replace hF := kj_rely hl2 hF r₁
  clear r₁
  exact hT' _ hF
end
noncomputable def body9 : Code := Try.f9.body.getD .skip
def opsOf : Code → Array Oper
  | .region _ ops _ => ops
  | _ => #[]
noncomputable def ops9 : Array Oper := opsOf (firstC (rightC body9))
theorem fb9 : Try.f9.body = some body9 := by simp only [body9, Try.f9, Option.getD_some]
theorem nt9 : Try.f9.ntmps = 12 := by kernel_rfl
theorem res9 : Try.f9.results = #[.cell 4 30] := by kernel_rfl
theorem body9_eq : body9 = .seq (firstC body9) (.seq (.region 1 ops9 true) .ret) := by
  simp only [ops9, opsOf, body9, firstC, rightC, Try.f9, Option.getD_some]
set_option maxRecDepth 100000 in
theorem ready9 : ∀ d0 d1 d2 d3 d4 d5 d6 d7 : Bool, ∀ i ∈ Region.ready .any ops9 #[d0, d1, d2, d3, d4, d5, d6, d7], (i = 0 ∧ d0 = false) ∨ (i = 1 ∧ d1 = false) ∨ (i = 2 ∧ d2 = false ∧ d0 = true ∧ d1 = true) ∨ (i = 3 ∧ d3 = false) ∨ (i = 4 ∧ d4 = false ∧ d3 = true) ∨ (i = 5 ∧ d5 = false ∧ d4 = true) ∨ (i = 6 ∧ d6 = false ∧ d2 = true ∧ d5 = true) ∨ (i = 7 ∧ d7 = false ∧ d6 = true ∧ d2 = true) := by
  intro d0 d1 d2 d3 d4 d5 d6 d7
  cases d0 <;> cases d1 <;> cases d2 <;> cases d3 <;> cases d4 <;> cases d5 <;> cases d6 <;> cases d7 <;> decide +kernel
set_option maxRecDepth 100000 in
theorem done9 : ∀ d0 d1 d2 d3 d4 d5 d6 d7 : Bool, Region.ready .any ops9 #[d0, d1, d2, d3, d4, d5, d6, d7] = [] → d0 = true ∧ d1 = true ∧ d2 = true ∧ d3 = true ∧ d4 = true ∧ d5 = true ∧ d6 = true ∧ d7 = true := by
  intro d0 d1 d2 d3 d4 d5 d6 d7
  cases d0 <;> cases d1 <;> cases d2 <;> cases d3 <;> cases d4 <;> cases d5 <;> cases d6 <;> cases d7 <;> decide +kernel
theorem size9 : ops9.size = 8 := by kernel_rfl
end Go.Proofs.Ytapjmifhhbpikaa

/- The gang, pairs: Two by a worker. (Printed by pd.py.) -/
set_option linter.unusedVariables false
set_option linter.unusedSimpArgs false
namespace Go.Proofs.Ytapjmifhhbpikaa
open Go.Conc Go.ConcN Go.ConcM Go.RowKit Go.Conc.Lib Go.ConcR.Gen
open Go.ConcR (KK wgBlock WgAt stA smA rd wr mk)
section
variable {Fa : Nat → Th → Array Value → Goroutine → World → Prop} {K : Band} [Fam K Fa] {W : World} {b₁ : Frame} {a₁ : Act} {ops₁ : Array Oper} {i₁ : Nat} {rest₁ : List Nat} {k₁ : List Item} {cs₁ : List Frame} {v : Array Value} {A B : Int} {j n5 b1 b2 : Nat}
/-- What is said of a region some of whose operations have come up. -/
def QTwo (Fa : Nat → Th → Array Value → Goroutine → World → Prop) (K : Band) (W : World) (b₁ : Frame) (a₁ : Act) (ops₁ : Array Oper) (i₁ : Nat) (rest₁ : List Nat) (k₁ : List Item) (cs₁ : List Frame) (v : Array Value) (A B : Int) (j n5 b1 b2 : Nat) (D : Array Bool) (l : List Nat) : Prop :=
  ∀ d0 d1 d2 d3 d4 d5 d6 d7 : Bool, D = #[d0, d1, d2, d3, d4, d5, d6, d7] →
    (d2 = true → ∀ k bk, bk ≠ b1 → bk ≠ b2 → ∃ n, ∀ w, KO K W ([(bk, .cells #[.int .i64 A, .int .i64 B] 23), (b2, (bif d7 then Obj.cells #[.int .i64 (doV A B j), .string (jobS.extract 0 n5)] 30 else Obj.cells #[.int .i64 0, .string { data := #[] }] 30)), (b1, .cells #[.int .i64 A, .int .i64 B] 23)] : List (Nat × Obj)) w → GoW Try.prog K ({ pc := .bx, it := 1, job := j, blk := [bk, b2, b1] } : Th) (Fa k ({ pc := .bx, it := 1, job := j, blk := [bk, b2, b1] } : Th) v) n (G ((base 9).at ⟨#[.agg #[.int .i64 A, .int .i64 B], .int .i64 (j : Int), .pointer (some ⟨b1, 0, none⟩), undef, .pointer (some ⟨b2, 0, none⟩), bif d0 then .agg #[.int .i64 A, .int .i64 B] else undef, bif d1 then .int .i64 (j : Int) else undef, bif d2 then .int .i64 (doV A B j) else undef, bif d3 then .int .i64 (j : Int) else undef, bif d4 then .int .i64 (n5 : Int) else undef, bif d5 then .string (jobS.extract 0 n5) else undef, bif d6 then .agg #[.int .i64 (doV A B j), .string (jobS.extract 0 n5)] else undef], []⟩ [.inRegion ops9 l, .code .ret]) (b₁.at a₁ (.inRegion ops₁ (i₁ :: rest₁) :: k₁) :: cs₁)) w) ∧
    (d2 = false → d7 = false → ∀ k w, KO K W ([(b2, .cells #[.int .i64 0, .string { data := #[] }] 30), (b1, .cells #[.int .i64 A, .int .i64 B] 23)] : List (Nat × Obj)) w → GoW Try.prog K ({ pc := .bx, it := 2, job := j, blk := [b2, b1] } : Th) (Fa k ({ pc := .bx, it := 2, job := j, blk := [b2, b1] } : Th) v) (20 * l.length + 20) (G ((base 9).at ⟨#[.agg #[.int .i64 A, .int .i64 B], .int .i64 (j : Int), .pointer (some ⟨b1, 0, none⟩), undef, .pointer (some ⟨b2, 0, none⟩), bif d0 then .agg #[.int .i64 A, .int .i64 B] else undef, bif d1 then .int .i64 (j : Int) else undef, bif d2 then .int .i64 (doV A B j) else undef, bif d3 then .int .i64 (j : Int) else undef, bif d4 then .int .i64 (n5 : Int) else undef, bif d5 then .string (jobS.extract 0 n5) else undef, bif d6 then .agg #[.int .i64 (doV A B j), .string (jobS.extract 0 n5)] else undef], []⟩ [.inRegion ops9 l, .code .ret]) (b₁.at a₁ (.inRegion ops₁ (i₁ :: rest₁) :: k₁) :: cs₁)) w)
theorem l2_in {bk b2 b1 : Nat} {x2 : Obj} : ∀ x ∈ ([(bk, .cells #[.int .i64 A, .int .i64 B] 23), (b2, x2), (b1, .cells #[.int .i64 A, .int .i64 B] 23)] : List (Nat × Obj)), x.1 ∈ ({ pc := .bx, it := 1, job := j, blk := [bk, b2, b1] } : Th).blk := fun x hx => by
  simp only [List.mem_cons, List.not_mem_nil, or_false] at hx
  rcases hx with rfl | rfl | rfl <;> simp
theorem l1_in {b2 b1 : Nat} : ∀ x ∈ ([(b2, .cells #[.int .i64 0, .string { data := #[] }] 30), (b1, .cells #[.int .i64 A, .int .i64 B] 23)] : List (Nat × Obj)), x.1 ∈ ({ pc := .bx, it := 2, job := j, blk := [b2, b1] } : Th).blk := fun x hx => by
  simp only [List.mem_cons, List.not_mem_nil, or_false] at hx
  rcases hx with rfl | rfl <;> simp
set_option maxRecDepth 100000 in
set_option maxHeartbeats 8000000 in
theorem two_step (hne : b1 ≠ b2) (hn5 : n5 = j % 5) {Dd : Array Bool} {i : Nat} {l : List Nat} (hs : Dd.size = ops9.size) (hi : i ∈ Region.ready .any ops9 Dd)
    (IH : QTwo Fa K W b₁ a₁ ops₁ i₁ rest₁ k₁ cs₁ v A B j n5 b1 b2 (Dd.setIfInBounds i true) l) : QTwo Fa K W b₁ a₁ ops₁ i₁ rest₁ k₁ cs₁ v A B j n5 b1 b2 Dd (i :: l) := by
  intro d0 d1 d2 d3 d4 d5 d6 d7 hD
  subst hD
  unfold QTwo at IH
  have hc := ready9 d0 d1 d2 d3 d4 d5 d6 d7 i hi
  clear hi hs
  generalize hX : ops9 = X at IH ⊢
  simp only [ops9, opsOf, body9, firstC, rightC, Try.f9, Option.getD_some] at hX
  subst hX
  have h4 : n5 ≤ 4 := by omega
  rcases hc with ⟨rfl, rfl⟩ | ⟨rfl, rfl⟩ | ⟨rfl, rfl, rfl, rfl⟩ | ⟨rfl, rfl⟩ | ⟨rfl, rfl, rfl⟩ | ⟨rfl, rfl, rfl⟩ | ⟨rfl, rfl, rfl, rfl⟩ | ⟨rfl, rfl, rfl, rfl⟩
  · obtain ⟨IHp, IHq⟩ := IH true _ _ _ _ _ _ _ rfl
    refine ⟨fun e2 k bk h1 h2 => ?_, fun e2 e7 k w hF => ?_⟩
    · obtain ⟨n, hn⟩ := IHp e2 k bk h1 h2
      refine ⟨n + 1, fun w hF => ?_⟩
      refine goW_ld2 (.inr rfl) (bk := b1) (X := .int .i64 A) (Y := .int .i64 B) (t := 23) l2_in hF rfl rfl (by k_ne) rfl rfl loud9 rfl (by simp) fun w₁ hF => ?_
      exact hn w₁ hF
    · rw [show 20 * (0 :: l).length + 20 = (20 * l.length + 39) + 1 by simp; omega]
      refine goW_ld2 (.inr rfl) (bk := b1) (X := .int .i64 A) (Y := .int .i64 B) (t := 23) l1_in hF rfl rfl (by k_ne) rfl rfl loud9 rfl (by simp) fun w₁ hF => ?_
      exact goes_le (by omega) (IHq e2 e7 k w₁ hF)
  · obtain ⟨IHp, IHq⟩ := IH _ true _ _ _ _ _ _ rfl
    refine ⟨fun e2 k bk h1 h2 => ?_, fun e2 e7 k w hF => ?_⟩
    · obtain ⟨n, hn⟩ := IHp e2 k bk h1 h2
      refine ⟨n + 1, fun w hF => ?_⟩
      refine goW_val l2_in hF rfl rfl (by k_ne) (run_move rfl rfl) fun w₁ hF => ?_
      exact hn w₁ hF
    · rw [show 20 * (1 :: l).length + 20 = (20 * l.length + 39) + 1 by simp; omega]
      refine goW_val l1_in hF rfl rfl (by k_ne) (run_move rfl rfl) fun w₁ hF => ?_
      exact goes_le (by omega) (IHq e2 e7 k w₁ hF)
  · obtain ⟨IHp, IHq⟩ := IH _ _ true _ _ _ _ _ rfl
    refine ⟨fun e2 => (by cases e2), fun e2 e7 k w hF => ?_⟩
    subst e7
    rw [show 20 * (2 :: l).length + 20 = (20 * l.length + 39) + 1 by simp; omega]
    refine goW_call rfl rfl (by k_ne) rfl rfl Try.func11 nm11 fb11 fun w₁ r => ?_
    replace hF := kj_rely l1_in hF r
    simp only [nt11]
    walk_nrm
    refine goes_le (by omega) (doGoB (n := 1) (p := .bx) A B j k rfl (by show 1 < 2; omega) (.inl rfl) l1_in hF ?_)
    intro k' bk hbk
    obtain ⟨n, hn⟩ := IHp rfl k' bk (fun e => hbk (b1, .cells #[.int .i64 A, .int .i64 B] 23) (by simp) e.symm) (fun e => hbk (b2, .cells #[.int .i64 0, .string { data := #[] }] 30) (by simp) e.symm)
    exact ⟨n, fun w hF => hn w hF⟩
  · obtain ⟨IHp, IHq⟩ := IH _ _ _ true _ _ _ _ rfl
    refine ⟨fun e2 k bk h1 h2 => ?_, fun e2 e7 k w hF => ?_⟩
    · obtain ⟨n, hn⟩ := IHp e2 k bk h1 h2
      refine ⟨n + 1, fun w hF => ?_⟩
      refine goW_val l2_in hF rfl rfl (by k_ne) (run_move rfl rfl) fun w₁ hF => ?_
      exact hn w₁ hF
    · rw [show 20 * (3 :: l).length + 20 = (20 * l.length + 39) + 1 by simp; omega]
      refine goW_val l1_in hF rfl rfl (by k_ne) (run_move rfl rfl) fun w₁ hF => ?_
      exact goes_le (by omega) (IHq e2 e7 k w₁ hF)
  · obtain ⟨IHp, IHq⟩ := IH _ _ _ _ true _ _ _ rfl
    refine ⟨fun e2 k bk h1 h2 => ?_, fun e2 e7 k w hF => ?_⟩
    · obtain ⟨n, hn⟩ := IHp e2 k bk h1 h2
      refine ⟨n + 1, fun w hF => ?_⟩
      refine goW_val l2_in hF rfl rfl (by k_ne) (run_rem5 rfl rfl hn5) fun w₁ hF => ?_
      exact hn w₁ hF
    · rw [show 20 * (4 :: l).length + 20 = (20 * l.length + 39) + 1 by simp; omega]
      refine goW_val l1_in hF rfl rfl (by k_ne) (run_rem5 rfl rfl hn5) fun w₁ hF => ?_
      exact goes_le (by omega) (IHq e2 e7 k w₁ hF)
  · obtain ⟨IHp, IHq⟩ := IH _ _ _ _ _ true _ _ rfl
    refine ⟨fun e2 k bk h1 h2 => ?_, fun e2 e7 k w hF => ?_⟩
    · obtain ⟨n, hn⟩ := IHp e2 k bk h1 h2
      refine ⟨n + 1, fun w hF => ?_⟩
      refine goW_val l2_in hF rfl rfl (by k_ne) (run_str rfl h4 rfl) fun w₁ hF => ?_
      exact hn w₁ hF
    · rw [show 20 * (5 :: l).length + 20 = (20 * l.length + 39) + 1 by simp; omega]
      refine goW_val l1_in hF rfl rfl (by k_ne) (run_str rfl h4 rfl) fun w₁ hF => ?_
      exact goes_le (by omega) (IHq e2 e7 k w₁ hF)
  · obtain ⟨IHp, IHq⟩ := IH _ _ _ _ _ _ true _ rfl
    refine ⟨fun e2 k bk h1 h2 => ?_, fun e2 e7 k w hF => ?_⟩
    · obtain ⟨n, hn⟩ := IHp e2 k bk h1 h2
      refine ⟨n + 1, fun w hF => ?_⟩
      refine goW_val l2_in hF rfl rfl (by k_ne) (run_build30 rfl rfl rfl) fun w₁ hF => ?_
      exact hn w₁ hF
    · cases e2
  · obtain ⟨IHp, IHq⟩ := IH _ _ _ _ _ _ _ true rfl
    refine ⟨fun e2 k bk h1 h2 => ?_, fun e2 e7 k w hF => (by cases e2)⟩
    obtain ⟨n, hn⟩ := IHp e2 k bk h1 h2
    refine ⟨n + 1, fun w hF => ?_⟩
    refine goW_st30 (l' := ([(bk, .cells #[.int .i64 A, .int .i64 B] 23), (b2, .cells #[.int .i64 (doV A B j), .string (jobS.extract 0 n5)] 30), (b1, .cells #[.int .i64 A, .int .i64 B] 23)] : List (Nat × Obj))) (bk := b2) (X0 := .int .i64 0) (Y0 := .string { data := #[] }) l2_in hF rfl rfl (by k_ne) rfl rfl rfl loud9 rfl rfl (by simp) (fun x hx => ?_) fun w₁ hF => ?_
    · simp only [List.mem_cons, List.not_mem_nil, or_false] at hx
      rcases hx with rfl | rfl | rfl
      · exact .inr ⟨h2, by simp⟩
      · exact .inl rfl
      · exact .inr ⟨hne, by simp⟩
    exact hn w₁ hF
omit [Fam K Fa] in
set_option maxRecDepth 100000 in
set_option maxHeartbeats 8000000 in
theorem two_end (hd : ∀ k bk, bk ≠ b1 → bk ≠ b2 → ∃ m, ∀ w, KO K W ([(bk, .cells #[.int .i64 A, .int .i64 B] 23), (b2, .cells #[.int .i64 (doV A B j), .string (jobS.extract 0 n5)] 30), (b1, .cells #[.int .i64 A, .int .i64 B] 23)] : List (Nat × Obj)) w → GoW Try.prog K ({ pc := .bx, it := 1, job := j, blk := [bk, b2, b1] } : Th) (Fa k ({ pc := .bx, it := 1, job := j, blk := [bk, b2, b1] } : Th) v) m (G (b₁.at (a₁.put ((ops₁[i₁]?).bind (·.dst)) (.agg #[.int .i64 (doV A B j), .string (jobS.extract 0 n5)])) (.inRegion ops₁ rest₁ :: k₁)) cs₁) w) {Dd : Array Bool} (hs : Dd.size = ops9.size) (hi : Region.ready .any ops9 Dd = []) :
    QTwo Fa K W b₁ a₁ ops₁ i₁ rest₁ k₁ cs₁ v A B j n5 b1 b2 Dd [] := by
  intro d0 d1 d2 d3 d4 d5 d6 d7 hD
  subst hD
  obtain ⟨rfl, rfl, rfl, rfl, rfl, rfl, rfl, rfl⟩ := done9 d0 d1 d2 d3 d4 d5 d6 d7 hi
  refine ⟨fun _ k bk h1 h2 => ?_, fun e => (by cases e)⟩
  obtain ⟨m, hm⟩ := hd k bk h1 h2
  refine ⟨10 + (m + 1), fun w hF => ?_⟩
  replace hF : KO K W ([(bk, .cells #[.int .i64 A, .int .i64 B] 23), (b2, .cells #[.int .i64 (doV A B j), .string (jobS.extract 0 n5)] 30), (b1, .cells #[.int .i64 A, .int .i64 B] 23)] : List (Nat × Obj)) w := hF
  have hl := l2_in (bk := bk) (b2 := b2) (b1 := b1) (j := j) (A := A) (B := B) (x2 := .cells #[.int .i64 (doV A B j), .string (jobS.extract 0 n5)] 30)
  refine goW0 (n := 10) (m := m + 1) ?_
  simp only [cond_true]
  repeat w_go (kj_rely hl)
  refine Goes.stop (fun _ r₁ => ?_)
  replace hF := kj_rely hl hF r₁
  clear r₁
  refine Goes.step (n := m) rfl fun w₁ r => ?_
  have hF1 := kj_rely hl hF r
  obtain ⟨c0, c1, _, _, hlt⟩ := hF1.cell (b := b2) (X := .int .i64 (doV A B j)) (Y := .string (jobS.extract 0 n5)) (t := 30) (by simp)
  have hr := results_cell (bk := b2) (tm := ⟨[.agg #[.int .i64 A, .int .i64 B], .int .i64 (j : Int), .pointer (some ⟨b1, 0, none⟩), undef, .pointer (some ⟨b2, 0, none⟩), .agg #[.int .i64 A, .int .i64 B], .int .i64 (j : Int), .int .i64 (doV A B j), .int .i64 (j : Int), .int .i64 (n5 : Int), .string (jobS.extract 0 n5), .agg #[.int .i64 (doV A B j), .string (jobS.extract 0 n5)]]⟩) rfl res9 rfl w₁ c0 c1
  rw [stepG_leaveE rfl rfl Try.func9 hr.1 hr.2, seen_eq loud9 (by simp)]
  simp only [goes_go]
  refine ⟨⟨rfl, rfl, rfl, rfl, fun _ _ _ => rfl, fun _ h => h, fun e he => ?_, (fun h => by cases h)⟩, ?_⟩
  · simp at he
    rcases he with rfl | rfl <;> exact ev_plain hlt (.inr (.inl (by simp)))
  · rw [Frame.finish_at]
    exact hm w₁ hF1
noncomputable def ops90 : Array Oper := opsOf (firstC body9)
set_option maxRecDepth 100000 in
set_option maxHeartbeats 8000000 in
/-- ████ Two, BY A WORKER. ████ -/
theorem twoGo (k : Nat) (hn5 : n5 = j % 5) (hd : ∀ k b1 b2 bk, b1 ≠ b2 → bk ≠ b1 → bk ≠ b2 → ∃ m, ∀ w, KO K W ([(bk, .cells #[.int .i64 A, .int .i64 B] 23), (b2, .cells #[.int .i64 (doV A B j), .string (jobS.extract 0 n5)] 30), (b1, .cells #[.int .i64 A, .int .i64 B] 23)] : List (Nat × Obj)) w → GoW Try.prog K ({ pc := .bx, it := 1, job := j, blk := [bk, b2, b1] } : Th) (Fa k ({ pc := .bx, it := 1, job := j, blk := [bk, b2, b1] } : Th) v) m (G (b₁.at (a₁.put ((ops₁[i₁]?).bind (·.dst)) (.agg #[.int .i64 (doV A B j), .string (jobS.extract 0 n5)])) (.inRegion ops₁ rest₁ :: k₁)) cs₁) w) {w : World} (hF : KO K W [] w) :
    GoW Try.prog K ({ pc := .bx, it := 4, job := j, blk := [] } : Th) (Fa k ({ pc := .bx, it := 4, job := j, blk := [] } : Th) v) 10 (G ((base 9).at ⟨#[.agg #[.int .i64 A, .int .i64 B], .int .i64 (j : Int), undef, undef, undef, undef, undef, undef, undef, undef, undef, undef], []⟩ [.code body9]) (b₁.at a₁ (.inRegion ops₁ (i₁ :: rest₁) :: k₁) :: cs₁)) w := by
  have l0 : ∀ x ∈ ([] : List (Nat × Obj)), x.1 ∈ ({ pc := .bx, it := 4, job := j, blk := [] } : Th).blk := fun x hx => by cases hx
  refine goW0 (n := 10) (m := 0) ?_
  rw [body9_eq]
  generalize q0 : firstC body9 = X0
  simp only [body9, firstC, Try.f9, Option.getD_some] at q0
  subst q0
  repeat w_go (kj_rely l0)
  refine Goes.stop (fun _ r₁ => ?_)
  replace hF := kj_rely l0 hF r₁
  clear r₁
  refine goW_new (n := 3) (p := .bx) rfl (by show 3 < 4; omega) (.inl rfl) l0 hF rfl rfl (by k_ne) (v' := fun s => .pointer (some ⟨s, 0, none⟩)) (run_box23 rfl rfl) ?_
  clear hF
  intro k1 b1 _
  refine ⟨10, fun w hF => ?_⟩
  have l1 : ∀ x ∈ ([(b1, .cells #[.int .i64 A, .int .i64 B] 23)] : List (Nat × Obj)), x.1 ∈ ({ pc := .bx, it := 3, job := j, blk := [b1] } : Th).blk := fun x hx => by simp at hx; subst hx; simp
  show GoW Try.prog K ({ pc := .bx, it := 3, job := j, blk := [b1] } : Th) (Fa k1 ({ pc := .bx, it := 3, job := j, blk := [b1] } : Th) v) 10 _ w
  refine goW0 (n := 10) (m := 0) ?_
  walk_nrm
  repeat w_go (kj_rely l1)
  refine Goes.stop (fun _ r₁ => ?_)
  replace hF := kj_rely l1 hF r₁
  clear r₁
  refine goW_new (n := 2) (p := .bx) rfl (by show 2 < 3; omega) (.inl rfl) l1 hF rfl rfl (by k_ne) (v' := fun s => .pointer (some ⟨s, 0, none⟩)) (run_alloc30 rfl) ?_
  clear hF
  intro k2 b2 h2
  have hne : b1 ≠ b2 := h2 (b1, .cells #[.int .i64 A, .int .i64 B] 23) (by simp)
  refine ⟨10 + ((180) + 1), fun w hF => ?_⟩
  have l2 : ∀ x ∈ ([(b2, .cells #[.int .i64 0, .string { data := #[] }] 30), (b1, .cells #[.int .i64 A, .int .i64 B] 23)] : List (Nat × Obj)), x.1 ∈ ({ pc := .bx, it := 2, job := j, blk := [b2, b1] } : Th).blk := l1_in
  show GoW Try.prog K ({ pc := .bx, it := 2, job := j, blk := [b2, b1] } : Th) (Fa k2 ({ pc := .bx, it := 2, job := j, blk := [b2, b1] } : Th) v) (10 + ((180) + 1)) _ w
  refine goW0 (n := 10) (m := 180 + 1) ?_
  walk_nrm
  repeat w_go (kj_rely l2)
  refine Goes.stop (fun _ r₁ => ?_)
  replace hF := kj_rely l2 hF r₁
  clear r₁
  refine goW_draw (n := 180) (l := ([(b2, .cells #[.int .i64 0, .string { data := #[] }] 30), (b1, .cells #[.int .i64 A, .int .i64 B] 23)] : List (Nat × Obj))) l2 hF fun t w₁ hF => ?_
  have key := lin_ind (md := .any) (ops := ops9) (Q := QTwo Fa K W b₁ a₁ ops₁ i₁ rest₁ k₁ cs₁ v A B j n5 b1 b2) (fun Dd hs hi => two_end (hd := fun k bk h1 h2 => hd k b1 b2 bk hne h1 h2) hs hi) (fun Dd i l hs hi IH => two_step hne hn5 hs hi IH) ops9.size t (Array.replicate ops9.size false) (by simp) (by simp [left, List.countP_replicate])
  have hl := key.2
  have e9 := size9
  have h := ((key.1 false false false false false false false false (by rw [size9]; rfl)).2 rfl rfl k2 w₁ hF)
  exact goes_le (by omega) h
end
end Go.Proofs.Ytapjmifhhbpikaa

/- The gang, pairs: Each's closure, by a worker. -/
set_option linter.unusedVariables false
set_option linter.unusedSimpArgs false
namespace Go.Proofs.Ytapjmifhhbpikaa
open Go.Conc Go.ConcN Go.ConcM Go.RowKit Go.Conc.Lib Go.ConcR.Gen
open Go.ConcR (KK wgBlock WgAt stA smA rd wr mk)
theorem Kn.trans {K : Band} {W w w' : World} (a : Kn K W w) (b : Kn K w w') : Kn K W w' :=
  ⟨b.live, fun k hk => (b.still k hk).trans (a.still k hk), b.B, b.tape.trans a.tape, b.output.trans a.output, a.os.trans b.os⟩
theorem Kn.here {K : Band} {W w : World} (a : Kn K W w) : Kn K w w := ⟨a.live, fun _ _ => rfl, a.B, rfl, rfl, .refl _⟩
theorem kr_rely {K : Band} {W w w₁ : World} {l : List (Nat × Obj)} {mine : List Nat} {cs : Array Value} (hm : ∀ x ∈ l, x.1 ∈ mine) (h : KO K W l w ∧ CAt K cs w) (r : RB K true mine w w₁) : KO K W l w₁ ∧ CAt K cs w₁ :=
  ⟨kj_rely hm h.1 r, (r.keep rfl).trans h.2⟩
theorem CAt.set2 {K : Band} {cs : Array Value} {w : World} (h : CAt K cs w) (f : Nat) (X Y : Value) : CAt K ((cs.setIfInBounds f X).setIfInBounds (f + 1) Y) ((w.setCell ⟨K.C, f, none⟩ X).setCell ⟨K.C, f + 1, none⟩ Y) := (h.set f X).set (f + 1) Y
theorem db_row2 {K : Band} {cs : Array Value} {w : World} {mine : List Nat} (h : CAt K cs w) (hs : cs.size = K.sz) (hC : K.C < w.heap.size) (f : Nat) (X Y : Value) : DB K false mine true false w ((w.setCell ⟨K.C, f, none⟩ X).setCell ⟨K.C, f + 1, none⟩ Y) #[⟨.cell ⟨K.C, f, none⟩, true, false⟩, ⟨.cell ⟨K.C, f + 1, none⟩, true, false⟩] := by
  have A0 := aside_setCell w ⟨K.C, f, none⟩ X
  have A1 := aside_setCell (w.setCell ⟨K.C, f, none⟩ X) ⟨K.C, f + 1, none⟩ Y
  refine ⟨A1.tape.trans A0.tape, A1.output.trans A0.output, A1.os.trans A0.os, A1.size.trans A0.size, fun k _ hk => (A1.block k (hk rfl)).trans (A0.block k (hk rfl)), fun _ _ => ⟨_, h.set2 f X Y, by simp [hs]⟩, fun e he => ?_, (fun h => by cases h)⟩
  simp at he
  rcases he with rfl | rfl <;> exact ev_plain hC (.inr (.inr ⟨rfl, rfl⟩))
theorem Kn.row2 {K : Band} {W w : World} {cs : Array Value} (h : Kn K W w) (hc : CAt K cs w) (hs : cs.size = K.sz) (f : Nat) (X Y : Value) : Kn K W ((w.setCell ⟨K.C, f, none⟩ X).setCell ⟨K.C, f + 1, none⟩ Y) :=
  (h.row hc hs f X).row (hc.set f X) (by simp [hs]) (f + 1) Y
section
variable {K : Band} {W : World} {T : Th} {Nx : Goroutine → World → Prop} {n : Nat} {b : Frame} {a : Act} {kk : List Item} {cs : List Frame} {w : World} {ops : Array Oper} {i : Nat} {rest : List Nat} {o : Oper} {l : List (Nat × Obj)} {cr : Array Value}
/-- A LOAD of two cells of its own, BY THE ROW's OWNER. -/
theorem goW_ld2r {ty : TypeId} (hty : ty = 30 ∨ ty = 23) {x : Operand} {bk : Nat} {X Y : Value} {t : TypeId} (hl : ∀ x ∈ l, x.1 ∈ T.blk) (how : T.owns = true) (hF : KO K W l w ∧ CAt K cr w) (ho : ops[i]? = some o) (hw : Region.wanted o (yielded ops a.tmps) = true) (hk : b.kind ≠ .early)
    (hop : o.op = .load ty x) (hx : a.eval x = .pointer (some ⟨bk, 0, none⟩)) (hq : (Try.prog.funcs[b.fn]?).any (·.norace) = false) (hm : T.mute = false) (hb : (bk, .cells #[X, Y] t) ∈ l)
    (hgo : ∀ w₁, KO K W l w₁ ∧ CAt K cr w₁ → GoW Try.prog K T Nx n (G (b.at (a.put o.dst (.agg #[X, Y])) (.inRegion ops rest :: kk)) cs) w₁) : GoW Try.prog K T Nx (n + 1) (G (b.at a (.inRegion ops (i :: rest) :: kk)) cs) w := by
  refine Goes.step rfl fun w₁ r => ?_
  have hF1 := kr_rely hl hF (by rw [how] at r; exact r)
  obtain ⟨c0, c1, _, _, hlt⟩ := hF1.1.cell hb
  have hr := run_ld2 hty hop hx w₁ c0 c1
  rw [stepG_value ho hw hk hr.1]
  unfold listed
  rw [hr.2, seen_eq hq (by simp)]
  simp only [goes_go]
  refine ⟨?_, hgo _ hF1⟩
  rw [hm]
  have hbm := hl _ hb
  refine ⟨rfl, rfl, rfl, rfl, fun _ _ _ => rfl, fun _ h => h, fun e he => ?_, (fun h => by cases h)⟩
  simp at he
  rcases he with rfl | rfl <;> exact ev_plain hlt (.inr (.inl hbm))
end
theorem stepG_st30 {main : Bool} {b : Frame} {a : Act} {kk : List Item} {cs : List Frame} {w : World} {ops : Array Oper} {i : Nat} {rest : List Nat} {o : Oper} {x y : Operand} {p f : Nat} {X0 Y0 : Value} {X : Int} {Y : ByteArray} (ho : ops[i]? = some o) (hw : Region.wanted o (yielded ops a.tmps) = true) (hk : b.kind ≠ .early) (hop : o.op = .store 30 x y) (hx : a.eval x = .pointer (some ⟨p, f, none⟩)) (hy : a.eval y = .agg #[.int .i64 X, .string Y]) (h0 : w.cell? ⟨p, f, none⟩ = some X0) (h1 : w.cell? ⟨p, f + 1, none⟩ = some Y0) (z0 : w.frozen? ⟨p, f, none⟩ = false) (z1 : w.frozen? ⟨p, f + 1, none⟩ = false) (hq : (Try.prog.funcs[b.fn]?).any (·.norace) = false) :
    stepG Try.prog main (G (b.at a (.inRegion ops (i :: rest) :: kk)) cs) w = .go (G (b.at (a.put o.dst undef) (.inRegion ops rest :: kk)) cs) ((w.setCell ⟨p, f, none⟩ (.int .i64 X)).setCell ⟨p, f + 1, none⟩ (.string Y)) #[⟨.cell ⟨p, f, none⟩, true, false⟩, ⟨.cell ⟨p, f + 1, none⟩, true, false⟩] := by
  have hr := run_st30 hop hx hy w h0 h1 z0 z1
  rw [stepG_none ho hw hk hr.1]
  unfold listed
  rw [hr.2, seen_eq hq (by simp)]
noncomputable def body18 : Code := Try.f18.body.getD .skip
section
variable {Fa : Nat → Th → Array Value → Goroutine → World → Prop} {K : Band} [Fam K Fa] {W : World} {b₁ : Frame} {a₁ : Act} {ops₁ : Array Oper} {i₁ : Nat} {rest₁ : List Nat} {k₁ : List Item} {cs₁ : List Frame} {Q D F O : Nat}
set_option maxRecDepth 100000 in
set_option maxHeartbeats 16000000 in
/-- ████ Each's CLOSURE OVER PAIRS, BY A WORKER. ████ -/
theorem each2Go {A B : Int} (E : Env K W Q D F O 18 (.func (.func 9) #[.agg #[.int .i64 A, .int .i64 B]] #[])) (hnb : K.nb = 4) (hsz : K.sz = 2 * K.J) (j : Nat) (hj : j < K.J) (hput : ∀ cs, K.put j cs = (cs.setIfInBounds (j * 2) (.int .i64 (doV A B j))).setIfInBounds (j * 2 + 1) (.string (jobS.extract 0 (j % 5)))) (k : Nat) (v : Array Value)
    (hT : ∀ v k', ∃ m, ∀ w, Kn K W w → GoW Try.prog K { pc := .rc } (Fa k' { pc := .rc } v) m (G (b₁.at (a₁.put ((ops₁[i₁]?).bind (·.dst)) (.tuple #[])) (.inRegion ops₁ rest₁ :: k₁)) cs₁) w) (w : World) (hF : Kn K W w) :
    GoW Try.prog K { pc := .bx, job := j, it := K.nb } (Fa k { pc := .bx, job := j, it := K.nb } v) 62 (G ((base 18).at ⟨#[.int .i64 (j : Int), .pointer (some ⟨F, 0, none⟩), .pointer (some ⟨K.Mu, 0, none⟩), .pointer (some ⟨O, 0, none⟩), undef, undef, undef, undef, undef, undef, undef, undef, undef, undef], []⟩ [.code body18]) (b₁.at a₁ (.inRegion ops₁ (i₁ :: rest₁) :: k₁) :: cs₁)) w := by
  rw [hnb]
  refine goW0 (n := 20) (m := 42) ?_
  simp only [body18, Try.f18, Option.getD_some]
  repeat w_go Kn.rely
  refine Goes.stop (fun _ r₁ => ?_)
  replace hF := Kn.rely hF r₁
  clear r₁
  refine goW_still (n := 41) rfl rfl (by k_ne) rfl (by simp) rfl loud18 rfl E.sF E.nF (hF.cell E.sF E.cF) fun _ r₁ => ?_
  replace hF := Kn.rely hF r₁
  clear r₁
  refine goW0 (n := 20) (m := 21) ?_
  walk_nrm
  repeat w_go Kn.rely
  refine Goes.stop (fun _ r₁ => ?_)
  replace hF := Kn.rely hF r₁
  clear r₁
  refine goW_call (n := 20) rfl rfl (by k_ne) rfl rfl Try.func9 nm9 fb9 fun _ r₁ => ?_
  replace hF := Kn.rely hF r₁
  clear r₁
  simp only [nt9]
  walk_nrm
  refine goes_le (by omega) (twoGo (A := A) (B := B) (n5 := j % 5) k rfl ?_ ⟨hF, fun x hx => by cases hx⟩)
  clear hF
  intro k1 b1 b2 bk hne h1 h2
  have l2 : ∀ x ∈ ([(bk, .cells #[.int .i64 A, .int .i64 B] 23), (b2, .cells #[.int .i64 (doV A B j), .string (jobS.extract 0 (j % 5))] 30), (b1, .cells #[.int .i64 A, .int .i64 B] 23)] : List (Nat × Obj)), x.1 ∈ ({ pc := .bx, it := 1, job := j, blk := [bk, b2, b1] } : Th).blk := l2_in
  refine ⟨20, fun w hF => ?_⟩
  refine goW0 (n := 20) (m := 0) ?_
  walk_nrm
  repeat w_go (kj_rely l2)
  refine Goes.stop (fun _ r₁ => ?_)
  replace hF := kj_rely l2 hF r₁
  clear r₁
  refine goW_new (n := 0) (p := .ld) rfl (by show 0 < 1; omega) (.inr rfl) l2 hF rfl rfl (by k_ne) (v' := fun s => .pointer (some ⟨s, 0, none⟩)) (run_alloc30 rfl) ?_
  clear hF
  intro k' b4 hb4
  have l3 : ∀ x ∈ ([(b4, .cells #[.int .i64 0, .string { data := #[] }] 30), (bk, .cells #[.int .i64 A, .int .i64 B] 23), (b2, .cells #[.int .i64 (doV A B j), .string (jobS.extract 0 (j % 5))] 30), (b1, .cells #[.int .i64 A, .int .i64 B] 23)] : List (Nat × Obj)), x.1 ∈ ({ pc := .ld, it := 0, job := j, blk := [b4, bk, b2, b1] } : Th).blk := fun x hx => by
    simp only [List.mem_cons, List.not_mem_nil, or_false] at hx
    rcases hx with rfl | rfl | rfl | rfl <;> simp
  have l4 : ∀ x ∈ ([(b4, .cells #[.int .i64 (doV A B j), .string (jobS.extract 0 (j % 5))] 30)] : List (Nat × Obj)), x.1 ∈ ({ pc := .ld, it := 0, job := j, blk := [b4, bk, b2, b1] } : Th).blk := fun x hx => by
    simp only [List.mem_cons, List.not_mem_nil, or_false] at hx
    rcases hx with rfl
    simp
  refine ⟨10 + ((20 + 40) + 1), fun w hF => ?_⟩
  show GoW Try.prog K ({ pc := .ld, it := 0, job := j, blk := [b4, bk, b2, b1] } : Th) (Fa k' ({ pc := .ld, it := 0, job := j, blk := [b4, bk, b2, b1] } : Th) v) (10 + ((20 + 40) + 1)) _ w
  refine goW0 (n := 10) (m := (20 + 40) + 1) ?_
  walk_nrm
  repeat w_go (kj_rely l3)
  refine Goes.stop (fun _ r₁ => ?_)
  replace hF := kj_rely l3 hF r₁
  clear r₁
  refine goW_st30 (n := 20 + 40) (l := ([(b4, .cells #[.int .i64 0, .string { data := #[] }] 30), (bk, .cells #[.int .i64 A, .int .i64 B] 23), (b2, .cells #[.int .i64 (doV A B j), .string (jobS.extract 0 (j % 5))] 30), (b1, .cells #[.int .i64 A, .int .i64 B] 23)] : List (Nat × Obj))) (l' := ([(b4, .cells #[.int .i64 (doV A B j), .string (jobS.extract 0 (j % 5))] 30)] : List (Nat × Obj))) (bk := b4) (X0 := .int .i64 0) (Y0 := .string { data := #[] }) l3 hF rfl rfl (by k_ne) rfl rfl rfl loud18 rfl rfl (by simp) (fun x hx => .inl (by simpa using hx)) fun _ hF => ?_
  refine goW0 (n := 20) (m := 40) ?_
  walk_nrm
  repeat w_go (kj_rely l4)
  u_call Try.func19 nm19 Try.f19 (kj_rely l4) hF
  refine Goes.stop (fun wc r₁ => ?_)
  replace hF := kj_rely l4 hF r₁
  clear r₁
  have iO : Own ⟨wc, [b4]⟩ ({ pc := .ld, it := 0, job := j, blk := [b4, bk, b2, b1] } : Th).blk := ⟨fun b hb => by simp at hb; subst hb; simp⟩
  obtain ⟨g4, g5⟩ := hF.own (b4, .cells #[.int .i64 (doV A B j), .string (jobS.extract 0 (j % 5))] 30) (by simp)
  refine goes_le (by omega) (lockGo (W := ⟨wc, [b4]⟩) (blk := [b4, bk, b2, b1]) ?_ v k' _ ⟨hF.kn.here, fun b hb => by simp at hb; subst hb; exact ⟨g5, (Array.getElem?_eq_some_iff.1 g4).1, rfl⟩⟩)
  -- BEHIND mu.Lock(): IT OWNS
  intro k'' T cs h1' h2' h3' h4
  obtain ⟨pc, old, aw, sv, it, job, blk⟩ := T
  simp only at h1' h2' h3'
  subst h1'; subst h2'; subst h3'
  refine ⟨20 + (200 + 1), fun w g1 g2 => ?_⟩
  have hF : KO K W ([(b4, .cells #[.int .i64 (doV A B job), .string (jobS.extract 0 (job % 5))] 30)] : List (Nat × Obj)) w ∧ CAt K cs w := ⟨⟨hF.kn.trans g1.kn, fun x hx => by
    simp only [List.mem_cons, List.not_mem_nil, or_false] at hx
    subst hx
    exact ⟨(g1.own b4 (by simp)).2.2.trans g4, g5⟩⟩, g2⟩
  clear g1 g2 g4
  have l5 : ∀ x ∈ ([(b4, .cells #[.int .i64 (doV A B job), .string (jobS.extract 0 (job % 5))] 30)] : List (Nat × Obj)), x.1 ∈ [b4, bk, b2, b1] := fun x hx => by
    simp only [List.mem_cons, List.not_mem_nil, or_false] at hx
    rcases hx with rfl
    simp
  refine goW0 (n := 20) (m := 201) ?_
  walk_nrm
  show Goes Try.prog false (RB K true [b4, bk, b2, b1]) _ _ _ _ _
  repeat w_go (kr_rely l5)
  u_defer (kr_rely l5) hF
  repeat w_go (kr_rely l5)
  refine Goes.stop (fun _ r₁ => ?_)
  replace hF := kr_rely l5 hF r₁
  clear r₁
  refine goW_still (n := 200) rfl rfl (by k_ne) rfl (by simp) rfl loud18 rfl E.sO E.nO (hF.1.kn.cell E.sO E.cO) fun _ r₁ => ?_
  replace hF := kr_rely l5 hF r₁
  clear r₁
  have hlt : (job : Int) < (K.J : Int) := by omega
  have hj0 : (0 : Int) ≤ (job : Int) := by omega
  refine goW0 (n := 20) (m := 180) ?_
  walk_nrm
  show Goes Try.prog false (RB K true [b4, bk, b2, b1]) _ _ _ _ _
  repeat w_go (kr_rely l5)
  refine Goes.stop (fun _ r₁ => ?_)
  replace hF := kr_rely l5 hF r₁
  clear r₁
  refine goW_ld2r (n := 179) (.inl rfl) (bk := b4) (X := .int .i64 (doV A B job)) (Y := .string (jobS.extract 0 (job % 5))) (t := 30) l5 rfl hF rfl rfl (by k_ne) rfl rfl loud18 rfl (by simp) fun _ hF => ?_
  refine goW0 (n := 20) (m := 159) ?_
  walk_nrm
  show Goes Try.prog false (RB K true [b4, bk, b2, b1]) _ _ _ _ _
  repeat w_go (kr_rely l5)
  refine Goes.stop (fun _ r₁ => ?_)
  replace hF := kr_rely l5 hF r₁
  clear r₁
  -- THE STORE
  refine Goes.step (n := 158) rfl fun w₁ r₁ => ?_
  replace hF := kr_rely l5 hF r₁
  clear r₁
  rw [stepG_st30 (p := K.C) (f := job * 2) (X := doV A B job) (Y := jobS.extract 0 (job % 5)) rfl rfl (by k_ne) rfl rfl rfl (hF.2.cell (by rw [h4, hsz]; omega)) (hF.2.cell (by rw [h4, hsz]; omega)) (hF.2.thaw _) (hF.2.thaw _) loud18]
  simp only [goes_go]
  refine ⟨db_row2 hF.2 h4 (by have := K.bC; have := hF.1.kn.B; omega) _ _ _, ?_⟩
  replace hF := And.intro (hF.1.kn.row2 hF.2 h4 (job * 2) (.int .i64 (doV A B job)) (.string (jobS.extract 0 (job % 5)))) (hF.2.set2 (job * 2) (.int .i64 (doV A B job)) (.string (jobS.extract 0 (job % 5))))
  rw [← hput] at hF
  refine goW0 (T := { pc := .ur, old := old, aw := aw, sv := sv, it := it, job := job, blk := [b4, bk, b2, b1] }) (n := 40) (m := 118) ?_
  walk_nrm
  show Goes Try.prog false (RB K true [b4, bk, b2, b1]) _ _ _ _ _
  repeat w_go ko_rely
  u_in ko_rely hF
  rw [stepG_unwind_enter rfl Try.func20 nm20 rfl]
  simp only [goes_go]
  refine ⟨by u_nil, ?_⟩
  walk_nrmf Try.f20
  refine Goes.stop (fun _ r₁ => ?_)
  replace hF := ko_rely hF r₁
  clear r₁
  refine goes_le (by omega) (unlockGo rfl (K.put job cs) ?_ k'' _ rfl rfl _ hF.1 hF.2)
  intro k3
  obtain ⟨mT, hT'⟩ := hT (K.put job cs) k3
  refine ⟨20 + mT, fun w hF => ?_⟩
  refine goW0 (n := 20) (m := mT) ?_
  u_leave0 Try.func18 Kn.rely hF
  refine Goes.stop (fun _ r₁ => ?_)
  replace hF := Kn.rely hF r₁
  clear r₁
  exact hT' _ hF
end
end Go.Proofs.Ytapjmifhhbpikaa

/- Several texts of this seat, laid together (no statement of its own): their conditions stand in each theorem. -/
import Derived.Test.YtladmconpolneaaGreatMf
import Derived.Test.YtladmconpolneaaGreatMg
import Derived.RangeFuncNested
import Derived.RangeFuncBound
import Derived.RangeFuncCalls
import Derived.RangeFuncLeaves
import Derived.OwnWalkIn
import Derived.TacticsInMore
import Derived.LoopNIn
import Derived.LoopIn
import Derived.RangeFuncBox
import Derived.Maps.OwnIn
import Derived.Shelf.Abstract
/- The set of ids that were met: up to 64 ids, one word. -/
set_option linter.unusedVariables false
set_option linter.unusedSimpArgs false
namespace Go.Proofs.YtladmconpolneaaGreat
open Go.RowKit
structure MarksAt (w : World) (B m g n c X : Nat) : Prop where
  box : w.heap[m]? = some (.cells #[.int .i64 (n : Int), .int .i64 (c : Int), .slice (some ⟨g, 0, none⟩) 1 1] 210 (0, 0))
  word : w.heap[g]? = some (.cells #[.int .u64 (X : Int)] 23 (0, 0))
  base : B ≤ m ∧ B ≤ g ∧ m ≠ g
  bd : n ≤ 64 ∧ X < 18446744073709551616
theorem has_bit (X id : Nat) (h : X < 18446744073709551616) : (bits .and .u64 ((X : Int) / 2 ^ id) 1 == (1 : Int)) = X.testBit id := by
  have e : (X : Int) / 2 ^ id = ((X / 2 ^ id : Nat) : Int) := by push_cast; rfl
  have hl : X / 2 ^ id < 18446744073709551616 := Nat.lt_of_le_of_lt (Nat.div_le_self _ _) h
  have e2 := u64_and_nat (X / 2 ^ id) 1 hl (by decide)
  rw [e]
  rw [show ((1 : Nat) : Int) = (1 : Int) from rfl] at e2
  rw [e2, Nat.and_one_is_mod, Nat.testBit_eq_decide_div_mod_eq]
  by_cases hx : X / 2 ^ id % 2 = 1
  · rw [hx]; rfl
  · have h0 : X / 2 ^ id % 2 = 0 := by omega
    rw [h0]; rfl
theorem or_bit (X id : Nat) (h : X < 18446744073709551616) (hi : id < 64) : bits .or .u64 (X : Int) (IntKind.u64.wrap (2 ^ id)) = ((X ||| 2 ^ id : Nat) : Int) := by
  have hl : 2 ^ id < 18446744073709551616 := Nat.lt_of_lt_of_le (Nat.pow_lt_pow_right (by decide) hi) (by decide)
  have e : IntKind.u64.wrap (2 ^ id) = ((2 ^ id : Nat) : Int) := by
    have e1 : ((2 : Int) ^ id) = ((2 ^ id : Nat) : Int) := by push_cast; rfl
    have e2 : ∀ y : Nat, y < 18446744073709551616 → IntKind.u64.wrap (y : Int) = (y : Int) := fun y hy => by rw [IntKind.wrap_u64]; omega
    rw [e1]
    exact e2 _ hl
  rw [e]
  exact u64_or_nat X (2 ^ id) h hl
theorem mhas_any (B m g n c X id : Nat) (w : World) (hm : MarksAt w B m g n c X) (hi : id < n) : Calls Tryz.prog 116 #[.pointer (some ⟨m, 0, none⟩), .int .i64 (id : Int)] w fun e w' => e = .returned (.bool (X.testBit id)) ∧ w' = w := by
  have c0 : w.cell? ⟨m, 0, none⟩ = some (.int .i64 (n : Int)) := cell_of_row _ _ _ _ _ _ hm.box
  have c2 : w.cell? ⟨m, 2, none⟩ = some (.slice (some ⟨g, 0, none⟩) 1 1) := cell_of_row _ _ _ _ _ _ hm.box
  have g0 : w.cell? ⟨g, 0, none⟩ = some (.int .u64 (X : Int)) := cell_of_row _ _ _ _ _ _ hm.word
  have hn := hm.bd.1
  have HX := Lib.hid hm.bd.2
  have h1 : (0 : Int) ≤ (id : Int) := by omega
  have h2 : (id : Int) < (n : Int) := by omega
  have h3 : (id : Int) / 64 = 0 := by omega
  have h4 : (id : Int) % 64 = (id : Int) := by omega
  have h5 : (id : Int) ≤ 63 := by omega
  clear hm
  go_enter Tryz.func116, Tryz.ntmps116
  go_wp2_with fail
  go_ret
  exact ⟨by show Ending.returned (.bool (bits .and .u64 ((X : Int) / 2 ^ id) 1 == 1)) = _; rw [has_bit X id HX.out], rfl⟩
theorem mlen_any (B m g n c X : Nat) (w : World) (hm : MarksAt w B m g n c X) : Calls Tryz.prog 76 #[.pointer (some ⟨m, 0, none⟩)] w fun e w' => e = .returned (.int .i64 (c : Int)) ∧ w' = w := by
  have c1 : w.cell? ⟨m, 1, none⟩ = some (.int .i64 (c : Int)) := cell_of_row _ _ _ _ _ _ hm.box
  clear hm
  go_enter Tryz.func76, Tryz.ntmps76
  go_wp2_with fail
  go_ret
  exact ⟨rfl, rfl⟩
/-- Of the blocks that stand only the set's own two change. -/
def MStep (m g : Nat) (w w' : World) : Prop := w.heap.size ≤ w'.heap.size ∧ ∀ k, k < w.heap.size → k ≠ m → k ≠ g → w'.heap[k]? = w.heap[k]?
def AddP (w : World) (B m g n c X id : Nat) (e : Ending) (w' : World) : Prop :=
  e = .returned (.bool (!X.testBit id)) ∧ Below B w w' ∧ KeepT [210, 23] w w' ∧ MStep m g w w' ∧ MarksAt w' B m g n (if X.testBit id then c else c + 1) (if X.testBit id then X else X ||| 2 ^ id)
theorem madd_any (B m g n c X id : Nat) (w : World) (hm : MarksAt w B m g n c X) (hi : id < n) (hc : c ≤ 1000) : Calls Tryz.prog 78 #[.pointer (some ⟨m, 0, none⟩), .int .i64 (id : Int)] w (AddP w B m g n c X id) := by
  have c0 : w.cell? ⟨m, 0, none⟩ = some (.int .i64 (n : Int)) := cell_of_row _ _ _ _ _ _ hm.box
  have c1 : w.cell? ⟨m, 1, none⟩ = some (.int .i64 (c : Int)) := cell_of_row _ _ _ _ _ _ hm.box
  have c2 : w.cell? ⟨m, 2, none⟩ = some (.slice (some ⟨g, 0, none⟩) 1 1) := cell_of_row _ _ _ _ _ _ hm.box
  have g0 : w.cell? ⟨g, 0, none⟩ = some (.int .u64 (X : Int)) := cell_of_row _ _ _ _ _ _ hm.word
  have f1 : w.frozen? ⟨m, 1, none⟩ = false := frozen_of_row _ _ _ _ _ hm.box
  have f0 : w.frozen? ⟨g, 0, none⟩ = false := frozen_of_row _ _ _ _ _ hm.word
  have hn := hm.bd.1
  have HH := Lib.hid (mhas_any B m g n c X id w hm hi)
  have HM := Lib.hid hm
  have h1 : ¬ (id : Int) < 0 := by omega
  have hmg := hm.base.2.2
  have h2 : ¬ (id : Int) ≥ (n : Int) := by omega
  have h2' : (id : Int) < (n : Int) := by omega
  have h3 : (id : Int) / 64 = 0 := by omega
  have h4 : (id : Int) % 64 = (id : Int) := by omega
  have h5 : (id : Int) ≤ 63 := by omega
  have h6 : (0 : Int) ≤ (id : Int) := by omega
  have h7 : (c : Int) ≤ 1000 := by omega
  cases hb : X.testBit id with
  | true =>
    rw [hb] at HH
    clear hm
    go_enter Tryz.func78, Tryz.ntmps78
    go_wp2_with (first
      | (go_at_call 116; refine HH.out.mono ?_; rintro e w2 ⟨rfl, rfl⟩)
      | fail)
    go_ret
    exact ⟨by rw [hb]; rfl, Below.refl _ _, KeepT.refl _ _, ⟨Nat.le_refl _, fun _ _ _ _ => rfl⟩, by rw [hb]; exact HM.out⟩
  | false =>
    rw [hb] at HH
    clear hm
    go_enter Tryz.func78, Tryz.ntmps78
    go_wp2_with (first
      | (go_at_call 116; refine HH.out.mono ?_; rintro e w2 ⟨rfl, rfl⟩)
      | fail)
    go_region
    go_wp2
    go_ret
    have HX := HM.out.bd.2
    have hid : id < 64 := by omega
    have ho := or_bit X id HX hid
    have hlt : X ||| 2 ^ id < 2 ^ 64 := Nat.or_lt_two_pow HX (Nat.pow_lt_pow_right (by decide) hid)
    have hk1 := KeepT.set (T := [210, 23]) (x := .int .u64 (bits BinOp.or IntKind.u64 (↑X) (IntKind.u64.wrap (2 ^ id)))) (i := 0) HM.out.word (by decide)
    have hbx : (w2.setCell ⟨g, 0, none⟩ (.int .u64 (bits BinOp.or IntKind.u64 (↑X) (IntKind.u64.wrap (2 ^ id))))).drew.heap[m]? = _ := (Below.heap_setCell _ _ _ _ hmg).trans HM.out.box
    have hk2 := KeepT.set (T := [210, 23]) (x := .int .i64 ((c : Int) + 1)) (i := 1) hbx (by decide)
    refine ⟨by rw [hb]; rfl, ((Below.refl _ _).setCell HM.out.base.2.1 _ |> bel_drew).setCell HM.out.base.1 _, hk1.trans ((KeepT.heap (KeepT.refl _ _) rfl).trans hk2), ⟨by simp [World.setCell, World.drew], fun k hk h1 h2 => (Below.heap_setCell _ _ _ _ h1).trans (Below.heap_setCell _ _ _ _ h2)⟩, ?_⟩
    rw [hb]
    have hw : ((w2.setCell ⟨g, 0, none⟩ (.int .u64 (bits BinOp.or IntKind.u64 (↑X) (IntKind.u64.wrap (2 ^ id))))).setCell ⟨m, 1, none⟩ (.int .i64 ((c : Int) + 1))).heap[g]? = some (.cells #[.int .u64 ((X ||| 2 ^ id : Nat) : Int)] 23 (0, 0)) := by
      rw [Below.heap_setCell _ _ _ _ (show g ≠ m from fun e => hmg e.symm), ho]
      exact heap_setCell_same w2 g 0 _ _ _ HM.out.word
    exact ⟨heap_setCell_same _ m 1 _ _ _ hbx, hw, HM.out.base, HM.out.bd.1, hlt⟩
theorem mk_info23 : (Tryz.prog.info? 23).map (fun i => (i.zero, i.size, i.bytes)) = some (some (.int .u64 0), 1, 8) := by kernel_rfl
set_option maxRecDepth 100000 in
theorem mnew_any (n : Nat) (w : World) (hn : 1 ≤ n ∧ n ≤ 64) : Calls Tryz.prog 75 #[.int .i64 (n : Int)] w fun e w' => ∃ m g, e = .returned (.pointer (some ⟨m, 0, none⟩)) ∧ MarksAt w' w.heap.size m g n 0 0 ∧ Below w.heap.size w w' := by
  have h1 : (1 : Int) ≤ (n : Int) := by omega
  have h2 : (n : Int) ≤ 64 := by omega
  have h3 : max (n : Int) 0 = (n : Int) := by omega
  have h4 : ((n : Int) + 64 - 1) / 64 = 1 := by omega
  have hmk : ∀ W : World, (Instr.makeSlice 24 (.int .i64 1) (.int .i64 1)).run Tryz.prog W = .ok (.slice (some ⟨W.heap.size, 0, none⟩) 1 1) (W.alloc (.cells #[.int .u64 0] 23)) := fun W => by
    have h := run_make_ints (P := Tryz.prog) 24 23 .u64 8 Tryz.underlying24 mk_info23 (by decide) 1 (by decide) W
    rw [show ((1 : Nat) : Int) = (1 : Int) from rfl] at h
    rw [h]
    have e : madeCells #[Value.int .u64 0] 1 = #[Value.int .u64 0] := Array.toList_inj.mp (by rw [toList_madeCells_one]; rfl)
    rw [e]
  go_enter Tryz.func75, Tryz.ntmps75
  go_wp2_with fail
  go_ret
  refine ⟨w.heap.size + 1, w.heap.size, rfl, ⟨alloc_at0 _ _ _ (by simp), by rw [Below.heap_alloc _ _ _ (by simp)]; exact heap_alloc_new _ _, ⟨by omega, Nat.le_refl _, by omega⟩, ⟨hn.2, by decide⟩⟩, ((Below.refl _ _).alloc (Nat.le_refl _) _).alloc (by simp) _⟩
end Go.Proofs.YtladmconpolneaaGreat

/- A range over a function, by an iterator that may step in memory itself. -/
set_option linter.unusedVariables false
set_option linter.unusedSimpArgs false
namespace Go.Proofs.YtladmconpolneaaGreat
open Go.RowKit
/-- What an iterator does at world W: V: what is handed and what stands when it is; T: its own steps in memory; Kp: what a round that goes on must keep. -/
def SeqT {α : Type} (P : Program) (gf : Nat) (lb : Array Value) (encs : α → Array Value) (V : List α → α → World → Prop) (T Kp : World → World → Prop) (S Sp : List α → World → Prop) (W : World) : Prop :=
  ∀ (l : Nat) (J Jx : List α → World → Prop), (∀ s A B, J s A → T A B → J s B) → (∀ s A B, Jx s A → T A B → Jx s B) →
    (∀ pre x W1, J pre W1 → V pre x W1 → YieldAt Fence.wide 0 P l (encs x) W1 fun e W' => (e = .returned (.bool true) ∧ J (pre ++ [x]) W' ∧ Kp W1 W') ∨ (e = .returned (.bool false) ∧ Jx (pre ++ [x]) W')) →
    J [] W → Calls P gf (#[.func (.yield l) #[] #[]] ++ lb) W fun e W' => (∃ v, e = .returned v) ∧ ((∃ xs, S xs W' ∧ J xs W') ∨ (∃ pre, Sp pre W' ∧ Jx pre W'))
/-- The loop's own two blocks lie as they lay. -/
def Stays (B : Nat) (W W' : World) : Prop := ∀ k o, (k = B ∨ k = B + 1) → W.heap[k]? = some o → o.isCells = false → W'.heap[k]? = some o
theorem Stays.trans {B : Nat} {W W1 W2 : World} (h : Stays B W W1) (k : Stays B W1 W2) : Stays B W W2 := fun i o hi ho hc => k i o hi (h i o hi ho hc) hc
theorem Stays.refl (B : Nat) (W : World) : Stays B W W := fun _ _ _ h _ => h
theorem Stays.below {B : Nat} {W W' : World} (h : Below W.heap.size W W') : Stays B W W' := fun k o _ ho _ => (h.block k (Array.getElem?_eq_some_iff.1 ho).1).trans ho
theorem Stays.setCell {B g i : Nat} {W : World} {v : Value} {cs : Array Value} {t : TypeId} {fr : Nat × Nat} (hg : W.heap[g]? = some (.cells cs t fr)) : Stays B W (W.setCell ⟨g, i, none⟩ v) := fun k o _ ho hc => by
  rw [Below.heap_setCell _ _ _ _ (by rintro rfl; rw [hg] at ho; injection ho with ho; subst ho; cases hc)]; exact ho
theorem Stays.grown {B : Nat} {W W' : World} {row : Option Nat} (hg : W.grownBy W' row) (hr : ∀ g, row = some g → ∃ cs t fr, W.heap[g]? = some (.cells cs t fr)) : Stays B W W' := fun k o _ ho hc => by
  rw [hg.block k (Array.getElem?_eq_some_iff.1 ho).1 (by
    rintro e
    obtain ⟨cs, t, fr, h⟩ := hr k e.symm
    rw [h] at ho; injection ho with ho; subst ho; cases hc)]
  exact ho
def RoundPost {α : Type} (B : Nat) (Kp : World → World → Prop) (I : List α → World → Prop) (Ix : Code → List α → World → Prop) (xs : List α) (W : World) : Exit → Act → World → Prop
  | .normal, _, W' => Stays B W W' ∧ Kp W W' ∧ I xs W'
  | .ret, _, W' => Stays B W W' ∧ Ix .ret xs W'
  | .exit id, _, W' => Stays B W W' ∧ Ix (.exit id) xs W'
  | .goto t, _, W' => Stays B W W' ∧ Ix (.goto t) xs W'
  | .panic _, _, _ => False
  | .outgrown, _, _ => False
theorem wp_rangeT {P : Program} {α : Type} {g : Operand} {ps : Array Tmp} {assign body : Code} {Q : Exit → Act → World → Prop} {a : Act} {w : World} {gf : Nat} {lb : Array Value}
    (hg : a.eval g = .func (.func gf) #[] lb) (eg : ∀ args w, (callFunc gf args).run P w = .ok (.enter gf args) w)
    {encs : α → Array Value} {V : List α → α → World → Prop} {T Kp : World → World → Prop} {S Sp : List α → World → Prop}
    (hseq : ∀ o o', o.isCells = false → o'.isCells = false → SeqT P gf lb encs V T Kp S Sp ((w.alloc o).alloc o')) (hps : ∀ x, (encs x).size = ps.size)
    (I : List α → World → Prop) (Ix : Code → List α → World → Prop)
    (hT : ∀ A B, T A B → Stays w.heap.size A B) (hIT : ∀ s A B, I s A → T A B → I s B) (hIxT : ∀ c s A B, Ix c s A → T A B → Ix c s B)
    (hIp : ∀ s W o o', I s W → W.heap[w.heap.size + 1]? = some o → o.isCells = false → o'.isCells = false → I s (W.putObj (w.heap.size + 1) o'))
    (hIxp : ∀ c s W o o', Ix c s W → W.heap[w.heap.size + 1]? = some o → o.isCells = false → o'.isCells = false → Ix c s (W.putObj (w.heap.size + 1) o'))
    (hKt : ∀ A B C, Kp A B → Kp B C → Kp A C) (hKp : ∀ W o o', W.heap[w.heap.size + 1]? = some o → o.isCells = false → Kp W (W.putObj (w.heap.size + 1) o'))
    (hSp : ∀ s W o', S s W → S s (W.putObj (w.heap.size + 1) o')) (hSpp : ∀ s W o', Sp s W → Sp s (W.putObj (w.heap.size + 1) o'))
    (h0 : ∀ o o', o.isCells = false → o'.isCells = false → I [] ((w.alloc o).alloc o'))
    (hround : ∀ (l : Nat) (pre : List α) (x : α) (W : World), I pre W → V pre x W → W.heap[w.heap.size + 1]?.isSome = true →
      assign.wpIn (Fence.wide.inRound l) 0 P (Exit.then (fun a' W' => Stays w.heap.size W W' ∧ ∀ o, o.isCells = false → (∃ o₁, W'.heap[w.heap.size + 1]? = some o₁ ∧ o₁.isCells = false) →
        body.wpIn (Fence.wide.inRound l) 0 P (fun e a W3 => RoundPost w.heap.size (fun _ W3 => Kp W W3) I Ix (pre ++ [x]) (W'.putObj (w.heap.size + 1) o) e a W3) a' (W'.putObj (w.heap.size + 1) o)) (fun _ _ _ => False)) { tmps := (ps.zip (encs x)).foldl (fun t (p, v) => t.setIfInBounds p v) a.tmps, defers := [] } W)
    (hdone : ∀ (xs : List α) (W : World), S xs W → I xs W → W.heap[w.heap.size]? = some (.deferred (some [])) → Q .normal { a with defers := { target := .collected w.heap.size, args := #[] } :: a.defers } W)
    (hstop : ∀ (c : Code) (pre : List α) (W : World), Sp pre W → Ix c pre W → W.heap[w.heap.size]? = some (.deferred (some [])) → c.wp P Q { a with defers := { target := .collected w.heap.size, args := #[] } :: a.defers } W) :
    (Code.rangeFunc g ps assign body).wp P Q a w := by
  refine (wpIn_wide (n := 1)).1 (wpIn_rangeFunc ?_)
  intro fn hfn
  let D : Obj := .deferred (some [])
  let rec0 : LoopState → Option Code → Loop := fun st pe => { state := st, pending := pe, fn, tmps := a.tmps, params := ps, assign, body, defers := w.heap.size }
  obtain ⟨W1, hW1⟩ : ∃ W1, (w.alloc D).alloc (.loop (rec0 .ready none)) = W1 := ⟨_, rfl⟩
  have hL1 : W1.heap[w.heap.size + 1]? = some (.loop (rec0 .ready none)) := by
    rw [← hW1]; exact alloc_at0 _ _ _ (by simp)
  have hK1 : W1.heap[w.heap.size]? = some D := by
    rw [← hW1, Below.heap_alloc _ _ _ (by simp)]; exact heap_alloc_new _ _
  refine ⟨w.heap.size + 1, [{ target := .collected w.heap.size, args := #[] }], W1, { target := .fn (.func gf) lb, args := #[.func (.yield (w.heap.size + 1)) #[] #[]] }, W1, gf, #[.func (.yield (w.heap.size + 1)) #[] #[]] ++ lb, W1, ?_, ?_, ?_, ?_, ?_, ?_⟩
  · rw [← hW1]; exact run_enterLoop_outer _ _ _ _ _
  · simp only [resolve, hg]
    simp [go_sem]
  · intro f' _; trivial
  · simp [invoke, go_sem, eg]
  · intro _; exact Nat.le_refl _
  · refine callsIn_wide.2 ?_
    have hs := hseq D (.loop (rec0 .ready none)) rfl rfl
    rw [hW1] at hs
    refine (hs (w.heap.size + 1)
      (fun pre W => I pre W ∧ W.heap[w.heap.size + 1]? = some (.loop (rec0 .ready none)) ∧ W.heap[w.heap.size]? = some D)
      (fun pre W => ∃ c, Ix c pre W ∧ W.heap[w.heap.size + 1]? = some (.loop (rec0 .done (some c))) ∧ W.heap[w.heap.size]? = some D)
      (fun s A B ⟨h1, h2, h3⟩ ht => ⟨hIT s A B h1 ht, hT A B ht _ _ (.inr rfl) h2 rfl, hT A B ht _ _ (.inl rfl) h3 rfl⟩)
      (fun s A B ⟨c, h1, h2, h3⟩ ht => ⟨c, hIxT c s A B h1 ht, hT A B ht _ _ (.inr rfl) h2 rfl, hT A B ht _ _ (.inl rfl) h3 rfl⟩)
      ?_ ⟨by rw [← hW1]; exact h0 _ _ rfl rfl, hL1, hK1⟩).mono ?_
    · rintro pre x W ⟨hi, hl, hk⟩ hv
      have hy := run_yield (P := P) (args := encs x) hl (hps x)
      refine ⟨fn, _, assign, body, hy, roundIn_of_wpIn hfn (wpIn_mono (hround _ pre x W hi hv (by rw [hl]; rfl)) ?_)⟩
      rintro e a2 W2 hp
      cases e with
      | normal =>
        obtain ⟨hst, hb⟩ := hp
        have hl2 := hst _ _ (.inr rfl) hl rfl
        have hk2 := hst _ _ (.inl rfl) hk rfl
        refine ⟨_, run_beginRound hl2 rfl, ?_⟩
        have hlt : w.heap.size + 1 < W2.heap.size := (Array.getElem?_eq_some_iff.1 hl2).1
        have hl3 : (W2.putObj (w.heap.size + 1) (.loop { rec0 .ready none with state := .busy })).heap[w.heap.size + 1]? = some (.loop { rec0 .ready none with state := .busy }) := World.putObj_heap_same hlt
        have hk3 : (W2.putObj (w.heap.size + 1) (.loop { rec0 .ready none with state := .busy })).heap[w.heap.size]? = some D := (World.putObj_heap_other (by omega)).trans hk2
        refine wpIn_mono (hb _ rfl ⟨_, hl2, rfl⟩) ?_
        have fin : ∀ (jump : Option Code) (W3 : World), Stays w.heap.size (W2.putObj (w.heap.size + 1) (.loop { rec0 .ready none with state := .busy })) W3 →
            (Instr.endRound (w.heap.size + 1) jump).run P W3 = .ok (.bool jump.isNone) (W3.putObj (w.heap.size + 1) (.loop (rec0 (if jump.isNone then .ready else .done) jump))) ∧
            W3.heap[w.heap.size + 1]? = some (.loop { rec0 .ready none with state := .busy }) ∧
            (W3.putObj (w.heap.size + 1) (.loop (rec0 (if jump.isNone then .ready else .done) jump))).heap[w.heap.size + 1]? = some (.loop (rec0 (if jump.isNone then .ready else .done) jump)) ∧
            (W3.putObj (w.heap.size + 1) (.loop (rec0 (if jump.isNone then .ready else .done) jump))).heap[w.heap.size]? = some D := fun jump W3 hs3 => by
          have h4 := hs3 _ _ (.inr rfl) hl3 rfl
          have h5 := hs3 _ _ (.inl rfl) hk3 rfl
          exact ⟨run_endRound (P := P) jump h4, h4, World.putObj_heap_same (Array.getElem?_eq_some_iff.1 h4).1, (World.putObj_heap_other (by omega)).trans h5⟩
        rintro e a3 W3 hp
        cases e with
        | normal =>
          obtain ⟨hs3, hkp, hi3⟩ := hp
          obtain ⟨hr, hl4, hl5, hk5⟩ := fin none W3 hs3
          exact ⟨_, _, hr, .inl ⟨rfl, ⟨hIp _ _ _ _ hi3 hl4 rfl rfl, hl5, hk5⟩, hKt _ _ _ hkp (hKp _ _ _ hl4 rfl)⟩⟩
        | ret =>
          obtain ⟨hs3, hi3⟩ := hp
          obtain ⟨hr, hl4, hl5, hk5⟩ := fin (some .ret) W3 hs3
          exact ⟨_, _, hr, .inr ⟨rfl, .ret, hIxp _ _ _ _ _ hi3 hl4 rfl rfl, hl5, hk5⟩⟩
        | exit id =>
          obtain ⟨hs3, hi3⟩ := hp
          obtain ⟨hr, hl4, hl5, hk5⟩ := fin (some (.exit id)) W3 hs3
          exact ⟨_, _, hr, .inr ⟨rfl, .exit id, hIxp _ _ _ _ _ hi3 hl4 rfl rfl, hl5, hk5⟩⟩
        | goto t =>
          obtain ⟨hs3, hi3⟩ := hp
          obtain ⟨hr, hl4, hl5, hk5⟩ := fin (some (.goto t)) W3 hs3
          exact ⟨_, _, hr, .inr ⟨rfl, .goto t, hIxp _ _ _ _ _ hi3 hl4 rfl rfl, hl5, hk5⟩⟩
        | panic ch => exact hp.elim
        | outgrown => exact hp.elim
      | exit id => exact hp.elim
      | goto t => exact hp.elim
      | ret => exact hp.elim
      | panic ch => exact hp.elim
      | outgrown => exact hp.elim
    · rintro e W2 ⟨⟨v, rfl⟩, (⟨xs, hS, hi, hl, hk⟩ | ⟨pre, hSq, c, hi, hl, hk⟩)⟩
      · exact ⟨none, _, run_endLoop (P := P) hl (by simp [rec0]), hdone xs _ (hSp _ _ _ hS) (hIp _ _ _ _ hi hl rfl rfl) ((World.putObj_heap_other (by omega)).trans hk)⟩
      · exact ⟨some c, _, run_endLoop (P := P) hl (by simp [rec0]), wpIn_wide.2 (hstop c pre _ (hSpp _ _ _ hSq) (hIxp _ _ _ _ _ hi hl rfl rfl) ((World.putObj_heap_other (by omega)).trans hk))⟩
/-- A function that holds a range over a function. -/
theorem calls_marks {P : Program} {f : FuncId} {fn : Func} {c : Code} {args : Array Value} {w : World} {R : Ending → World → Prop} (hf : P.funcs[f]? = some fn) (hb : fn.body = some c)
    (h : c.wp P (bodyPostM Fence.wide 0 P fn R) { tmps := args ++ Array.replicate (fn.ntmps - args.size) undef, defers := [] } w) : Calls P f args w R :=
  (callsIn_wide (n := 0)).1 (callsIn_of_wp_marks hf hb trivial (wpIn_wide.2 h) rfl)
/-- What a turn of a block that is no cells keeps. -/
theorem KeepT.putObj {W : World} {r : Nat} {o : Obj} (o' : Obj) (h : W.heap[r]? = some o) (hc : o.isCells = false) : KeepT [] W (W.putObj r o') := ⟨by simp, fun k c t fr hk _ => by
  rw [World.putObj_heap_other (by rintro rfl; rw [h] at hk; injection hk with hk; subst hk; cases hc)]; exact hk⟩
theorem bel_putObj {B r : Nat} {w W : World} {o : Obj} (h : Below B w W) (hr : B ≤ r) : Below B w (W.putObj r o) := h.trans ⟨rfl, rfl, rfl, by simp, fun k hk => World.putObj_heap_other (by omega)⟩
theorem own_keepT {w w' : World} {T : List TypeId} {B sz n : Nat} {e : TypeId} {v : Value} {xs : List Value} (h : w.ownsRow B e sz v n xs) (hk : KeepT T w w') (he : e ∉ T) : w'.ownsRow B e sz v n xs := by
  refine ⟨h.1, h.2.imp id ?_⟩
  rintro ⟨k, cap, cur, h1, h2, h3, h4⟩
  exact ⟨k, cap, cur, h1, h2, hk.2 _ _ _ _ h3 he, h4⟩
theorem MarksAt.keepT {w W : World} {T : List TypeId} {B m g n c X : Nat} (h : MarksAt w B m g n c X) (hk : KeepT T w W) (h1 : 210 ∉ T) (h2 : 23 ∉ T) : MarksAt W B m g n c X := ⟨hk.2 _ _ _ _ h.box h1, hk.2 _ _ _ _ h.word h2, h.base, h.bd⟩
end Go.Proofs.YtladmconpolneaaGreat

/- topk: New, Len, Offer. -/
set_option linter.unusedVariables false
set_option linter.unusedSimpArgs false
namespace Go.Proofs.YtladmconpolneaaGreat
open Go.RowKit
theorem firstE_ok {w : World} {q s : Nat} {cs : Array Value} (hq : w.heap[q]? = some (.cells #[.pointer (some ⟨s, 0, none⟩)] 217 (0, 0))) (hs : w.heap[s]? = some (.cells cs 267 (0, 0))) (h0 : cs[0]? = some NF) : FirstE q w ltE := by
  intro W x y hk hx hy
  obtain ⟨a, b, d, rfl⟩ := El.three hx
  obtain ⟨a', b', d', rfl⟩ := El.three hy
  have hq' := hk.2 _ _ _ _ hq (by decide)
  have hs' := hk.2 _ _ _ _ hs (by decide)
  show Calls Tryz.prog 165 #[.agg #[.int .i64 a, .int .i64 b, .int .i64 d], .agg #[.int .i64 a', .int .i64 b', .int .i64 d'], .pointer (some ⟨q, 0, none⟩)] W _
  obtain ⟨W0, hW0⟩ : ∃ W0, (W.alloc (.cells #[.int .i64 a, .int .i64 b, .int .i64 d] 270)).alloc (.cells #[.int .i64 a', .int .i64 b', .int .i64 d'] 270) = W0 := ⟨_, rfl⟩
  have HBW : Hid (Below W.heap.size W W0) := by show Below _ _ _; rw [← hW0]; exact ((Below.refl _ _).alloc (Nat.le_refl _) _).alloc (by simp) _
  have g1 : Hid (W0.heap[W.heap.size]? = some (.cells #[.int .i64 a, .int .i64 b, .int .i64 d] 270 (0, 0))) := by show _ = _; rw [← hW0, Below.heap_alloc _ _ _ (by simp)]; exact heap_alloc_new _ _
  have g2 : Hid (W0.heap[W.heap.size + 1]? = some (.cells #[.int .i64 a', .int .i64 b', .int .i64 d'] 270 (0, 0))) := by show _ = _; rw [← hW0]; exact alloc_at0 _ _ _ (by simp)
  have HA := Lib.hid (aheadE_any s a' b' d' a b d W0 cs ((HBW.out.block _ (lt_of_block hs')).trans hs') h0)
  have cq : ((W.alloc (.cells #[.int .i64 a, .int .i64 b, .int .i64 d] 270)).alloc (.cells #[.int .i64 a', .int .i64 b', .int .i64 d'] 270)).cell? ⟨q, 0, none⟩ = some (.pointer (some ⟨s, 0, none⟩)) := keepc (by rw [hW0]; exact HBW.out) (cell_of_row _ _ _ _ _ _ hq')
  have HW0 := Lib.hid hW0
  have HI := Lib.hid Tryz.size270
  clear hq hs h0 hq' hs' hW0 hx hy hk
  go_enter Tryz.func165, Tryz.ntmps165
  go_wp2_with (first
    | (refine wpList_load_row rfl 270 (.tmp 4) rfl (W.heap.size + 1) rfl 270 #[.int .i64 a', .int .i64 b', .int .i64 d'] (0, 0) _ (by rw [HW0.out]; exact g2.out) Tryz.underlying270 rfl HI.out ?_)
    | (refine wpList_load_row rfl 270 (.tmp 3) rfl W.heap.size rfl 270 #[.int .i64 a, .int .i64 b, .int .i64 d] (0, 0) _ (by rw [HW0.out]; exact g1.out) Tryz.underlying270 rfl HI.out ?_)
    | (go_at_call 166; rw [HW0.out]; refine HA.out.mono ?_; rintro e w2 ⟨rfl, hb⟩; have HB2 := Lib.hid hb; clear hb)
    | fail)
  go_ret
  exact ⟨rfl, HBW.out.trans (HB2.out.mono HBW.out.size)⟩
/-- A selector: its variable in block q, it in block s, its heap in block h. -/
structure SelAt (w : World) (B s q h : Nat) (most at_ : Int) (v : Value) (l : List El) : Prop where
  box : w.heap[s]? = some (.cells #[NF, .int .i64 most, .pointer (some ⟨h, 0, none⟩), .int .i64 at_] 267 (0, 0))
  var : w.heap[q]? = some (.cells #[.pointer (some ⟨s, 0, none⟩)] 217 (0, 0))
  base : B ≤ s ∧ B ≤ q
  heap : HeapE w B h (FE q) v l
theorem SelAt.first {w : World} {B s q h : Nat} {most at_ : Int} {v : Value} {l : List El} (x : SelAt w B s q h most at_ v l) : FirstE q w ltE := firstE_ok x.var x.box rfl
theorem SelAt.below {w W : World} {B s q h : Nat} {most at_ : Int} {v : Value} {l : List El} (x : SelAt w B s q h most at_ v l) (hb : Below w.heap.size w W) : SelAt W B s q h most at_ v l :=
  ⟨(hb.block _ (lt_of_block x.box)).trans x.box, (hb.block _ (lt_of_block x.var)).trans x.var, x.base, x.heap.below hb⟩
theorem SelAt.heapTo {w W : World} {B s q h : Nat} {most at_ : Int} {v v' : Value} {l l' : List El} (x : SelAt w B s q h most at_ v l) (hk : KeepT [270, 324] w W) (hh : HeapE W B h (FE q) v' l') : SelAt W B s q h most at_ v' l' :=
  ⟨hk.2 _ _ _ _ x.box (by decide), hk.2 _ _ _ _ x.var (by decide), x.base, hh⟩
theorem SelAt.keepT {w W : World} {T : List TypeId} {B s q h : Nat} {most at_ : Int} {v : Value} {l : List El} (x : SelAt w B s q h most at_ v l) (hk : KeepT T w W) (h1 : 267 ∉ T) (h2 : 217 ∉ T) (h3 : 324 ∉ T) (h4 : 270 ∉ T) : SelAt W B s q h most at_ v l := by
  obtain ⟨rc, r1, r2⟩ := x.heap.row
  exact ⟨hk.2 _ _ _ _ x.box h1, hk.2 _ _ _ _ x.var h2, x.base, ⟨hk.2 _ _ _ _ x.heap.box h3, x.heap.base, rc, own_keepT r1 hk h4, r2⟩⟩
theorem hlenE_any (B h : Nat) (F v : Value) (l : List El) (w : World) (hh : HeapE w B h F v l) : Calls Tryz.prog 204 #[.pointer (some ⟨h, 0, none⟩)] w fun e w' => e = .returned (.int .i64 (l.length : Int)) ∧ w' = w := by
  obtain ⟨A, c, rfl⟩ := hh.row.slice
  have c1 : w.cell? ⟨h, 1, none⟩ = some (.slice A l.length c) := cell_of_row _ _ _ _ _ _ hh.box
  clear hh
  go_enter Tryz.func204, Tryz.ntmps204
  go_wp2
  go_ret
  exact ⟨rfl, rfl⟩
theorem slen_any (B s q h : Nat) (most at_ : Int) (v : Value) (l : List El) (w : World) (x : SelAt w B s q h most at_ v l) : Calls Tryz.prog 167 #[.pointer (some ⟨s, 0, none⟩)] w fun e w' => e = .returned (.int .i64 (l.length : Int)) ∧ w' = w := by
  have c2 : w.cell? ⟨s, 2, none⟩ = some (.pointer (some ⟨h, 0, none⟩)) := cell_of_row _ _ _ _ _ _ x.box
  have H := Lib.hid (hlenE_any B h (FE q) v l w x.heap)
  clear x
  go_enter Tryz.func167, Tryz.ntmps167
  go_wp2_with (first | (go_at_call 204; refine H.out.mono ?_; rintro e w2 ⟨rfl, rfl⟩) | fail)
  go_ret
  exact ⟨rfl, rfl⟩
set_option maxRecDepth 100000 in
theorem snew_any (most : Int) (w : World) : Calls Tryz.prog 121 #[NF, .int .i64 most] w fun e w' => ∃ s q h, e = .returned (.pointer (some ⟨s, 0, none⟩)) ∧ SelAt w' w.heap.size s q h most 0 (.slice none 0 0) [] ∧ Below w.heap.size w w' := by
  have HN : Hid (∀ qc W, Calls Tryz.prog 164 #[FE qc, .slice none 0 0] W fun e w' => ∃ h, e = .returned (.pointer (some ⟨h, 0, none⟩)) ∧ HeapE w' W.heap.size h (FE qc) (.slice none 0 0) [] ∧ Below W.heap.size W w') := fun qc W => hnewE_any qc W
  go_enter Tryz.func121, Tryz.ntmps121
  go_wp2_with fail
  have hb1 : Below w.heap.size w (w.alloc (.cells #[NF, .int .i64 most, .pointer none, .int .i64 0] 267)) := (Below.refl _ _).alloc (Nat.le_refl _) _
  obtain ⟨W0, hW0⟩ : ∃ W0, (w.alloc (.cells #[NF, .int .i64 most, .pointer none, .int .i64 0] 267)).alloc (.cells #[.pointer (some ⟨w.heap.size, 0, none⟩)] 217) = W0 := ⟨_, rfl⟩
  have HB0 : Hid (Below w.heap.size w W0) := by show Below _ _ _; rw [← hW0]; exact hb1.alloc (by simp) _
  have HS0 : Hid (W0.heap[w.heap.size]? = some (.cells #[NF, .int .i64 most, .pointer none, .int .i64 0] 267 (0, 0))) := by show _ = _; rw [← hW0, Below.heap_alloc _ _ _ (by simp)]; exact heap_alloc_new _ _
  have HQ0 : Hid (W0.heap[w.heap.size + 1]? = some (.cells #[.pointer (some ⟨w.heap.size, 0, none⟩)] 217 (0, 0))) := by show _ = _; rw [← hW0]; exact alloc_at0 _ _ _ (by simp)
  have HZ0 : Hid (w.heap.size + 2 ≤ W0.heap.size) := by show _ ≤ _; rw [← hW0]; simp
  rw [hW0]
  clear hb1 hW0
  have cq : W0.cell? ⟨w.heap.size + 1, 0, none⟩ = some (.pointer (some ⟨w.heap.size, 0, none⟩)) := cell_of_row _ _ _ _ _ _ HQ0.out
  go_region_with (first
    | (go_at_call 164; refine (HN.out (w.heap.size + 1) _).mono ?_; rintro e w3 ⟨h, rfl, hh, hb⟩
       have hb' : Below W0.heap.size W0 w3 := (bel_drew (Below.refl _ _)).trans hb
       have HS3 := Lib.hid ((hb'.block _ (lt_of_block HS0.out)).trans HS0.out)
       have HQ3 := Lib.hid ((hb'.block _ (lt_of_block HQ0.out)).trans HQ0.out)
       have cq3 : w3.cell? ⟨w.heap.size + 1, 0, none⟩ = some (.pointer (some ⟨w.heap.size, 0, none⟩)) := cell_of_row _ _ _ _ _ _ HQ3.out
       have cs3 : w3.cell? ⟨w.heap.size, 2, none⟩ = some (.pointer none) := cell_of_row _ _ _ _ _ _ HS3.out
       have fs3 : w3.frozen? ⟨w.heap.size, 2, none⟩ = false := frozen_of_row _ _ _ _ _ HS3.out
       have HH3 : Hid (HeapE w3 W0.heap.size h (FE (w.heap.size + 1)) (.slice none 0 0) []) := hh
       have HB3 := Lib.hid hb'
       clear hh hb hb'))
  all_goals
    go_wp2
    go_ret
    have hne : h ≠ w.heap.size := by have := HH3.out.base; have := HZ0.out; omega
    refine ⟨w.heap.size, w.heap.size + 1, h, rfl, ⟨heap_setCell_same w3 w.heap.size 2 _ _ _ HS3.out, ?_, ⟨Nat.le_refl _, by omega⟩, ⟨?_, ?_, RowAt.nil _ _ _ _⟩⟩, ?_⟩
    · rw [Below.heap_setCell _ _ _ _ (by show w.heap.size + 1 ≠ w.heap.size; omega)]; exact HQ3.out
    · rw [Below.heap_setCell _ _ _ _ (by show h ≠ w.heap.size; exact hne)]; exact HH3.out.box
    · have := HH3.out.base; have := HZ0.out; omega
    · exact (HB0.out.trans (HB3.out.mono HB0.out.size)).setCell (p := ⟨w.heap.size, 2, none⟩) (Nat.le_refl _) _
end Go.Proofs.YtladmconpolneaaGreat

/- slices.Collect(met.All()). -/
set_option linter.unusedVariables false
set_option linter.unusedSimpArgs false
namespace Go.Proofs.YtladmconpolneaaGreat
open Go.RowKit
attribute [local go_sem] Oper.semAt_some
def metTo (X k : Nat) : List Nat := (List.range k).filter fun i => X.testBit i
theorem metTo_succ (X k : Nat) : metTo X (k + 1) = if X.testBit k then metTo X k ++ [k] else metTo X k := by
  unfold metTo
  rw [List.range_succ, List.filter_append]
  by_cases h : X.testBit k <;> simp [h]
/-- What a round must keep: the set and the variable that holds it. -/
def KeepM (b1 m g : Nat) (A B : World) : Prop := A.heap.size ≤ B.heap.size ∧ B.heap[b1]? = A.heap[b1]? ∧ B.heap[m]? = A.heap[m]? ∧ B.heap[g]? = A.heap[g]?
theorem MarksAt.keep {w W : World} {B m g n c X b1 : Nat} (h : MarksAt w B m g n c X) (hk : KeepM b1 m g w W) : MarksAt W B m g n c X := ⟨by rw [hk.2.2.1]; exact h.box, by rw [hk.2.2.2]; exact h.word, h.base, h.bd⟩
theorem all_seq (W : World) (B b1 m g n c X : Nat) (hm : MarksAt W B m g n c X) (hb : W.heap[b1]? = some (.cells #[.pointer (some ⟨m, 0, none⟩)] 146 (0, 0))) :
    SeqT Tryz.prog 118 #[.pointer (some ⟨b1, 0, none⟩)] (fun x : Nat => #[.int .i64 (x : Int)]) (fun pre x _ => x < n ∧ pre = metTo X x) (fun A B => A = B) (KeepM b1 m g) (fun xs _ => xs = metTo X n) (fun _ _ => True) W := by
  intro l J Jx hJ hJx hY h0
  have hn := hm.bd.1
  have HN := Lib.hid hn
  have HM := Lib.hid hm
  have HB := Lib.hid hb
  have c1 : W.cell? ⟨b1, 0, none⟩ = some (.pointer (some ⟨m, 0, none⟩)) := cell_of_row _ _ _ _ _ _ hb
  have c0 : W.cell? ⟨m, 0, none⟩ = some (.int .i64 (n : Int)) := cell_of_row _ _ _ _ _ _ hm.box
  have HY := Lib.hid hY
  clear hY hJ hJx hm hb
  go_enter Tryz.func118, Tryz.ntmps118
  go_wp2
  go_loopg [3, 8] n (fun gk u i wr => ∃ k : Nat, gk = n - k ∧ k ≤ n ∧ i = .int .i64 (k : Int) ∧ Hid (J (metTo X k) wr) ∧ Hid (MarksAt wr B m g n c X) ∧ Hid (wr.heap[b1]? = some (.cells #[.pointer (some ⟨m, 0, none⟩)] 146 (0, 0))))
  case atStart => exact ⟨0, rfl, Nat.zero_le _, rfl, Lib.hid h0, HM, HB⟩
  case round =>
    obtain ⟨k, rfl, hk, rfl, HJ, HM1, HB1⟩ := hrel
    by_cases hkn : k = n
    · subst hkn
      go_wp2
      go_end0
      exact ⟨⟨_, rfl⟩, .inl ⟨_, rfl, HJ.out⟩⟩
    · have hkl : (k : Int) < (n : Int) := by omega
      have hk9 : (0 : Int) ≤ (k : Int) := by omega
      have hkb : (k : Int) ≤ 64 := by omega
      have c1' : wr.cell? ⟨b1, 0, none⟩ = some (.pointer (some ⟨m, 0, none⟩)) := cell_of_row _ _ _ _ _ _ HB1.out
      have HH := Lib.hid (mhas_any B m g n c X k wr HM1.out (by omega))
      have HS := metTo_succ X k
      cases hx : X.testBit k with
      | false =>
        rw [hx] at HH HS
        have HS2 : Hid (metTo X (k + 1) = metTo X k) := HS
        clear HS
        go_wp2_with (first
          | (go_at_call 116; refine HH.out.mono ?_; rintro e w2 ⟨rfl, rfl⟩)
          | fail)
        go_roundg (n - (k + 1))
        case measure => omega
        case rel => exact ⟨k + 1, rfl, by omega, rfl, by rw [HS2.out]; exact HJ, HM1, HB1⟩
      | true =>
        rw [hx] at HH HS
        have HS2 : Hid (metTo X (k + 1) = metTo X k ++ [k]) := HS
        clear HS
        obtain ⟨fn, tmps, assign, body, hy, hR⟩ := HY.out _ k wr HJ.out ⟨by omega, rfl⟩
        refine (wpIn_wide (n := 1)).1 ?_
        gi_wp2_with (first
          | (gi_at_call 116; refine (callsIn_wide.2 HH.out).mono ?_; rintro e w2 ⟨rfl, rfl⟩)
          | (refine ⟨trivial, ?_⟩; gi_at_call 116; refine (callsIn_wide.2 HH.out).mono ?_; rintro e w2 ⟨rfl, rfl⟩)
          | fail)
        refine hR.mono ?_
        rintro e W3 (⟨rfl, hJ3, hk3⟩ | ⟨rfl, hJx3⟩)
        · have HJ3 := Lib.hid hJ3
          have HM3 := Lib.hid (HM1.out.keep hk3)
          have HB3 : Hid (W3.heap[b1]? = some (.cells #[.pointer (some ⟨m, 0, none⟩)] 146 (0, 0))) := hk3.2.1.trans HB1.out
          clear hJ3 hk3 hR hy c1'
          gi_wp2
          go_roundg (n - (k + 1))
          case measure => omega
          case rel => exact ⟨k + 1, rfl, by omega, rfl, by rw [HS2.out]; exact HJ3, HM3, HB3⟩
        · have HJ3 := Lib.hid hJx3
          clear hJx3 hR hy c1'
          gi_wp2
          refine bodyPost_ret (results_none rfl _ _ _) rfl ?_
          exact ⟨⟨_, rfl⟩, .inr ⟨_, trivial, HJ3.out⟩⟩
def CollectPost (w : World) (l : List Nat) (e : Ending) (w' : World) : Prop := ∃ A c, e = .returned (.slice A l.length c) ∧ w'.ownsRow w.heap.size 3 1 (.slice A l.length c) l.length (natV l) ∧ Below w.heap.size w w'
theorem metTo_le (X n : Nat) : (metTo X n).length ≤ n := by
  unfold metTo
  refine Nat.le_trans (List.length_filter_le _ _) ?_
  simp
theorem appendSeq_any (w : World) (B b1 m g n c X : Nat) (hm : MarksAt w B m g n c X) (hb : w.heap[b1]? = some (.cells #[.pointer (some ⟨m, 0, none⟩)] 146 (0, 0))) :
    Calls Tryz.prog 117 #[.slice none 0 0, .func (.func 118) #[] #[.pointer (some ⟨b1, 0, none⟩)]] w (CollectPost w (metTo X n)) := by
  have HM := Lib.hid hm
  have HB := Lib.hid hb
  clear hm hb
  refine calls_marks Tryz.func117 rfl ?_
  simp only [Tryz.ntmps117, List.size_toArray, List.length_cons, List.length_nil, Nat.reduceAdd, Nat.reduceSub, Array.replicate_succ, Array.replicate_zero, List.push_toArray, List.append_toArray, List.nil_append, List.cons_append]
  go_wp2
  have hbx : (w.alloc (.cells #[.slice none 0 0] 66)).heap[w.heap.size]? = some (.cells #[.slice none 0 0] 66 (0, 0)) := heap_alloc_new _ _
  have hB0 : Below w.heap.size w (w.alloc (.cells #[.slice none 0 0] 66)) := (Below.refl _ _).alloc (Nat.le_refl _) _
  have hsz : (w.alloc (.cells #[.slice none 0 0] 66)).heap.size = w.heap.size + 1 := by simp
  have HMA := Lib.hid (HM.out.keepT (KeepT.below (T := []) hB0) (by simp) (by simp))
  have HBA := Lib.hid ((hB0.block _ (lt_of_block HB.out)).trans HB.out)
  have hlb := lt_of_block HB.out
  have hlm := lt_of_block HM.out.box
  have hlg := lt_of_block HM.out.word
  generalize w.alloc (.cells #[.slice none 0 0] 66) = W0 at *
  have hkeep : ∀ o o' : Obj, KeepT [] W0 ((W0.alloc o).alloc o') := fun o o' => (KeepT.below ((Below.refl _ _).alloc (Nat.le_refl _) _)).trans (KeepT.below ((Below.refl _ _).alloc (Nat.le_refl _) _))
  refine wp_rangeT (α := Nat) (gf := 118) (lb := #[.pointer (some ⟨b1, 0, none⟩)]) rfl (Go.Proofs.enters_of Tryz.func118 (by kernel_rfl) rfl) (encs := fun x => #[.int .i64 (x : Int)])
    (V := fun pre x _ => x < n ∧ pre = metTo X x) (T := fun A B => A = B) (Kp := KeepM b1 m g) (S := fun xs _ => xs = metTo X n) (Sp := fun _ _ => True)
    (fun o o' _ _ => all_seq _ B b1 m g n c X (HMA.out.keepT (hkeep o o') (by simp) (by simp)) ((hkeep o o').2 _ _ _ _ HBA.out (by simp))) (fun _ => rfl)
    (fun pre W => ∃ v, W.heap[w.heap.size]? = some (.cells #[v] 66 (0, 0)) ∧ W.ownsRow w.heap.size 3 1 v pre.length (natV pre) ∧ Below w.heap.size w W) (fun _ _ _ => False)
    ?_ ?_ ?_ ?_ ?_ ?_ ?_ ?_ ?_ ?_ ?round ?done ?stop
  · rintro A B rfl; exact Stays.refl _ _
  · rintro s A B h rfl; exact h
  · rintro c s A B h rfl; exact h
  · rintro s W o o' ⟨v, h1, h2, h3⟩ h4 h5 h6
    have hk := KeepT.putObj o' h4 h5
    exact ⟨v, hk.2 _ _ _ _ h1 (by simp), own_keepT h2 hk (by simp), bel_putObj h3 (by omega)⟩
  · rintro c s W o o' h; exact h.elim
  · rintro A B C ⟨h1, h2, h3, h4⟩ ⟨k1, k2, k3, k4⟩; exact ⟨Nat.le_trans h1 k1, k2.trans h2, k3.trans h3, k4.trans h4⟩
  · rintro W o o' h1 h2
    exact ⟨by simp, World.putObj_heap_other (by omega), World.putObj_heap_other (by omega), World.putObj_heap_other (by omega)⟩
  · rintro s W o' h; exact h
  · rintro s W o' h; exact h
  · rintro o o' _ _
    exact ⟨_, (hkeep o o').2 _ _ _ _ hbx (by simp), own_nil _ _ _ _, hB0.trans (((Below.refl _ _).alloc (by omega) _).alloc (by simp; omega) _)⟩
  case round =>
    rintro l pre x W ⟨v, h1, h2, h3⟩ ⟨h4, h5⟩ _
    gi_wp2
    refine ⟨Stays.refl _ _, ?_⟩
    rintro o ho ⟨o1, ho1, ho2⟩
    have hk := KeepT.putObj o ho1 ho2
    have hb1 : W.heap[b1]? = W.heap[b1]? := rfl
    have hkm : KeepM b1 m g W (W.putObj (W0.heap.size + 1) o) := ⟨by simp, World.putObj_heap_other (by omega), World.putObj_heap_other (by omega), World.putObj_heap_other (by omega)⟩
    have g1 := hk.2 _ _ _ _ h1 (by simp)
    have g2 := own_keepT h2 hk (by simp)
    have g3 : Below w.heap.size w (W.putObj (W0.heap.size + 1) o) := bel_putObj h3 (by omega)
    generalize W.putObj (W0.heap.size + 1) o = W1 at *
    obtain ⟨A, cA, rfl⟩ := own_slice g2
    have c1 : W1.cell? ⟨w.heap.size, 0, none⟩ = some (.slice A pre.length cA) := cell_of_row _ _ _ _ _ _ g1
    have hln : pre.length ≤ 64 := by rw [h5]; have := metTo_le X x; have := HM.out.bd.1; omega
    have G1 := Lib.hid g1
    have G2 := Lib.hid g2
    have G3 := Lib.hid g3
    have HKM := Lib.hid hkm
    have hws : w.heap.size < W1.heap.size := lt_of_block g1
    obtain ⟨i0, hi, hz0, hz1, hz2⟩ := info_parts Tryz.info3
    have HI0 := Lib.hid (And.intro hi (And.intro hz0 (And.intro hz1 hz2)))
    have H5 := Lib.hid h5
    clear h1 h2 h3 h5 hb1 ho1 hk g1 g2 g3 hkm hi hz0 hz1 hz2
    have HBA1 : Hid (Below W1.heap.size W1 (W1.alloc (.cells #[.int .i64 (x : Int)] 3))) := (Below.refl _ _).alloc (Nat.le_refl _) _
    have HOA := Lib.hid (own_keepT (T := []) G2.out (KeepT.below HBA1.out) (by simp))
    have HBX := Lib.hid ((HBA1.out.block _ (lt_of_block G1.out)).trans G1.out)
    gi_wp2_with (first
      | (gi_at_builtin; refine wpListIn_append_own_at _ rfl _ _ 66 rfl w.heap.size 3 i0 (.int .i64 0) 1 8 Tryz.underlying66 HI0.out.1 HI0.out.2.1 HI0.out.2.2.1 HI0.out.2.2.2 rfl (by decide) (.slice A pre.length cA) pre.length (natV pre) rfl HOA.out ⟨W1.heap.size, 0, none⟩ 1 1 [.int .i64 (x : Int)] rfl rfl (cell_one_new _ _ _) (by simp [Value.oneCell']) (by simp only [maxLen]; omega) (by omega) (by simp; omega) ?_; intro v' w1 hown' hgrow _ hnew; obtain ⟨g', cap', rfl⟩ := ownsRow_succ hown'
         have hbx1 := (hgrow.block _ (lt_of_block HBX.out) (own_ne2 HOA.out HBX.out (by decide))).trans HBX.out
         have c2 : w1.cell? ⟨w.heap.size, 0, none⟩ = some (.slice A pre.length cA) := cell_of_row _ _ _ _ _ _ hbx1
         have f2 : w1.frozen? ⟨w.heap.size, 0, none⟩ = false := frozen_of_row _ _ _ _ _ hbx1
         have HX1 := Lib.hid hbx1
         have HOW := Lib.hid hown'
         have HGR := Lib.hid hgrow
         clear hbx1 hown' hgrow hnew)
      | fail)
    have hob := own_base HOA.out
    have hrow : ∀ k, k < w.heap.size → (w1.setCell ⟨w.heap.size, 0, none⟩ (.slice (some ⟨g', 0, none⟩) (pre.length + 1) cap')).heap[k]? = W1.heap[k]? := fun k hk =>
      (Below.heap_setCell _ _ _ _ (show k ≠ w.heap.size by omega)).trans ((HGR.out.block k (by simp; omega) (fun e => by have := hob k e.symm; omega)).trans (HBA1.out.block k (by omega)))
    refine ⟨(Stays.below HBA1.out).trans ((Stays.grown HGR.out (fun k hk => ?_)).trans (Stays.setCell HX1.out)), ⟨?_, ?_, ?_, ?_⟩, _, heap_setCell_same w1 w.heap.size 0 _ _ _ HX1.out, ?_, ?_⟩
    · obtain ⟨cur, hc⟩ := own_blk HOA.out k hk
      exact ⟨_, _, _, hc⟩
    · refine Nat.le_trans HKM.out.1 (Nat.le_trans HBA1.out.size (Nat.le_trans HGR.out.size ?_))
      simp [World.setCell]
    · exact (hrow b1 hlb).trans HKM.out.2.1
    · exact (hrow m hlm).trans HKM.out.2.2.1
    · exact (hrow g hlg).trans HKM.out.2.2.2
    · have h := own_keepT (T := [66]) HOW.out (KeepT.set (x := .slice (some ⟨g', 0, none⟩) (pre.length + 1) cap') (i := 0) HX1.out (by simp)) (by simp)
      rw [List.length_append, List.length_singleton]
      rw [show natV (pre ++ [x]) = natV pre ++ [.int .i64 (x : Int)] by simp [natV]]
      exact h
    · exact ((G3.out.trans (HBA1.out.mono (by omega))).grown HGR.out (by simp; omega) hob).setCell (Nat.le_refl _) _
  case done =>
    rintro xs W rfl ⟨v, h1, h2, h3⟩ hK
    obtain ⟨A, cA, rfl⟩ := own_slice h2
    have c1 : W.cell? ⟨w.heap.size, 0, none⟩ = some (.slice A (metTo X n).length cA) := cell_of_row _ _ _ _ _ _ h1
    have H2 := Lib.hid h2
    have H3 := Lib.hid h3
    have HK := Lib.hid hK
    clear h1 h2 h3 hK
    go_wp2
    refine ⟨by simp, .inl ⟨_, _, rfl, run_takeDeferred HK.out, ?_⟩⟩
    refine ⟨_, results_tmp rfl _ _ _, ?_⟩
    exact ⟨A, cA, rfl, own_keepT H2.out (KeepT.putObj _ HK.out rfl) (by simp), bel_putObj H3.out (by omega)⟩
  case stop =>
    rintro c pre W _ h _
    exact h.elim
end Go.Proofs.YtladmconpolneaaGreat

/- The search: begin. -/
set_option linter.unusedVariables false
set_option linter.unusedSimpArgs false
namespace Go.Proofs.YtladmconpolneaaGreat
open Go.RowKit
theorem upF_length (lt : El → El → Bool) (f : Nat) : ∀ (l : List El) (k : Nat), (upF lt f l k).length = l.length := by
  induction f with
  | zero => intro l k; rfl
  | succ f ih =>
    intro l k
    simp only [upF]
    split
    · rfl
    · split
      · rw [ih, swapL_length]
      · rfl
theorem pushL_length (lt : El → El → Bool) (l : List El) (x : El) : (pushL lt l x).length = l.length + 1 := by unfold pushL; rw [upF_length]; simp
def beginL : Nat → List El
  | 0 => []
  | n + 1 => pushL ltT (beginL n) [9223372036854775807, (n : Int), (n : Int), 0]
theorem beginL_length : ∀ n, (beginL n).length = n := by
  intro n
  induction n with
  | zero => rfl
  | succ n ih => rw [beginL, pushL_length, ih]
theorem Tryz.size62 : (Tryz.prog.info? 62).map (·.size) = some 4 := by kernel_rfl
set_option maxHeartbeats 800000 in
set_option maxRecDepth 100000 in
theorem begin_any (Ip Av A : Option Addr) (lf dp : Int) (m cv n c : Nat) (w : World) (hn : n ≤ 300) :
    Calls Tryz.prog 74 #[.agg #[.pointer Ip, .int .i64 lf, .int .i64 dp, .slice A n c], .slice Av m cv] w fun e w' => ∃ b h v', e = .returned (.pointer (some ⟨b, 0, none⟩)) ∧ WalkAt w' w.heap.size b h (.pointer Ip) (.int .i64 lf) (.int .i64 dp) (.slice A n c) (.slice Av m cv) 0 (n : Int) v' (beginL n) ∧ Below w.heap.size w w' := by
  have HI := Lib.hid Tryz.size62
  have HN : Hid (∀ W, Calls Tryz.prog 111 #[FN, .slice none 0 0] W fun e w' => ∃ h, e = .returned (.pointer (some ⟨h, 0, none⟩)) ∧ HeapAt w' W.heap.size h FN (.slice none 0 0) [] ∧ Below W.heap.size W w') := hnew_any
  have HZ := Lib.hid (heap_alloc_new w (.cells #[.pointer Ip, .int .i64 lf, .int .i64 dp, .slice A n c] 62))
  obtain ⟨W, hW⟩ : ∃ W, (w.alloc (.cells #[.pointer Ip, .int .i64 lf, .int .i64 dp, .slice A n c] 62)).alloc (.cells #[.pointer Ip, .int .i64 lf, .int .i64 dp, .slice A n c, .slice Av m cv, .pointer none, .int .i64 0, .int .i64 0] 157) = W := ⟨_, rfl⟩
  have HW := Lib.hid hW
  have g1 : Hid (W.heap[w.heap.size]? = some (.cells #[.pointer Ip, .int .i64 lf, .int .i64 dp, .slice A n c] 62 (0, 0))) := by
    show _ = _
    rw [← hW, Below.heap_alloc _ _ _ (by simp)]; exact heap_alloc_new _ _
  have g2 : Hid (W.heap[w.heap.size + 1]? = some (.cells #[.pointer Ip, .int .i64 lf, .int .i64 dp, .slice A n c, .slice Av m cv, .pointer none, .int .i64 0, .int .i64 0] 157 (0, 0))) := by
    show _ = _
    rw [← hW]; exact alloc_at0 _ _ _ (by simp)
  have hbw : Hid (Below w.heap.size w W ∧ w.heap.size + 2 = W.heap.size) := by
    show _ ∧ _
    rw [← hW]; exact ⟨((Below.refl _ _).alloc (Nat.le_refl _) _).alloc (by simp) _, by simp⟩
  clear hW
  go_enter Tryz.func74, Tryz.ntmps74
  go_wp2_with (first
    | (refine wpList_load_row rfl 62 (.tmp 2) rfl w.heap.size rfl 62 #[.pointer Ip, .int .i64 lf, .int .i64 dp, .slice A n c] (0, 0) _ HZ.out Tryz.underlying62 rfl HI.out ?_)
    | (go_at_call 111; rw [HW.out]; refine (HN.out _).mono ?_; rintro e w3 ⟨h, rfl, hh3, hb3⟩
       have k1 : w3.cell? ⟨w.heap.size, 3, none⟩ = some (.slice A n c) := keepc hb3 (cell_of_row _ _ _ _ _ _ g1.out)
       have K2 : Hid (w3.heap[w.heap.size + 1]? = some (.cells #[.pointer Ip, .int .i64 lf, .int .i64 dp, .slice A n c, .slice Av m cv, .pointer none, .int .i64 0, .int .i64 0] 157 (0, 0))) := (hb3.block _ (lt_of_block g2.out)).trans g2.out
       have k3 : w3.cell? ⟨w.heap.size + 1, 5, none⟩ = some (.pointer none) := cell_of_row _ _ _ _ _ _ K2.out
       have f3 : w3.frozen? ⟨w.heap.size + 1, 5, none⟩ = false := frozen_of_row _ _ _ _ _ K2.out
       have H3 := Lib.hid hh3
       have HB3 := Lib.hid hb3
       clear hh3 hb3)
    | fail)
  have hB0 := H3.out.base
  have hsz := hbw.out.2
  have HWA : Hid (WalkAt (w3.setCell ⟨w.heap.size + 1, 5, none⟩ (.pointer (some ⟨h, 0, none⟩))) w.heap.size (w.heap.size + 1) h (.pointer Ip) (.int .i64 lf) (.int .i64 dp) (.slice A n c) (.slice Av m cv) 0 0 (.slice none 0 0) []) :=
    ⟨heap_setCell_same w3 _ 5 _ _ _ K2.out, by omega, ⟨by rw [Below.heap_setCell _ _ _ _ (by show h ≠ w.heap.size + 1; omega)]; exact H3.out.box, by omega, RowAt.nil _ _ _ _⟩⟩
  have HBA : Hid (Below w.heap.size w (w3.setCell ⟨w.heap.size + 1, 5, none⟩ (.pointer (some ⟨h, 0, none⟩)))) := (hbw.out.1.trans (HB3.out.mono (by omega))).setCell (by show w.heap.size ≤ w.heap.size + 1; omega) _
  generalize w3.setCell ⟨w.heap.size + 1, 5, none⟩ (.pointer (some ⟨h, 0, none⟩)) = W0 at *
  have hn9 : (n : Int) ≤ 300 := by omega
  clear hB0 hsz k1 k3 f3
  go_loopg [6, 18] n (fun gk u i wr => ∃ (k : Nat) (v : Value), gk = n - k ∧ k ≤ n ∧ i = .int .i64 (k : Int) ∧ Hid (WalkAt wr w.heap.size (w.heap.size + 1) h (.pointer Ip) (.int .i64 lf) (.int .i64 dp) (.slice A n c) (.slice Av m cv) 0 (k : Int) v (beginL k)) ∧ Hid (Below w.heap.size w wr))
  case atStart => exact ⟨0, _, rfl, Nat.zero_le _, rfl, HWA, HBA⟩
  case round =>
    obtain ⟨k, v, rfl, hk, rfl, HW1, HB1⟩ := hrel
    by_cases hkn : k = n
    · subst hkn
      go_wp2
      go_ret
      exact ⟨_, h, v, rfl, HW1.out, HB1.out⟩
    · have hkl : (k : Int) < (n : Int) := by omega
      have hk9 : (0 : Int) ≤ (k : Int) := by omega
      have HPU := Lib.hid (wpush_any w.heap.size (w.heap.size + 1) h _ _ _ _ _ 0 (k : Int) v (beginL k) 9223372036854775807 (k : Int) 0 wr HW1.out HB1.out.size (by rw [beginL_length]; omega) ⟨hk9, by omega⟩)
      go_wp2_with (first
        | (go_at_call 114; refine HPU.out.mono ?_; rintro e w5 ⟨rfl, v5, hw5, hb5, hk5, hs5⟩; have HW5 := Lib.hid hw5; have HB5 := Lib.hid (HB1.out.trans hb5); clear hw5 hb5 hk5 hs5)
        | fail)
      go_roundg (n - (k + 1))
      case measure => omega
      case rel => exact ⟨k + 1, v5, rfl, by omega, rfl, HW5, HB5⟩
end Go.Proofs.YtladmconpolneaaGreat

/- A forest in memory: trees of nodes. -/
set_option linter.unusedVariables false
set_option linter.unusedSimpArgs false
namespace Go.Proofs.YtladmconpolneaaGreat
open Go.RowKit
/-- One tree: a slice of nodes. -/
def TreeR (w : World) (t : List Node) (c : List Value) : Prop := ∃ A cap cells, c = [.slice A t.length cap] ∧ w.ownsRow 0 70 6 (.slice A t.length cap) t.length cells ∧ Rows (NodeR w) 6 t cells
def ForestAt (w : World) (v : Value) (ts : List (List Node)) : Prop := ∃ cells, w.ownsRow 0 65 1 v ts.length cells ∧ Rows (TreeR w) 1 ts cells
theorem own_keep {w w' : World} {B sz n : Nat} {e : TypeId} {v : Value} {xs : List Value} (h : w.ownsRow B e sz v n xs) (hk : ∀ (k : Nat) (cells : Array Value) (fr : Nat × Nat), w.heap[k]? = some (.cells cells e fr) → w'.heap[k]? = w.heap[k]?) : w'.ownsRow B e sz v n xs := by
  refine ⟨h.1, h.2.imp id ?_⟩
  rintro ⟨k, cap, cur, h1, h2, h3, h4⟩
  exact ⟨k, cap, cur, h1, h2, by rw [hk k cur _ h3]; exact h3, h4⟩
/-- The forest's blocks stay. -/
structure KeepF (w w' : World) : Prop where
  size : w.heap.size ≤ w'.heap.size
  blk : ∀ (k : Nat) (cells : Array Value) (t : TypeId) (fr : Nat × Nat), w.heap[k]? = some (.cells cells t fr) → t = 65 ∨ t = 70 ∨ t = 3 ∨ t = 21 → w'.heap[k]? = w.heap[k]?
theorem KeepF.kept {w w' : World} (h : KeepF w w') : Kept w w' := ⟨h.size, fun k c t fr hk ht => h.blk k c t fr hk (by rcases ht with rfl | rfl <;> simp)⟩
theorem KeepF.of {T : List TypeId} {w w' : World} (h : KeepT T w w') (h1 : 65 ∉ T) (h2 : 70 ∉ T) (h3 : 3 ∉ T) (h4 : 21 ∉ T) : KeepF w w' := ⟨h.1, fun k c t fr hk ht => by
  rw [hk]
  rcases ht with rfl | rfl | rfl | rfl <;> exact h.2 _ _ _ _ hk (by assumption)⟩
theorem KeepF.below {w w' : World} (h : Below w.heap.size w w') : KeepF w w' := ⟨h.size, fun k c t fr hk _ => h.block k (lt_of_block hk)⟩
theorem KeepF.trans {w w1 w2 : World} (a : KeepF w w1) (b : KeepF w1 w2) : KeepF w w2 := ⟨Nat.le_trans a.size b.size, fun k c t fr hk ht => by
  have h1 := a.blk k c t fr hk ht
  exact (b.blk k c t fr (h1.trans hk) ht).trans h1⟩
theorem KeepF.refl (w : World) : KeepF w w := ⟨Nat.le_refl _, fun _ _ _ _ _ _ => rfl⟩
theorem TreeR.keep {w w' : World} {t : List Node} {c : List Value} (h : TreeR w t c) (hk : KeepF w w') : TreeR w' t c := by
  obtain ⟨A, cap, cells, h1, h2, h3⟩ := h
  exact ⟨A, cap, cells, h1, own_keep h2 (fun k cs fr hb => hk.blk k cs 70 fr hb (by simp)), h3.imp fun x c hx => hx.kept hk.kept⟩
theorem ForestAt.keep {w w' : World} {v : Value} {ts : List (List Node)} (h : ForestAt w v ts) (hk : KeepF w w') : ForestAt w' v ts := by
  obtain ⟨cells, h1, h2⟩ := h
  exact ⟨cells, own_keep h1 (fun k cs fr hb => hk.blk k cs 65 fr hb (by simp)), h2.imp fun t c ht => ht.keep hk⟩
/-- A node of a tree, as its six cells. -/
structure NodeAt (w : World) (g o : Nat) (x : Node) (A : Option Addr) (ca : Nat) (N : Option Addr) (cn : Nat) : Prop where
  c0 : w.cell? ⟨g, o, none⟩ = some (.bool x.leaf)
  c1 : w.cell? ⟨g, o + 1, none⟩ = some (.slice A x.ids.length ca)
  c2 : w.cell? ⟨g, o + 2, none⟩ = some (.slice N x.nrm.length cn)
  c3 : w.cell? ⟨g, o + 3, none⟩ = some (.int .i64 x.off)
  c4 : w.cell? ⟨g, o + 4, none⟩ = some (.int .i64 x.left)
  c5 : w.cell? ⟨g, o + 5, none⟩ = some (.int .i64 x.right)
  ids : RT w 3 A x.ids.length (natV x.ids)
  nrm : RT w 21 N x.nrm.length (i32V x.nrm)
  ca : x.ids.length ≤ ca
  cn : x.nrm.length ≤ cn
theorem tree_node {w : World} {t : List Node} {B gT cap : Nat} {cells : List Value} (h2 : w.ownsRow B 70 6 (.slice (some ⟨gT, 0, none⟩) t.length cap) t.length cells) (h3 : Rows (NodeR w) 6 t cells) (a : Nat) (ha : a < t.length) :
    ∃ A ca N cn, NodeAt w gT (a * 6) t[a] A ca N cn := by
  obtain ⟨c, hc, ⟨A, ca, N, cn, e, r1, r2, r3, r4⟩, hg⟩ := h3.get a ha
  subst e
  have hx : ∀ i u, i < 6 → ([.bool (t[a]).leaf, .slice A (t[a]).ids.length ca, .slice N (t[a]).nrm.length cn, .int .i64 (t[a]).off, .int .i64 (t[a]).left, .int .i64 (t[a]).right] : List Value)[i]? = some u → w.cell? ⟨gT, a * 6 + i, none⟩ = some u := fun i u hi hu => (own_cell h2 _ _ ((hg i hi).trans hu)).1
  exact ⟨A, ca, N, cn, hx 0 _ (by decide) rfl, hx 1 _ (by decide) rfl, hx 2 _ (by decide) rfl, hx 3 _ (by decide) rfl, hx 4 _ (by decide) rfl, hx 5 _ (by decide) rfl, r1, r2, r3, r4⟩
theorem ForestAt.slice {w : World} {v : Value} {ts : List (List Node)} (h : ForestAt w v ts) : ∃ A c, v = .slice A ts.length c := by
  obtain ⟨cells, h1, _⟩ := h
  exact own_slice h1
theorem ForestAt.tree {w : World} {gF c : Nat} {ts : List (List Node)} (h : ForestAt w (.slice (some ⟨gF, 0, none⟩) ts.length c) ts) (t : Nat) (ht : t < ts.length) :
    ∃ A cap cells, w.cell? ⟨gF, t, none⟩ = some (.slice A (ts[t]).length cap) ∧ w.ownsRow 0 70 6 (.slice A (ts[t]).length cap) (ts[t]).length cells ∧ Rows (NodeR w) 6 ts[t] cells := by
  obtain ⟨fc, h1, h2⟩ := h
  obtain ⟨c, hc, ⟨A, cap, cells, e, r1, r2⟩, hg⟩ := h2.get t ht
  subst e
  have h3 := (own_cell h1 _ _ ((hg 0 (by decide)).trans rfl)).1
  rw [Nat.mul_one] at h3
  exact ⟨A, cap, cells, h3, r1, r2⟩
theorem ForestAt.node {w : World} {A : Option Addr} {c : Nat} {ts : List (List Node)} (h : ForestAt w (.slice A ts.length c) ts) (t : Nat) (ht : t < ts.length) (a : Nat) (ha : a < (ts[t]).length) :
    ∃ gF gT cap Ai ca N cn, A = some ⟨gF, 0, none⟩ ∧ w.cell? ⟨gF, t, none⟩ = some (.slice (some ⟨gT, 0, none⟩) (ts[t]).length cap) ∧ NodeAt w gT (a * 6) ((ts[t])[a]) Ai ca N cn := by
  have h' := h
  obtain ⟨fc, h1, _⟩ := h'
  obtain ⟨gF, rfl⟩ := own_addr h1 (by omega)
  obtain ⟨A, cap, cells, h3, r1, r2⟩ := h.tree t ht
  obtain ⟨gT, rfl⟩ := own_addr r1 (by omega)
  obtain ⟨Ai, ca, N, cn, hn⟩ := tree_node r1 r2 a ha
  exact ⟨gF, gT, cap, Ai, ca, N, cn, rfl, h3, hn⟩
end Go.Proofs.YtladmconpolneaaGreat

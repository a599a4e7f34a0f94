/- Several texts of this seat, laid together (no statement of its own): their conditions stand in each theorem. -/
import Derived.Test.YtladmconpolneaaGreatMo
import Derived.Test.YtladmconpolneaaGreatMn
import Derived.Test.YtladmconpolneaaGreatMk
import Derived.Test.YtladmconpolneaaGreatMj
import Derived.Shelf.Sort.Plain
import Derived.Ground.Names2Prog
import Derived.Shelf.Slices.Clone
import Derived.Shelf.Slices.CompactI
import Derived.Shelf.Slices.Cells
import Derived.Shelf.Slices.In.SortNone
import Derived.Test.YtladmconpolneaaGreatProg
import Derived.Lib.OwnBridge
import Derived.Lib.RowBridge
/- What the laws ask ahead: big? right? -/
set_option linter.unusedVariables false
set_option linter.unusedSimpArgs false
namespace Go.Proofs.YtladmconpolneaaGreat
open Go.RowKit
theorem par_cell (p : Par) (L : Option Addr) (c : Nat) : parV p L c = #[.int .i64 p.trees, .int .i64 p.leaf, .int .i64 p.depth, .bool p.scripted, .int .u64 p.seed, .slice L p.list.length c] := rfl
set_option maxHeartbeats 400000 in
theorem thirteen_any (p : Par) (L : Option Addr) (c : Nat) (w : World) : Calls Tryz.prog 67 #[.agg (parV p L c)] w fun e w' => e = .returned (.int .i64 (growE p)) ∧ Below w.heap.size w w' := by
  have HB0 : Hid (∀ o, Below w.heap.size w (w.alloc o)) := fun o => (Below.refl _ _).alloc (Nat.le_refl _) _
  have hh : (p.leaf < 1 ∧ growE p = 1) ∨ (¬ p.leaf < 1 ∧ 1024 < p.leaf ∧ growE p = 1) ∨ (¬ p.leaf < 1 ∧ ¬ 1024 < p.leaf ∧ p.depth < 0 ∧ growE p = 1) ∨ (¬ p.leaf < 1 ∧ ¬ 1024 < p.leaf ∧ ¬ p.depth < 0 ∧ 64 < p.depth ∧ growE p = 1) ∨
    (¬ p.leaf < 1 ∧ ¬ 1024 < p.leaf ∧ ¬ p.depth < 0 ∧ ¬ 64 < p.depth ∧ p.trees < 1 ∧ growE p = 5) ∨ (¬ p.leaf < 1 ∧ ¬ 1024 < p.leaf ∧ ¬ p.depth < 0 ∧ ¬ 64 < p.depth ∧ ¬ p.trees < 1 ∧ 256 < p.trees ∧ growE p = 5) ∨
    (¬ p.leaf < 1 ∧ ¬ 1024 < p.leaf ∧ ¬ p.depth < 0 ∧ ¬ 64 < p.depth ∧ ¬ p.trees < 1 ∧ ¬ 256 < p.trees ∧ growE p = 0) := by
    unfold growE
    split
    · omega
    · split <;> omega
  unfold parV
  generalize growE p = er at *
  generalize p.leaf = lf at *
  generalize p.depth = dp at *
  generalize p.trees = tr at *
  rcases hh with ⟨h1, rfl⟩ | ⟨h1, h2, rfl⟩ | ⟨h1, h2, h3, rfl⟩ | ⟨h1, h2, h3, h4, rfl⟩ | ⟨h1, h2, h3, h4, h5, rfl⟩ | ⟨h1, h2, h3, h4, h5, h6, rfl⟩ | ⟨h1, h2, h3, h4, h5, h6, rfl⟩
  all_goals
    go_enter Tryz.func67, Tryz.ntmps67
    go_wp2
    go_ret
    exact ⟨rfl, HB0.out _⟩
def PSt (i : Nat) (p : Par) (L : Option Addr) (c : Nat) (W : World) : Prop :=
  W.cell? ⟨i, 0, none⟩ = some (.int .i64 p.trees) ∧ W.cell? ⟨i, 1, none⟩ = some (.int .i64 p.leaf) ∧ W.cell? ⟨i, 2, none⟩ = some (.int .i64 p.depth) ∧
  W.cell? ⟨i, 3, none⟩ = some (.bool p.scripted) ∧ W.cell? ⟨i, 4, none⟩ = some (.int .u64 p.seed) ∧ W.cell? ⟨i, 5, none⟩ = some (.slice L p.list.length c)
theorem PSt.of {W : World} {i : Nat} {p : Par} {L : Option Addr} {c : Nat} (h : W.heap[i]? = some (.cells (parV p L c) 28 (0, 0))) : PSt i p L c W := by
  rw [par_cell] at h
  exact ⟨cell_of_row _ _ _ _ _ _ h, cell_of_row _ _ _ _ _ _ h, cell_of_row _ _ _ _ _ _ h, cell_of_row _ _ _ _ _ _ h, cell_of_row _ _ _ _ _ _ h, cell_of_row _ _ _ _ _ _ h⟩
/-- The result's promise, and what is kept. -/
def SureIB (T : Prop) (w : World) (e : Ending) (w' : World) : Prop := SureI T e ∧ Below w.heap.size w w'
def SureBB (T : Prop) (w : World) (e : Ending) (w' : World) : Prop := SureB T e ∧ Below w.heap.size w w'
set_option maxRecDepth 100000 in
theorem twenty_any (n : Nat) (A : Option Addr) (ca : Nat) (p : Par) (L : Option Addr) (c : Nat) (w : World) :
    Calls Tryz.prog 34 #[.slice A n ca, .agg (parV p L c)] w (SureIB (growE p = 0 ∧ n ≠ 0) w) := by
  have hb0 : Below w.heap.size w (w.alloc (.cells (parV p L c) 28)) := (Below.refl _ _).alloc (Nat.le_refl _) _
  have HC := Lib.hid (thirteen_any p L c (w.alloc (.cells (parV p L c) 28)))
  have HB0 := Lib.hid hb0
  obtain ⟨d0, d1, d2, d3, d4, d5⟩ := PSt.of (heap_alloc_new w (.cells (parV p L c) 28))
  obtain ⟨q, hq⟩ : ∃ q, growE p = q := ⟨_, rfl⟩
  rw [hq] at HC ⊢
  rw [par_cell] at *
  clear hb0 hq
  by_cases hq0 : q = 0
  · subst hq0
    by_cases hn : n = 0
    · subst hn
      go_enter Tryz.func34, Tryz.ntmps34
      go_wp2_with (first
        | (go_at_call 67; refine HC.out.mono ?_; rintro e w2 ⟨rfl, hb⟩; have HB2 := Lib.hid (HB0.out.trans (hb.mono HB0.out.size)); clear hb)
        | fail)
      go_ret
      exact ⟨⟨15, rfl, fun h => by cases h⟩, HB2.out⟩
    · have hn0 : ¬ ((n : Int) = 0) := by omega
      have hn1 : ((n : Int) == 0) = false := by simpa using hn0
      have HN := Lib.hid hn
      clear hn hn0
      go_enter Tryz.func34, Tryz.ntmps34
      go_wp2_with (first
        | (go_at_call 67; refine HC.out.mono ?_; rintro e w2 ⟨rfl, hb⟩; have HB2 := Lib.hid (HB0.out.trans (hb.mono HB0.out.size)); clear hb)
        | fail)
      go_ret
      exact ⟨⟨0, rfl, fun _ => ⟨trivial, HN.out⟩⟩, HB2.out⟩
  · have hq1 : (q == 0) = false := by simpa using hq0
    have HQ := Lib.hid hq0
    clear hq0
    go_enter Tryz.func34, Tryz.ntmps34
    go_wp2_with (first
      | (go_at_call 67; refine HC.out.mono ?_; rintro e w2 ⟨rfl, hb⟩; have HB2 := Lib.hid (HB0.out.trans (hb.mono HB0.out.size)); clear hb)
      | fail)
    go_ret
    exact ⟨⟨q, rfl, fun h => absurd h HQ.out⟩, HB2.out⟩
/-- What is few enough. -/
structure NotBig (vs : List (List Int)) (p : Par) (nv : Nat) : Prop where
  cnt : vs.length ≤ 40
  flat : vs.flatten.length ≤ 6000
  trees : p.trees ≤ 6 ∨ 256 < p.trees
  list : p.list.length ≤ 300
  vec : nv ≤ 1100
/-- A bool; if it is false, this is true. -/
def BigPost (T : Prop) (w : World) (e : Ending) (w' : World) : Prop := ∃ bo : Bool, e = .returned (.bool bo) ∧ (bo = false → T) ∧ Below w.heap.size w w'
set_option maxRecDepth 100000 in
set_option maxHeartbeats 1600000 in
/-- 'big': a bool; if it is false, all is few. -/
theorem big_any (vs : List (List Int)) (A : Option Addr) (ca : Nat) (p : Par) (L : Option Addr) (c : Nat) (V : Option Addr) (nv cv : Nat) (w : World) (h : ListsAt w A vs) (hs : Small vs) (hn : vs.length ≤ 281474976710656) :
    Calls Tryz.prog 10 #[.slice A vs.length ca, .agg (parV p L c), .slice V nv cv] w (BigPost (NotBig vs p nv) w) := by
  have hb0 : Below w.heap.size w (w.alloc (.cells (parV p L c) 28)) := (Below.refl _ _).alloc (Nat.le_refl _) _
  have HC := few_any vs A ca (w.alloc (.cells (parV p L c) 28)) (h.below hb0) hs hn
  have HB0 := Lib.hid hb0
  obtain ⟨d0, d1, d2, d3, d4, d5⟩ := PSt.of (heap_alloc_new w (.cells (parV p L c) 28))
  by_cases hf : fewB vs = true
  · rw [hf] at HC
    have HC := Lib.hid HC
    have HF : Hid (vs.flatten.length ≤ 6000) := by unfold fewB at hf; rw [decide_eq_true_iff] at hf; exact hf.2
    have hh : (40 < vs.length) ∨ (vs.length ≤ 40 ∧ 6 < p.trees ∧ p.trees ≤ 256) ∨ (vs.length ≤ 40 ∧ ¬ 6 < p.trees ∧ 300 < p.list.length) ∨ (vs.length ≤ 40 ∧ 6 < p.trees ∧ ¬ p.trees ≤ 256 ∧ 300 < p.list.length) ∨
      (vs.length ≤ 40 ∧ ¬ 6 < p.trees ∧ p.list.length ≤ 300 ∧ 1100 < nv) ∨ (vs.length ≤ 40 ∧ 6 < p.trees ∧ ¬ p.trees ≤ 256 ∧ p.list.length ≤ 300 ∧ 1100 < nv) ∨
      (vs.length ≤ 40 ∧ ¬ 6 < p.trees ∧ p.list.length ≤ 300 ∧ nv ≤ 1100) ∨ (vs.length ≤ 40 ∧ 6 < p.trees ∧ ¬ p.trees ≤ 256 ∧ p.list.length ≤ 300 ∧ nv ≤ 1100) := by omega
    rw [par_cell] at *
    clear h hs hn hb0 hf
    rcases hh with h1 | ⟨h1, h2, h3⟩ | ⟨h1, h2, h3⟩ | ⟨h1, h2, h3, h4⟩ | ⟨h1, h2, h3, h4⟩ | ⟨h1, h2, h3, h4, h5⟩ | ⟨h1, h2, h3, h4⟩ | ⟨h1, h2, h3, h4, h5⟩
    · have g1 : (40 : Int) < (vs.length : Int) := by omega
      clear h1
      go_enter Tryz.func10, Tryz.ntmps10
      go_wp2_with (first | (go_at_call 32; refine HC.out.mono ?_; rintro e w2 ⟨rfl, rfl⟩) | fail)
      go_ret
      exact ⟨true, rfl, fun h => (by cases h), HB0.out⟩
    · have g1 : ¬ (40 : Int) < (vs.length : Int) := by omega
      clear h1
      go_enter Tryz.func10, Tryz.ntmps10
      go_wp2_with (first | (go_at_call 32; refine HC.out.mono ?_; rintro e w2 ⟨rfl, rfl⟩) | fail)
      go_ret
      exact ⟨true, rfl, fun h => (by cases h), HB0.out⟩
    · have g1 : ¬ (40 : Int) < (vs.length : Int) := by omega
      have g3 : (300 : Int) < (p.list.length : Int) := by omega
      clear h1 h3
      go_enter Tryz.func10, Tryz.ntmps10
      go_wp2_with (first | (go_at_call 32; refine HC.out.mono ?_; rintro e w2 ⟨rfl, rfl⟩) | fail)
      go_ret
      exact ⟨true, rfl, fun h => (by cases h), HB0.out⟩
    · have g1 : ¬ (40 : Int) < (vs.length : Int) := by omega
      have g3 : (300 : Int) < (p.list.length : Int) := by omega
      clear h1 h4
      go_enter Tryz.func10, Tryz.ntmps10
      go_wp2_with (first | (go_at_call 32; refine HC.out.mono ?_; rintro e w2 ⟨rfl, rfl⟩) | fail)
      go_ret
      exact ⟨true, rfl, fun h => (by cases h), HB0.out⟩
    · have g1 : ¬ (40 : Int) < (vs.length : Int) := by omega
      have g3 : ¬ (300 : Int) < (p.list.length : Int) := by omega
      have g4 : (1100 : Int) < (nv : Int) := by omega
      clear h1 h3 h4
      go_enter Tryz.func10, Tryz.ntmps10
      go_wp2_with (first | (go_at_call 32; refine HC.out.mono ?_; rintro e w2 ⟨rfl, rfl⟩) | fail)
      go_ret
      exact ⟨true, rfl, fun h => (by cases h), HB0.out⟩
    · have g1 : ¬ (40 : Int) < (vs.length : Int) := by omega
      have g3 : ¬ (300 : Int) < (p.list.length : Int) := by omega
      have g4 : (1100 : Int) < (nv : Int) := by omega
      clear h1 h4 h5
      go_enter Tryz.func10, Tryz.ntmps10
      go_wp2_with (first | (go_at_call 32; refine HC.out.mono ?_; rintro e w2 ⟨rfl, rfl⟩) | fail)
      go_ret
      exact ⟨true, rfl, fun h => (by cases h), HB0.out⟩
    · have g1 : ¬ (40 : Int) < (vs.length : Int) := by omega
      have g3 : ¬ (300 : Int) < (p.list.length : Int) := by omega
      have g4 : ¬ (1100 : Int) < (nv : Int) := by omega
      have HN : Hid (NotBig vs p nv) := ⟨h1, HF.out, .inl (by omega), h3, h4⟩
      clear h1 h3 h4
      go_enter Tryz.func10, Tryz.ntmps10
      go_wp2_with (first | (go_at_call 32; refine HC.out.mono ?_; rintro e w2 ⟨rfl, rfl⟩) | fail)
      go_ret
      refine ⟨false, ?_, fun _ => HN.out, HB0.out⟩
      show Ending.returned (.bool (decide (40 < (vs.length : Int)) || decide (300 < (p.list.length : Int)) || decide (1100 < (nv : Int)))) = _
      rw [decide_eq_false (by omega), decide_eq_false (by omega), decide_eq_false (by omega)]; rfl
    · have g1 : ¬ (40 : Int) < (vs.length : Int) := by omega
      have g3 : ¬ (300 : Int) < (p.list.length : Int) := by omega
      have g4 : ¬ (1100 : Int) < (nv : Int) := by omega
      have HN : Hid (NotBig vs p nv) := ⟨h1, HF.out, .inr (by omega), h4, h5⟩
      clear h1 h4 h5
      go_enter Tryz.func10, Tryz.ntmps10
      go_wp2_with (first | (go_at_call 32; refine HC.out.mono ?_; rintro e w2 ⟨rfl, rfl⟩) | fail)
      go_ret
      refine ⟨false, ?_, fun _ => HN.out, HB0.out⟩
      show Ending.returned (.bool (decide (40 < (vs.length : Int)) || decide (p.trees ≤ 256) || decide (300 < (p.list.length : Int)) || decide (1100 < (nv : Int)))) = _
      rw [decide_eq_false (by omega), decide_eq_false (by omega), decide_eq_false (by omega), decide_eq_false (by omega)]; rfl
  · rw [show fewB vs = false by simpa using hf] at HC
    have HC := Lib.hid HC
    rw [par_cell] at *
    clear h hs hn hb0 hf
    go_enter Tryz.func10, Tryz.ntmps10
    go_wp2_with (first | (go_at_call 32; refine HC.out.mono ?_; rintro e w2 ⟨rfl, rfl⟩) | fail)
    go_ret
    exact ⟨true, rfl, fun h => (by cases h), HB0.out⟩
end Go.Proofs.YtladmconpolneaaGreat

/- index: Build, whoever builds. -/
set_option linter.unusedVariables false
set_option linter.unusedSimpArgs false
namespace Go.Proofs.YtladmconpolneaaGreat
open Go.RowKit
/-- An index with its forest. -/
structure BxAt (w : World) (B x b dim n leaf depth : Nat) (F : List Int) (TA : Option Addr) (tc : Nat) (ts : List (List Node)) : Prop where
  box : w.heap[x]? = some (.cells #[.int .i64 (dim : Int), .pointer (some ⟨b, 0, none⟩), .pointer (some ⟨b, 0, none⟩), .int .i64 (leaf : Int), .int .i64 (depth : Int), .slice TA ts.length tc, .bool true] 93 (0, 0))
  base : B ≤ x
  items : ItemsAt w B b dim n F
  forest : ForestAt w (.slice TA ts.length tc) ts
  reach : ∀ t ∈ ts, Reach F dim leaf depth n t []
theorem BxAt.below {w W : World} {B x b dim n leaf depth : Nat} {F : List Int} {TA : Option Addr} {tc : Nat} {ts : List (List Node)} (h : BxAt w B x b dim n leaf depth F TA tc ts) (hb : Below w.heap.size w W) : BxAt W B x b dim n leaf depth F TA tc ts :=
  ⟨(hb.block _ (lt_of_block h.box)).trans h.box, h.base, h.items.below hb, h.forest.keep (KeepF.below hb), h.reach⟩
theorem ItemsAt.keepT {w W : World} {T : List TypeId} {B b dim n : Nat} {F : List Int} (h : ItemsAt w B b dim n F) (hk : KeepT T w W) (h1 : 178 ∉ T) (h2 : 21 ∉ T) : ItemsAt W B b dim n F := by
  obtain ⟨A, c, q1, q2⟩ := h.box
  exact ⟨h.hdim, h.hn, h.len, h.bd, h.base, A, c, hk.2 _ _ _ _ q1 h1, own_keepT q2 hk h2⟩
def BuiltPost (w : World) (B x b dim n leaf depth trees : Nat) (F : List Int) (e : Ending) (w' : World) : Prop :=
  ∃ TA tc ts, e = .returned (.int .i64 0) ∧ BxAt w' B x b dim n leaf depth F TA tc ts ∧ ts.length = trees ∧ Below B w w'
set_option maxRecDepth 100000 in
set_option maxHeartbeats 1600000 in
theorem ibuild_any (w : World) (B x b dim n leaf depth trees : Nat) (F : List Int) (h : IxAt w B x b dim n F) (hB : B ≤ w.heap.size) (p : Par) (L : Option Addr) (c : Nat) (U V : Value)
    (hbd : ∀ W, Below w.heap.size w W → Calls Tryz.prog 66 #[.pointer (some ⟨x, 0, none⟩), .agg (parV p L c), U, V] W (BuildPost W b leaf depth dim n trees F)) :
    Calls Tryz.prog 31 #[.pointer (some ⟨x, 0, none⟩), .agg (parV p L c), U, V] w (BuiltPost w B x b dim n leaf depth trees F) := by
  have HBD := Lib.hid hbd
  have HX := Lib.hid h
  have HB := Lib.hid hB
  have HB0 : Hid (Below w.heap.size w (w.alloc (.cells (parV p L c) 28))) := (Below.refl _ _).alloc (Nat.le_refl _) _
  have c6 : w.cell? ⟨x, 6, none⟩ = some (.bool false) := cell_of_row _ _ _ _ _ _ h.box
  have c6' : (w.alloc (.cells (parV p L c) 28)).cell? ⟨x, 6, none⟩ = some (.bool false) := keepc HB0.out c6
  have HI := Lib.hid Tryz.size62
  rw [par_cell] at *
  clear h hbd hB c6
  go_enter Tryz.func31, Tryz.ntmps31
  go_wp2_with (first
    | (go_at_call 66; refine (HBD.out _ HB0.out).mono ?_; rintro e w2 ⟨TA, tc, ts, rfl, hf, hl, hr, hb⟩
       have HF := Lib.hid (And.intro hf (And.intro hl hr))
       have HB2 := Lib.hid (HB0.out.trans (hb.mono HB0.out.size))
       have HBA : Hid (Below w2.heap.size w2 (w2.alloc (.cells #[.pointer (some ⟨b, 0, none⟩), .int .i64 (leaf : Int), .int .i64 (depth : Int), .slice TA ts.length tc] 62))) := (Below.refl _ _).alloc (Nat.le_refl _) _
       have HB3 := Lib.hid (HB2.out.trans (HBA.out.mono HB2.out.size))
       have G3 := Lib.hid ((HB3.out.block _ (lt_of_block HX.out.box)).trans HX.out.box)
       have q2 : (w2.alloc (.cells #[.pointer (some ⟨b, 0, none⟩), .int .i64 (leaf : Int), .int .i64 (depth : Int), .slice TA ts.length tc] 62)).cell? ⟨x, 2, none⟩ = some (.pointer none) := cell_of_row _ _ _ _ _ _ G3.out
       have q3 : (w2.alloc (.cells #[.pointer (some ⟨b, 0, none⟩), .int .i64 (leaf : Int), .int .i64 (depth : Int), .slice TA ts.length tc] 62)).cell? ⟨x, 3, none⟩ = some (.int .i64 0) := cell_of_row _ _ _ _ _ _ G3.out
       have q4 : (w2.alloc (.cells #[.pointer (some ⟨b, 0, none⟩), .int .i64 (leaf : Int), .int .i64 (depth : Int), .slice TA ts.length tc] 62)).cell? ⟨x, 4, none⟩ = some (.int .i64 0) := cell_of_row _ _ _ _ _ _ G3.out
       have q5 : (w2.alloc (.cells #[.pointer (some ⟨b, 0, none⟩), .int .i64 (leaf : Int), .int .i64 (depth : Int), .slice TA ts.length tc] 62)).cell? ⟨x, 5, none⟩ = some (.slice none 0 0) := cell_of_row _ _ _ _ _ _ G3.out
       have q6 : (w2.alloc (.cells #[.pointer (some ⟨b, 0, none⟩), .int .i64 (leaf : Int), .int .i64 (depth : Int), .slice TA ts.length tc] 62)).cell? ⟨x, 6, none⟩ = some (.bool false) := cell_of_row _ _ _ _ _ _ G3.out
       have fz : ∀ i, (w2.alloc (.cells #[.pointer (some ⟨b, 0, none⟩), .int .i64 (leaf : Int), .int .i64 (depth : Int), .slice TA ts.length tc] 62)).frozen? ⟨x, i, none⟩ = false := fun i => frozen_of_row _ _ _ _ _ G3.out
       clear hf hl hr hb)
    | fail)
  go_ret
  generalize w2.alloc (.cells #[.pointer (some ⟨b, 0, none⟩), .int .i64 (leaf : Int), .int .i64 (depth : Int), .slice TA ts.length tc] 62) = w3 at *
  have g2 := heap_setCell_same w3 x 2 _ _ (.pointer (some ⟨b, 0, none⟩)) G3.out
  have g3 := heap_setCell_same _ x 3 _ _ (.int .i64 (leaf : Int)) g2
  have g4 := heap_setCell_same _ x 4 _ _ (.int .i64 (depth : Int)) g3
  have g5 := heap_setCell_same _ x 5 _ _ (.slice TA ts.length tc) g4
  have g6 := heap_setCell_same _ x 6 _ _ (.bool true) g5
  have hk : KeepT [93] w3 (((((w3.setCell ⟨x, 2, none⟩ (.pointer (some ⟨b, 0, none⟩))).setCell ⟨x, 3, none⟩ (.int .i64 (leaf : Int))).setCell ⟨x, 4, none⟩ (.int .i64 (depth : Int))).setCell ⟨x, 5, none⟩ (.slice TA ts.length tc)).setCell ⟨x, 6, none⟩ (.bool true)) :=
    ((((KeepT.set G3.out (by simp)).trans (KeepT.set g2 (by simp))).trans (KeepT.set g3 (by simp))).trans (KeepT.set g4 (by simp))).trans (KeepT.set g5 (by simp))
  have hbx := HX.out.base
  refine ⟨TA, tc, ts, rfl, ⟨g6, hbx, (HX.out.items.below HB3.out).keepT hk (by decide) (by decide), (HF.out.1.keep (KeepF.below HBA.out)).keep (KeepF.of hk (by decide) (by decide) (by decide) (by decide)), HF.out.2.2⟩, HF.out.2.1, ?_⟩
  exact ((((((HB3.out.mono HB.out).setCell (p := ⟨x, 2, none⟩) hbx _).setCell (p := ⟨x, 3, none⟩) hbx _).setCell (p := ⟨x, 4, none⟩) hbx _).setCell (p := ⟨x, 5, none⟩) hbx _).setCell (p := ⟨x, 6, none⟩) hbx _)
end Go.Proofs.YtladmconpolneaaGreat

/- topk: Of, over the answers of exact. -/
set_option linter.unusedVariables false
set_option linter.unusedSimpArgs false
namespace Go.Proofs.YtladmconpolneaaGreat
open Go.RowKit
attribute [local go_sem] Oper.semAt_some
def selS (most : Nat) (rs : List El) : List El × Int := rs.foldl (fun p r => (offerL most p.1 [r.getD 0 0, r.getD 1 0, p.2], p.2 + 1)) ([], 0)
def selL (most : Nat) (rs : List El) : List El := (selS most rs).1
theorem selS_snd (most : Nat) (rs : List El) : (selS most rs).2 = (rs.length : Int) := by
  unfold selS
  suffices h : ∀ (l : List El) (p : List El × Int), (l.foldl (fun (p : List El × Int) r => (offerL most p.1 [r.getD 0 0, r.getD 1 0, p.2], p.2 + 1)) p).2 = p.2 + (l.length : Int) by
    have := h rs ([], 0)
    simpa using this
  intro l
  induction l with
  | nil => intro p; simp
  | cons r l ih => intro p; rw [List.foldl_cons, ih]; simp; omega
theorem selL_snoc (most : Nat) (rs : List El) (i f : Int) : selL most (rs ++ [[i, f]]) = offerL most (selL most rs) [i, f, (rs.length : Int)] := by
  unfold selL
  rw [← selS_snd most rs]
  unfold selS
  rw [List.foldl_append]
  rfl
theorem offerL_length (most : Nat) (l : List El) (e : El) : (offerL most l e).length ≤ l.length + 1 := by
  unfold offerL
  split
  · rw [pushLE_length]; omega
  · split
    · simp
    · split
      · rw [pushLE_length, popLE_length]; simp
      · simp
theorem selL_length (most : Nat) (rs : List El) : (selL most rs).length ≤ rs.length := by
  unfold selL selS
  suffices h : ∀ (l : List El) (p : List El × Int), (l.foldl (fun (p : List El × Int) r => (offerL most p.1 [r.getD 0 0, r.getD 1 0, p.2], p.2 + 1)) p).1.length ≤ p.1.length + l.length by
    have := h rs ([], 0)
    simpa using this
  intro l
  induction l with
  | nil => intro p; simp
  | cons r l ih =>
    intro p
    rw [List.foldl_cons]
    refine Nat.le_trans (ih _) ?_
    have := offerL_length most p.1 [r.getD 0 0, r.getD 1 0, p.2]
    simp only [List.length_cons]
    omega
theorem RowAt.base {w : World} {B B' : Nat} {e : TypeId} {sz : Nat} {v : Value} {l : List El} (h : RowAt w B e sz v l) (hB : B' ≤ B) : RowAt w B' e sz v l := by
  obtain ⟨cells, h1, h2⟩ := h
  refine ⟨cells, ⟨h1.1, h1.2.imp id ?_⟩, h2⟩
  rintro ⟨k, cap, cur, q1, q2, q3, q4⟩
  exact ⟨k, cap, cur, q1, Nat.le_trans hB q2, q3, q4⟩
theorem NCs.wstep {W W' : World} {B s q h : Nat} {most at_ : Int} {v v' : Value} {l : List El} (x : SelAt W B s q h most at_ v l) (hs : WStep s h W v W' v') : NCs W W' := fun k o h1 h2 => by
  refine (hs.2.1 k (Array.getElem?_eq_some_iff.1 h1).1 ?_ ?_ (fun e => ?_)).trans h1
  · rintro rfl
    rw [x.box] at h1
    injection h1 with h1
    subst h1
    cases h2
  · rintro rfl
    rw [x.heap.box] at h1
    injection h1 with h1
    subst h1
    cases h2
  · obtain ⟨cur, hc⟩ := x.heap.row.blk _ e
    rw [hc] at h1
    injection h1 with h1
    subst h1
    cases h2
abbrev zero2 : Array Value := #[.int .i64 0, .int .i64 0]
theorem Tryz.size54 : (Tryz.prog.info? 54).map (·.size) = some 2 := by kernel_rfl
/-- What Of holds between two rounds. -/
structure OfAt (w W : World) (b7 s q h most : Nat) (rs : List El) : Prop where
  sel : ∃ v, SelAt W w.heap.size s q h (most : Int) (rs.length : Int) v (selL most rs)
  box : W.heap[b7]? = some (.cells #[.pointer (some ⟨s, 0, none⟩)] 217 (0, 0))
  bel : Below w.heap.size w W
theorem OfAt.keep {w W W' : World} {b7 s q h most : Nat} {rs : List El} (x : OfAt w W b7 s q h most rs) (hk : KeepT [] W W') (hb : Below w.heap.size W W') : OfAt w W' b7 s q h most rs := by
  obtain ⟨v, h1⟩ := x.sel
  exact ⟨⟨v, h1.keepT hk (by simp) (by simp) (by simp) (by simp)⟩, hk.2 _ _ _ _ x.box (by simp), x.bel.trans hb⟩
def OfPostK (w : World) (l : List El) (e : Ending) (w' : World) : Prop := ∃ A c, e = .returned (.slice A l.length c) ∧ RowAt w' w.heap.size 54 2 (.slice A l.length c) (outL l) ∧ Below w.heap.size w w'
set_option maxHeartbeats 3200000 in
set_option maxRecDepth 100000 in
theorem topk_any (w : World) (most B b dim n : Nat) (F v : List Int) (A : Option Addr) (c : Nat) (ids : List Nat) (Ai : Option Addr) (ci b1 b3 b4 b5 : Nat) (hE : EachAt w B b dim n F v A c ids Ai ci b1 b3 b4 b5) (hm : most ≤ 60000) (hl : ids.length ≤ 50000) :
    Calls Tryz.prog 84 #[NF, .int .i64 (most : Int), .func (.func 127) #[] #[.pointer (some ⟨b5, 0, none⟩), .pointer (some ⟨b3, 0, none⟩), .pointer (some ⟨b4, 0, none⟩)]] w (OfPostK w (selL most (ids.map (resE F v dim)))) := by
  have HE := Lib.hid hE
  have HM := Lib.hid hm
  have HL := Lib.hid hl
  have HN : Hid (∀ W, Calls Tryz.prog 121 #[NF, .int .i64 (most : Int)] W fun e w' => ∃ s q h, e = .returned (.pointer (some ⟨s, 0, none⟩)) ∧ SelAt w' W.heap.size s q h (most : Int) 0 (.slice none 0 0) [] ∧ Below W.heap.size W w') := fun W => snew_any most W
  clear hE hm hl
  refine calls_marks Tryz.func84 rfl ?_
  simp only [Tryz.ntmps84, List.size_toArray, List.length_cons, List.length_nil, Nat.reduceAdd, Nat.reduceSub, Array.replicate_succ, Array.replicate_zero, List.push_toArray, List.append_toArray, List.nil_append, List.cons_append]
  go_wp2_with (first
    | (go_at_call 121; refine (HN.out _).mono ?_; rintro e w2 ⟨s, q, h, rfl, hs2, hb2⟩; have HS2 := Lib.hid hs2; have HB2 := Lib.hid hb2; clear hs2 hb2)
    | fail)
  have hba : Below w2.heap.size w2 (w2.alloc (.cells #[.pointer (some ⟨s, 0, none⟩)] 217)) := (Below.refl _ _).alloc (Nat.le_refl _) _
  have HI0 : Hid (OfAt w (w2.alloc (.cells #[.pointer (some ⟨s, 0, none⟩)] 217)) w2.heap.size s q h most []) := ⟨⟨_, HS2.out.below hba⟩, heap_alloc_new _ _, HB2.out.trans (hba.mono HB2.out.size)⟩
  have HEW := Lib.hid HI0.out.bel
  clear hba HS2 HB2 HN
  generalize w2.alloc (.cells #[.pointer (some ⟨s, 0, none⟩)] 217) = W0 at *
  generalize w2.heap.size = b7 at *
  have HSZ : Hid (w.heap.size ≤ W0.heap.size) := HI0.out.bel.size
  have hbel : ∀ o o' : Obj, Below W0.heap.size W0 ((W0.alloc o).alloc o') := fun o o' => ((Below.refl _ _).alloc (Nat.le_refl _) _).alloc (by simp) _
  have hsz2 : ∀ o o' : Obj, ((W0.alloc o).alloc o').heap.size = W0.heap.size + 2 := fun o o' => by simp
  refine wp_rangeN (α := El) (gf := 127) (lb := #[.pointer (some ⟨b5, 0, none⟩), .pointer (some ⟨b3, 0, none⟩), .pointer (some ⟨b4, 0, none⟩)]) rfl (Go.Proofs.enters_of Tryz.func127 (by kernel_rfl) rfl) (encs := fun x : El => #[.agg (i64V x).toArray])
    (V := fun pre x _ => ∃ k, ∃ hk : k < ids.length, pre = (ids.take k).map (resE F v dim) ∧ x = resE F v dim ids[k]) (T := StepE (W0.heap.size + 2)) (Kp := KpE w.heap.size (W0.heap.size + 2) [267, 270, 324])
    (S := fun xs _ => xs = ids.map (resE F v dim)) (Sp := fun _ _ => True)
    (fun o o' _ _ => by
      have h := each_seq w ((W0.alloc o).alloc o') B b dim n F v A c ids Ai ci b1 b3 b4 b5 [267, 270, 324] HE.out (HEW.out.trans ((hbel o o').mono HSZ.out)) (by decide)
      rw [hsz2] at h
      exact h) (fun _ => rfl)
    (fun pre W => OfAt w W b7 s q h most pre) (fun _ _ _ => False)
    ?_ ?_ ?_ ?_ ?_ ?_ ?_ ?_ ?_ ?_ ?_ ?round ?done ?stop
  · intro c s W h; exact h
  · intro C D h k o hk ho _
    rw [h.1.block k (by omega)]
    exact ho
  · intro pre C D hI h; exact hI.keep h.2 (h.1.mono (by have := HSZ.out; omega))
  · intro c pre C D h _; exact h
  · intro pre W o o' hI ho hc _
    exact hI.keep (KeepT.putObj o' ho hc) (bel_putObj (Below.refl _ _) (by have := HSZ.out; omega))
  · intro c pre W o o' h; exact h.elim
  · intro C D E h k; exact ⟨h.1.trans k.1, fun i o hi ho hc => k.2 i o hi (h.2 i o hi ho hc) hc⟩
  · intro W o o' ho hc
    exact ⟨KpB.putObj o' ho hc (by have := HSZ.out; omega), fun i o2 hi h2 _ => (World.putObj_heap_other (by omega)).trans h2⟩
  · intro s W o' h; exact h
  · intro s W o' h; exact h
  · intro o o' _ _
    exact HI0.out.keep (KeepT.below (hbel o o')) ((hbel o o').mono HSZ.out)
  case round =>
    rintro y pre x W hI ⟨k, hk, hpre, hx⟩ hsm
    obtain ⟨i, f, rfl⟩ : ∃ i f, x = [i, f] := ⟨_, _, hx⟩
    have HI1 := Lib.hid hI
    have HI := Lib.hid Tryz.size54
    have hrW : W0.heap.size + 1 < W.heap.size := by
      cases h9 : W.heap[W0.heap.size + 1]? with
      | none => rw [h9] at hsm; cases hsm
      | some o => exact lt_of_block h9
    have HRW := Lib.hid hrW
    have HPL : Hid (pre.length ≤ 50000) := by
      show _ ≤ _
      rw [hpre, List.length_map, List.length_take]
      have := HL.out
      omega
    clear hI hsm hrW hk hpre hx
    gi_wp2_with (first
      | (refine wpListIn_store_row rfl 54 (.tmp 8) (.tmp 13) rfl W.heap.size rfl 54 zero2 #[.int .i64 i, .int .i64 f] rfl (heap_alloc_new _ _) HI.out rfl (by simp [Value.oneCell']) ?_)
      | fail)
    have HBW : Hid (Below W.heap.size W ((W.alloc (.cells zero2 54)).setRow W.heap.size #[.int .i64 i, .int .i64 f])) := bel_setRow ((Below.refl _ _).alloc (Nat.le_refl _) _) (Nat.le_refl _)
    have G4 : Hid (((W.alloc (.cells zero2 54)).setRow W.heap.size #[.int .i64 i, .int .i64 f]).heap[W.heap.size]? = some (.cells #[.int .i64 i, .int .i64 f] 54 (0, 0))) := setRow_heap (W.alloc (.cells zero2 54)) W.heap.size zero2 _ 54 (0, 0) (heap_alloc_new _ _)
    generalize (W.alloc (.cells zero2 54)).setRow W.heap.size #[.int .i64 i, .int .i64 f] = W1 at *
    refine ⟨Stays.below HBW.out, ?_⟩
    rintro o ho ⟨o1, ho1, ho2⟩
    have hk0 := KeepT.putObj o ho1 ho2
    have hbw2 : Below w.heap.size W (W1.putObj (W0.heap.size + 1) o) := bel_putObj (HBW.out.mono (by have := HRW.out; have := HSZ.out; omega)) (by have := HSZ.out; omega)
    have hkw2 : KeepT [] W (W1.putObj (W0.heap.size + 1) o) := (KeepT.below (T := []) HBW.out).trans hk0
    have HI2 := Lib.hid (HI1.out.keep hkw2 hbw2)
    have G42 : Hid ((W1.putObj (W0.heap.size + 1) o).heap[W.heap.size]? = some (.cells #[.int .i64 i, .int .i64 f] 54 (0, 0))) := (World.putObj_heap_other (by have := HRW.out; omega)).trans G4.out
    have HNC : Hid (NC (W0.heap.size + 2) W (W1.putObj (W0.heap.size + 1) o)) := fun k o2 hk h2 _ => (World.putObj_heap_other (by omega)).trans ((HBW.out.block k (Array.getElem?_eq_some_iff.1 h2).1).trans h2)
    have HKW2 : Hid (KpB w.heap.size [267, 270, 324] W (W1.putObj (W0.heap.size + 1) o)) := ⟨hbw2, hkw2.mono (by simp)⟩
    clear hbw2 hkw2 hk0 ho1 ho2 HBW G4
    generalize W1.putObj (W0.heap.size + 1) o = W2 at *
    obtain ⟨vs, hsel⟩ := HI2.out.sel
    have HSEL := Lib.hid hsel
    have HW2 : Hid (w.heap.size ≤ W2.heap.size) := HI2.out.bel.size
    have c7 : W2.cell? ⟨b7, 0, none⟩ = some (.pointer (some ⟨s, 0, none⟩)) := cell_of_row _ _ _ _ _ _ HI2.out.box
    have HOF := Lib.hid (offer_any w.heap.size s q h most (pre.length : Int) i f vs (selL most pre) W2 hsel HW2.out (by have := selL_length most pre; have := HPL.out; omega) HM.out ⟨by omega, by have := HPL.out; omega⟩)
    clear hsel
    gi_wp2_with (first
      | (refine wpListIn_load_row rfl 54 (.tmp 8) rfl W.heap.size rfl 54 #[.int .i64 i, .int .i64 f] (0, 0) _ G42.out Tryz.underlying54 rfl HI.out ?_)
      | (refine ⟨trivial, rfl, ?_⟩; gi_at_call 122; refine (CallsIn.inRound y (callsIn_wide.2 HOF.out)).mono ?_; rintro e w5 ⟨bo, v5, rfl, hx5, hb5, hk5, hs5⟩)
      | fail)
    have hnc5 := NCs.wstep HSEL.out hs5
    refine ⟨fun k o _ ho hc => hnc5 k o ho hc, ⟨HKW2.out.trans ⟨hb5, hk5⟩, fun k o hk ho hc => hnc5 k o (HNC.out k o hk ho hc) hc⟩, ⟨⟨v5, ?_⟩, hk5.2 _ _ _ _ HI2.out.box (by decide), HI2.out.bel.trans hb5⟩⟩
    rw [selL_snoc, List.length_append]
    exact hx5
  case done =>
    rintro xs W hS hI hK
    have hxl : xs.length ≤ 50000 := by rw [hS, List.length_map]; exact HL.out
    subst hS
    obtain ⟨vs, hsel⟩ := hI.sel
    have HSEL := Lib.hid hsel
    have HLI := Lib.hid (list_any w.heap.size s q h (most : Int) _ vs (selL most (ids.map (resE F v dim))) W hsel hI.bel.size (by have := selL_length most (ids.map (resE F v dim)); omega))
    have c7 : W.cell? ⟨b7, 0, none⟩ = some (.pointer (some ⟨s, 0, none⟩)) := cell_of_row _ _ _ _ _ _ hI.box
    have HBE := Lib.hid hI.bel
    have HK := Lib.hid hK
    clear hI hK hsel hxl
    go_wp2_with (first
      | (go_at_call 123; refine HLI.out.mono ?_; rintro e w5 ⟨A5, c5, rfl, hr5, hb5, hn5⟩)
      | fail)
    have hk5 := hn5 _ _ HK.out rfl
    refine ⟨by simp, .inl ⟨_, _, rfl, run_takeDeferred hk5, ?_⟩⟩
    refine ⟨_, results_tmp rfl _ _ _, A5, c5, rfl, ?_, bel_putObj (HBE.out.trans hb5) HSZ.out⟩
    exact (hr5.base HBE.out.size).keepT (KeepT.putObj _ hk5 rfl) (by simp)
  case stop =>
    rintro c pre W _ h _
    exact h.elim
end Go.Proofs.YtladmconpolneaaGreat

/-
  DERIVED: THE SHELF's CONTRACTS AT THIS DUMP, IN PLAIN WORDS (tools/lay-plain.mjs out of 'TtpShelf.lean', which tools/lay-shelf.mjs wrote): THE SAME DECLARATIONS UNDER THE SAME NAMES: 'import', 'namespace', 'open', 'def', 'theorem' AND NOTHING ELSE: no command of the shelf's: FOR A HAND-IN. Each laying: the table of numbers ('.._ren') and one theorem, a field a fact of the dump's own or the kernel's comparison; each contract: ONE APPLICATION.
-/
namespace Go.Proofs
open Go.Shelf
def Tryz.lays189_ren : Go.Shelf.Ren := ⟨fun | 189 => 82 | 125 => 120 | 257 => 119 | 128 => 162 | 129 => 163 | 294 => 153 | 295 => 154 | 296 => 155 | 297 => 156 | 298 => 157 | 299 => 158 | 216 => 159 | 300 => 160 | 301 => 161 | 328 => 199 | 329 => 200 | 330 => 201 | 331 => 202 | 332 => 203 | 215 => 174 | 343 => 219 | n => n, fun | 28 => 66 | 3 => 3 | 46 => 216 | 0 => 0 | 51 => 263 | 53 => 23 | 4 => 4 | 183 => 256 | 182 => 255 | 131 => 260 | 5 => 5 | 9 => 9 | 218 => 318 | 222 => 321 | 228 => 338 | 229 => 41 | n => n, fun | n => n⟩
theorem Tryz.lays189 : Go.Proofs.Lays.n189 Tryz.prog Tryz.lays189_ren := {
  mixed := by kernel_rfl
  f125 := Tryz.func120.trans (congrArg some (by kernel_rfl))
  f128 := Tryz.func162.trans (congrArg some (by kernel_rfl))
  f129 := Tryz.func163.trans (congrArg some (by kernel_rfl))
  f189 := Tryz.func82.trans (congrArg some (by kernel_rfl))
  f215 := Tryz.func174.trans (congrArg some (by kernel_rfl))
  f216 := Tryz.func159.trans (congrArg some (by kernel_rfl))
  f257 := Tryz.func119.trans (congrArg some (by kernel_rfl))
  f294 := Tryz.func153.trans (congrArg some (by kernel_rfl))
  f295 := Tryz.func154.trans (congrArg some (by kernel_rfl))
  f296 := Tryz.func155.trans (congrArg some (by kernel_rfl))
  f297 := Tryz.func156.trans (congrArg some (by kernel_rfl))
  f298 := Tryz.func157.trans (congrArg some (by kernel_rfl))
  f299 := Tryz.func158.trans (congrArg some (by kernel_rfl))
  f300 := Tryz.func160.trans (congrArg some (by kernel_rfl))
  f301 := Tryz.func161.trans (congrArg some (by kernel_rfl))
  f328 := Tryz.func199.trans (congrArg some (by kernel_rfl))
  f329 := Tryz.func200.trans (congrArg some (by kernel_rfl))
  f330 := Tryz.func201.trans (congrArg some (by kernel_rfl))
  f331 := Tryz.func202.trans (congrArg some (by kernel_rfl))
  f332 := Tryz.func203.trans (congrArg some (by kernel_rfl))
  f343 := Tryz.func219.trans (congrArg some (by kernel_rfl))
  t0 := Tryz.underlying0
  a0 := Tryz.isAgg0
  z0 := Tryz.sizeOf0
  v0 := Tryz.zeroValue0
  t3 := Tryz.underlying3
  a3 := Tryz.isAgg3
  z3 := Tryz.sizeOf3
  v3 := Tryz.zeroValue3
  t4 := Tryz.underlying4
  a4 := Tryz.isAgg4
  z4 := Tryz.sizeOf4
  v4 := Tryz.zeroValue4
  t5 := Tryz.underlying5
  a5 := Tryz.isAgg5
  z5 := Tryz.sizeOf5
  v5 := Tryz.zeroValue5
  t9 := Tryz.underlying9
  a9 := Tryz.isAgg9
  z9 := Tryz.sizeOf9
  v9 := Tryz.zeroValue9
  t28 := Tryz.underlying66
  a28 := Tryz.isAgg66
  z28 := Tryz.sizeOf66
  v28 := Tryz.zeroValue66
  t46 := Tryz.underlying216
  a46 := Tryz.isAgg216
  z46 := Tryz.sizeOf216
  v46 := Tryz.zeroValue216
  t51 := Tryz.underlying263
  a51 := Tryz.isAgg263
  z51 := Tryz.sizeOf263
  v51 := Tryz.zeroValue263
  t53 := Tryz.underlying23
  a53 := Tryz.isAgg23
  z53 := Tryz.sizeOf23
  v53 := Tryz.zeroValue23
  t131 := Tryz.underlying260
  a131 := Tryz.isAgg260
  z131 := Tryz.sizeOf260
  v131 := Tryz.zeroValue260
  t182 := Tryz.underlying255
  a182 := Tryz.isAgg255
  z182 := Tryz.sizeOf255
  v182 := Tryz.zeroValue255
  t183 := Tryz.underlying256
  a183 := Tryz.isAgg256
  z183 := Tryz.sizeOf256
  v183 := Tryz.zeroValue256
  t218 := Tryz.underlying318
  a218 := Tryz.isAgg318
  z218 := Tryz.sizeOf318
  v218 := Tryz.zeroValue318
  t222 := Tryz.underlying321
  a222 := Tryz.isAgg321
  z222 := Tryz.sizeOf321
  v222 := Tryz.zeroValue321
  t228 := Tryz.underlying338
  a228 := Tryz.isAgg338
  z228 := Tryz.sizeOf338
  v228 := Tryz.zeroValue338
  t229 := Tryz.underlying41
  a229 := Tryz.isAgg41
  z229 := Tryz.sizeOf41
  v229 := Tryz.zeroValue41 }
open Go.Sort Go.RowKit in
theorem Tryz.slices_Sort_int (blk off cap : Nat) (zs : List Int) (w : World) (hH : Holds (Value.int .i64) w blk off zs.toArray) (hblk : blk < w.heap.size) (hsz : zs.length < 4611686018427387904) :
    Calls Tryz.prog 82 #[.slice (some ⟨blk, off, none⟩) zs.length cap] w fun e w' =>
      e = .returned (.tuple #[]) ∧ ∃ n os, w' = grow (putRow (Value.int .i64) (Sort.ahead w n) blk off (zs.mergeSort fun x y => decide (x ≤ y)).toArray) os := Any.slices_Sort_int Tryz.lays189 blk off cap zs w hH hblk hsz
def Tryz.laysNm220_ren : Go.Shelf.Ren := ⟨fun | 20 => 83 | n => n, fun | 22 => 66 | 3 => 3 | 4 => 4 | 0 => 0 | n => n, fun | n => n⟩
theorem Tryz.laysNm220 : Go.Proofs.Lays2.n20 Tryz.prog Tryz.laysNm220_ren := {
  mixed := by kernel_rfl
  f20 := Tryz.func83.trans (congrArg some (by kernel_rfl))
  t0 := Tryz.underlying0
  a0 := Tryz.isAgg0
  z0 := Tryz.sizeOf0
  v0 := Tryz.zeroValue0
  t3 := Tryz.underlying3
  a3 := Tryz.isAgg3
  z3 := Tryz.sizeOf3
  v3 := Tryz.zeroValue3
  t4 := Tryz.underlying4
  a4 := Tryz.isAgg4
  z4 := Tryz.sizeOf4
  v4 := Tryz.zeroValue4
  t22 := Tryz.underlying66
  a22 := Tryz.isAgg66
  z22 := Tryz.sizeOf66
  v22 := Tryz.zeroValue66
  i3 := by kernel_rfl }
open Go.RowKit Go.Lib Go.Sort in
/-- slices.Compact at []int: "Compact replaces consecutive runs of equal elements with a single copy. This is like the uniq command found on Unix. Compact modifies the contents of the slice s and returns the modified slice, which may have a smaller length. Compact zeroes the elements between the new length and the original length. The result preserves the nilness of s.": IT RETURNS THE SLICE CUT TO 'Lib.compact zs'; ITS CELLS HOLD 'Lib.compact zs', THEN ZERO VALUES up to the old length; all else is as it was, but for the count of draws. IN THE WORDS OF slices.Sort's CONTRACT ('Holds', 'putRow'): so the everyday 'slices.Sort(xs); xs = slices.Compact(xs)' goes from the one contract to the other. It asks 'zs.length ≤ cap' (every slice's: the reslicing 's[:k]' looks at it). Length 0, nil: '.._empty'. (LAID: no walk: one application.) -/
theorem Tryz.slices_Compact_int (blk off cap : Nat) (zs : List Int) (w : World) (hH : Holds (Value.int .i64) w blk off zs.toArray) (hsz : zs.length ≤ 9223372036854775807) (hcap : zs.length ≤ cap) :
    Calls Tryz.prog 83 #[.slice (some ⟨blk, off, none⟩) zs.length cap] w fun e w' => e = .returned (.slice (some ⟨blk, off, none⟩) (Lib.compact zs).length cap) ∧ ∃ q, w' = putRow (Value.int .i64) (Sort.ahead w q) blk off (Lib.compact zs ++ List.replicate (zs.length - (Lib.compact zs).length) 0).toArray := Any.slices_Compact_int Tryz.laysNm220 blk off cap zs w hH hsz hcap
open Go.RowKit Go.Lib Go.Sort in
/-- The same at a slice of length 0, a nil one too: it comes back as it is. (LAID: no walk: one application.) -/
theorem Tryz.slices_Compact_int_empty (a : Option Addr) (cap : Nat) (w : World) :
    Calls Tryz.prog 83 #[.slice a 0 cap] w fun e w' => e = .returned (.slice a 0 cap) ∧ w' = w := Any.slices_Compact_int_empty Tryz.laysNm220 a cap w
open Go.RowKit Go.Sort in
/-- .. and plain. (LAID: no walk: one application.) -/
theorem Tryz.slices_Sort_int_none (p : Option Addr) (cap : Nat) (w : World) :
    Calls Tryz.prog 82 #[.slice p 0 cap] w fun e w' => e = .returned (.tuple #[]) ∧ w' = w := Any.slices_Sort_int_none Tryz.lays189 p cap w
end Go.Proofs

/- exact: Check, Rank. -/
set_option linter.unusedVariables false
set_option linter.unusedSimpArgs false
namespace Go.Proofs.YtladmconpolneaaGreat
open Go.RowKit
def intL (ids : List Nat) : List Int := ids.map fun i : Nat => (i : Int)
theorem natV_intL (ids : List Nat) : natV ids = (intL ids).map (Value.int .i64) := by simp [natV, intL]
theorem intL_length (ids : List Nat) : (intL ids).length = ids.length := by simp [intL]
theorem intL_sort {ids : List Nat} (h : ids.Pairwise (· < ·)) : ((intL ids).mergeSort fun x y => decide (x ≤ y)) = intL ids := by
  apply List.mergeSort_of_pairwise
  unfold intL
  rw [List.pairwise_map]
  refine h.imp fun {a b} hab => ?_
  simp
  omega
theorem intL_compact {ids : List Nat} (h : ids.Pairwise (· < ·)) : Lib.compact (intL ids) = intL ids := by
  refine Lib.compact_all _ fun j hj => ?_
  rw [intL_length] at hj
  unfold Lib.keeps
  rw [decide_eq_true_eq]
  by_cases h0 : j = 0
  · exact .inl h0
  · refine .inr fun e => ?_
    have h1 : j - 1 < ids.length := by omega
    have e1 : (intL ids).toArray[j]! = (ids[j] : Int) := by rw [getElem!_pos _ _ (by simp [intL]; exact hj)]; simp [intL]
    have e2 : (intL ids).toArray[j - 1]! = (ids[j - 1] : Int) := by rw [getElem!_pos _ _ (by simp [intL]; exact h1)]; simp [intL]
    rw [e1, e2] at e
    have := List.pairwise_iff_getElem.1 h (j - 1) j h1 hj (by omega)
    omega
theorem below_grow {B : Nat} {w W : World} (h : Below B w W) (hB : B ≤ W.heap.size) (os : Array Obj) : Below B w (Sort.grow W os) :=
  ⟨h.os, h.tape, h.output, Nat.le_trans h.size (by simp [Sort.grow]), fun k hk => by
    rw [← h.block k hk]
    simp only [Sort.grow]
    rw [Array.getElem?_append_left (by omega)]⟩
theorem sort_any (w : World) (B : Nat) (ids : List Nat) (A : Option Addr) (c : Nat) (h : w.ownsRow B 3 1 (.slice A ids.length c) ids.length (natV ids)) (hs : ids.Pairwise (· < ·)) (hB : B ≤ w.heap.size) (hl : ids.length ≤ 60000) :
    Calls Tryz.prog 82 #[.slice A ids.length c] w fun e w' => e = .returned (.tuple #[]) ∧ w'.ownsRow B 3 1 (.slice A ids.length c) ids.length (natV ids) ∧ Below B w w' := by
  rcases Nat.eq_zero_or_pos ids.length with h0 | h0
  · have := Tryz.slices_Sort_int_none A c w
    rw [h0] at h ⊢
    refine this.mono ?_
    rintro e w' ⟨rfl, rfl⟩
    exact ⟨rfl, h, Below.refl _ _⟩
  · obtain ⟨g, rfl⟩ := own_addr h h0
    have hh := h
    rw [natV_intL] at hh
    obtain ⟨g', cap, he, hb, hlt, _, _, hz, hH⟩ := Lib.holds_of_ownsRow hh (by intro e; cases e)
    injection he with e1 _ e3
    injection e1 with e1
    injection e1 with e1
    subst e1
    have hc := Tryz.slices_Sort_int g 0 c (intL ids) w hH hlt (by rw [intL_length]; omega)
    rw [intL_length] at hc
    refine hc.mono ?_
    rintro e w' ⟨rfl, n, os, rfl⟩
    rw [intL_sort hs]
    have ho := Lib.ownsRow_putRow (q := n) (k := ids.length) (ys := intL ids) hh (intL_length ids) (Nat.le_refl _)
    rw [List.take_of_length_le (by rw [intL_length]; omega), ← natV_intL] at ho
    have hbp : Below B w (Sort.putRow (Value.int .i64) (Sort.ahead w n) g 0 (intL ids).toArray) := Lib.below_putRow (Below.refl _ _) hb
    have hbg := below_grow (B := (Sort.putRow (Value.int .i64) (Sort.ahead w n) g 0 (intL ids).toArray).heap.size) (Below.refl _ _) (Nat.le_refl _) os
    exact ⟨rfl, own_keepT ho (KeepT.below (T := []) hbg) (by simp), hbp.trans (hbg.mono (by simp [Sort.ahead]; omega))⟩
theorem compact_any (w : World) (B : Nat) (ids : List Nat) (A : Option Addr) (c : Nat) (h : w.ownsRow B 3 1 (.slice A ids.length c) ids.length (natV ids)) (hs : ids.Pairwise (· < ·)) (hB : B ≤ w.heap.size) (hl : ids.length ≤ 60000) :
    Calls Tryz.prog 83 #[.slice A ids.length c] w fun e w' => e = .returned (.slice A ids.length c) ∧ w'.ownsRow B 3 1 (.slice A ids.length c) ids.length (natV ids) ∧ Below B w w' := by
  rcases Nat.eq_zero_or_pos ids.length with h0 | h0
  · have := Tryz.slices_Compact_int_empty A c w
    rw [h0] at h ⊢
    refine this.mono ?_
    rintro e w' ⟨rfl, rfl⟩
    exact ⟨rfl, h, Below.refl _ _⟩
  · obtain ⟨g, rfl⟩ := own_addr h h0
    have hh := h
    rw [natV_intL] at hh
    obtain ⟨g', cap, he, hb, hlt, hnc, _, hz, hH⟩ := Lib.holds_of_ownsRow hh (by intro e; cases e)
    injection he with e1 _ e3
    injection e1 with e1
    injection e1 with e1
    subst e1; subst e3
    have hc := Tryz.slices_Compact_int g 0 c (intL ids) w hH (by rw [intL_length]; omega) (by rw [intL_length]; omega)
    rw [intL_compact hs, intL_length] at hc
    refine hc.mono ?_
    rintro e w' ⟨rfl, n, rfl⟩
    have ho := Lib.ownsRow_putRow (q := n) (k := ids.length) (ys := intL ids) hh (intL_length ids) (Nat.le_refl _)
    rw [List.take_of_length_le (by rw [intL_length]; omega), ← natV_intL] at ho
    have e0 : intL ids ++ List.replicate (ids.length - ids.length) 0 = intL ids := by simp
    rw [e0]
    exact ⟨rfl, ho, Lib.below_putRow (Below.refl _ _) hb⟩
/-- The error's number of a question. -/
def exactE (n dim : Nat) (v : List Int) (k : Int) : Int := if n = 0 then 15 else if vecE v dim = 0 then (if k < 0 ∨ 1048576 < k then 1 else 0) else vecE v dim
theorem echeck_any (w : World) (B b dim n : Nat) (F v : List Int) (A : Option Addr) (c : Nat) (k : Int) (h : ItemsAt w B b dim n F) (hv : Reads w A v.length (i32V v)) :
    Calls Tryz.prog 40 #[.pointer (some ⟨b, 0, none⟩), .slice A v.length c, .int .i64 k] w fun e w' => e = .returned (.int .i64 (exactE n dim v k)) ∧ ∃ nn, w' = w.drewN nn := by
  have HL := Lib.hid (len_any w h)
  have HD := Lib.hid (fun m => dim_any (w.drewN m) (h.below (bel_drewN (Below.refl _ _) m)))
  have HV := Lib.hid (fun m => vcheck_any v dim A v.length c (w.drewN m) (hv.below (bel_drewN (Below.refl _ _) m)))
  by_cases hn : n = 0
  · have HE : Hid (exactE n dim v k = 15) := by show _ = _; unfold exactE; rw [if_pos hn]
    subst hn
    clear h hv
    go_enter Tryz.func40, Tryz.ntmps40
    go_wp2_with (first
      | (go_at_call 73; refine HL.out.mono ?_; rintro e w2 ⟨rfl, nn, rfl⟩)
      | fail)
    go_ret
    exact ⟨by rw [HE.out]; rfl, _, rfl⟩
  · have hn0 : ¬ ((n : Int) = 0) := by omega
    obtain ⟨q, hq⟩ : ∃ q, vecE v dim = q := ⟨_, rfl⟩
    rw [hq] at HV
    have HE : Hid (exactE n dim v k = if q = 0 then (if k < 0 ∨ 1048576 < k then 1 else 0) else q) := by show _ = _; unfold exactE; rw [if_neg hn, hq]
    clear h hv hq
    by_cases hq0 : q = 0
    · subst hq0
      by_cases hk : k < 0 ∨ 1048576 < k
      · have HE2 : Hid (exactE n dim v k = 1) := by show _ = _; rw [HE.out, if_pos rfl, if_pos hk]
        clear HE
        by_cases hk0 : k < 0
        · clear hk
          go_enter Tryz.func40, Tryz.ntmps40
          go_wp2_with (first
            | (go_at_call 73; refine HL.out.mono ?_; rintro e w2 ⟨rfl, nn, rfl⟩)
            | (go_at_call 72; refine (HD.out _).mono ?_; rintro e w2 ⟨rfl, rfl⟩)
            | (go_at_call 71; refine (HV.out _).mono ?_; rintro e w2 ⟨rfl, rfl⟩)
            | fail)
          go_ret
          exact ⟨by rw [HE2.out]; rfl, _, rfl⟩
        · have hk1 : (1048576 : Int) < k := by omega
          clear hk
          go_enter Tryz.func40, Tryz.ntmps40
          go_wp2_with (first
            | (go_at_call 73; refine HL.out.mono ?_; rintro e w2 ⟨rfl, nn, rfl⟩)
            | (go_at_call 72; refine (HD.out _).mono ?_; rintro e w2 ⟨rfl, rfl⟩)
            | (go_at_call 71; refine (HV.out _).mono ?_; rintro e w2 ⟨rfl, rfl⟩)
            | fail)
          go_ret
          exact ⟨by rw [HE2.out]; rfl, _, rfl⟩
      · have HE2 : Hid (exactE n dim v k = 0) := by show _ = _; rw [HE.out, if_pos rfl, if_neg hk]
        have hk0 : ¬ k < 0 := by omega
        have hk1 : ¬ (1048576 : Int) < k := by omega
        clear HE hk
        go_enter Tryz.func40, Tryz.ntmps40
        go_wp2_with (first
          | (go_at_call 73; refine HL.out.mono ?_; rintro e w2 ⟨rfl, nn, rfl⟩)
          | (go_at_call 72; refine (HD.out _).mono ?_; rintro e w2 ⟨rfl, rfl⟩)
          | (go_at_call 71; refine (HV.out _).mono ?_; rintro e w2 ⟨rfl, rfl⟩)
          | fail)
        go_ret
        exact ⟨by rw [HE2.out]; rfl, _, rfl⟩
    · have HE2 : Hid (exactE n dim v k = q) := by show _ = _; rw [HE.out, if_neg hq0]
      clear HE
      go_enter Tryz.func40, Tryz.ntmps40
      go_wp2_with (first
        | (go_at_call 73; refine HL.out.mono ?_; rintro e w2 ⟨rfl, nn, rfl⟩)
        | (go_at_call 72; refine (HD.out _).mono ?_; rintro e w2 ⟨rfl, rfl⟩)
        | (go_at_call 71; refine (HV.out _).mono ?_; rintro e w2 ⟨rfl, rfl⟩)
        | fail)
      go_ret
      exact ⟨by rw [HE2.out]; rfl, _, rfl⟩
def RankPost (w : World) (L : List El) (e : Ending) (w' : World) : Prop := ∃ A c, e = .returned (.tuple #[.slice A L.length c, .int .i64 0]) ∧ RowAt w' w.heap.size 54 2 (.slice A L.length c) (outL L) ∧ Below w.heap.size w w'
set_option maxHeartbeats 1600000 in
theorem rank_any (w : World) (B b dim n : Nat) (F v : List Int) (A : Option Addr) (c : Nat) (most : Nat) (ids : List Nat) (Ai : Option Addr) (ci : Nat) (h : ItemsAt w B b dim n F) (hv : Reads w A v.length (i32V v)) (hvb : Bd 1048576 v)
    (hE : exactE n dim v most = 0) (hr : RT w 3 Ai ids.length (natV ids)) (hs : ids.Pairwise (· < ·)) (hi : ∀ i ∈ ids, i < n) (hl : ids.length ≤ 50000) (hm : most ≤ 60000) :
    Calls Tryz.prog 42 #[.pointer (some ⟨b, 0, none⟩), .slice A v.length c, .int .i64 (most : Int), .slice Ai ids.length ci] w (RankPost w (selL most (ids.map (resE F v dim)))) := by
  have HC := echeck_any w B b dim n F v A c (most : Int) h hv
  rw [hE] at HC
  have HC := Lib.hid HC
  have HH := Lib.hid h
  have HV := Lib.hid hv
  have HVB := Lib.hid hvb
  have HR := Lib.hid hr
  have HS := Lib.hid hs
  have HI := Lib.hid hi
  have HL := Lib.hid hl
  have HM := Lib.hid hm
  have HCL : Hid (∀ m, Calls Tryz.prog 81 #[.slice Ai ids.length ci] (w.drewN m) (Made 3 (w.drewN m) (natV ids) ids.length)) := fun m => cloneI_any ids Ai ids.length ci _ (hr.1.below (bel_drewN (Below.refl _ _) m)) (by omega)
  clear h hv hvb hr hs hi hl hm hE
  go_enter Tryz.func42, Tryz.ntmps42
  go_wp2_with (first
    | (go_at_call 40; refine HC.out.mono ?_; rintro e w2 ⟨rfl, nn, rfl⟩)
    | (go_at_call 81; refine (HCL.out nn).mono ?_; rintro e w3 ⟨A3, c3, rfl, ho3, hb3⟩
       have HB3 : Hid (Below w.heap.size w w3) := (bel_drewN (Below.refl _ _) nn).trans hb3
       have HO3 : Hid (w3.ownsRow w.heap.size 3 1 (.slice A3 ids.length c3) ids.length (natV ids)) := ho3
       have HCS := Lib.hid (sort_any w3 w.heap.size ids A3 c3 HO3.out HS.out HB3.out.size (by have := HL.out; omega))
       clear ho3 hb3)
    | (go_at_call 82; refine HCS.out.mono ?_; rintro e w4 ⟨rfl, ho4, hb4⟩
       have HB4 := Lib.hid (HB3.out.trans hb4)
       have HCC := Lib.hid (compact_any w4 w.heap.size ids A3 c3 ho4 HS.out HB4.out.size (by have := HL.out; omega))
       clear ho4 hb4)
    | (go_at_call 83; refine HCC.out.mono ?_; rintro e w5 ⟨rfl, ho5, hb5⟩
       have HB5 := Lib.hid (HB4.out.trans hb5)
       have HO5 := Lib.hid ho5
       clear ho5 hb5)
    | (go_at_call 87; refine (values_any A3 ids.length c3 w5).mono ?_; rintro e w6 ⟨rfl, hx6, hb6⟩
       have HX6 := Lib.hid hx6
       have HB6 := Lib.hid hb6
       clear hx6 hb6)
    | (go_at_call 86; refine (each_any b w5.heap.size A v.length c w6).mono ?_; rintro e w7 ⟨rfl, h3, h4, h5, hb7⟩
       have HB67 : Hid (Below w5.heap.size w5 w7) := HB6.out.trans (hb7.mono HB6.out.size)
       have HB7 : Hid (Below w.heap.size w w7) := HB5.out.trans (HB67.out.mono HB5.out.size)
       have HEA : Hid (EachAt w7 B b dim n F v A c ids A3 c3 w5.heap.size w6.heap.size (w6.heap.size + 1) (w6.heap.size + 2)) :=
         ⟨HH.out.below HB7.out, HV.out.below HB7.out, HVB.out, (RT.of_own HO5.out).keep fun q cs fr hq => HB67.out.block _ (lt_of_block hq), by have := HL.out; omega, HI.out, (hb7.block _ (lt_of_block HX6.out)).trans HX6.out, h3, h4, h5⟩
       have HTK := Lib.hid (topk_any w7 most B b dim n F v A c ids A3 c3 _ _ _ _ HEA.out HM.out HL.out)
       clear h3 h4 h5 hb7)
    | (go_at_call 84; refine HTK.out.mono ?_; rintro e w8 ⟨A8, c8, rfl, hr8, hb8⟩
       have HR8 := Lib.hid hr8
       have HB8 := Lib.hid hb8
       clear hr8 hb8)
    | fail)
  go_ret2
  exact ⟨A8, c8, rfl, HR8.out.base HB7.out.size, HB7.out.trans (HB8.out.mono HB7.out.size)⟩
end Go.Proofs.YtladmconpolneaaGreat

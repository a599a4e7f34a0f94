/- The gang, in a row: gang.Each of ints, from its entry to its return. -/
import Derived.Test.YtapjmifhhbpikaaGs3
import Derived.Test.YtapjmifhhbpikaaHb
import Derived.Test.YtapjmifhhbpikaaHl
set_option linter.unusedVariables false
set_option linter.unusedSimpArgs false
namespace Go.Proofs.Ytapjmifhhbpikaa
open Go.Conc Go.ConcN Go.ConcM Go.RowKit Go.Conc.Lib Go.ConcR.Gen
open Go.ConcR (KK wgBlock WgAt stA smA rd wr mk)
theorem size_al (w : World) (ob : Obj) : (w.alloc ob).heap.size = w.heap.size + 1 := by rw [heap_alloc]; simp
theorem setCell_new (w : World) (u v : Value) (t : TypeId) : (w.alloc (.cells #[u] t)).setCell ⟨w.heap.size, 0, none⟩ v = w.alloc (.cells #[v] t) := by
  have h : (w.alloc (.cells #[u] t)).heap[w.heap.size]? = some (.cells #[u] t) := alloc_at_new _ _
  rw [setCell_eq_setRow _ w.heap.size 0 _ t (0, 0) _ h]
  unfold World.setRow
  have e : ((w.alloc (.cells #[u] t)).heap.modify w.heap.size fun
      | .cells c elem frozen => .cells (#[u].setIfInBounds 0 v) elem frozen
      | o => o) = w.heap.push (.cells #[v] t) := by
    apply Array.ext_getElem?
    intro i
    rw [Array.getElem?_modify, heap_alloc, Array.getElem?_push, Array.getElem?_push]
    by_cases hi : i = w.heap.size
    · subst hi; simp
    · rw [if_neg hi, if_neg (Ne.symm hi)]; simp [hi]
  exact congrArg (fun h : Array Obj => ({ w with heap := h } : World)) e
/-- What the law's call makes ahead of a gang. -/
def W10 (w : World) (J : Nat) (dov : Value) : World :=
  (((((((w.alloc (.cells #[dov] 36)).alloc (.cells (Array.replicate J (.int .i64 0)) 3)).alloc (.cells #[.slice (some ⟨w.heap.size + 1, 0, none⟩) J J] 33)).alloc (muBlock 50 0 0)).alloc
    (.cells #[.func (.func 21) #[] #[.pointer (some ⟨w.heap.size, 0, none⟩), .pointer (some ⟨w.heap.size + 3, 0, none⟩), .pointer (some ⟨w.heap.size + 2, 0, none⟩)]] 52)).alloc (.chan 0 #[] false 0 0 false)).alloc (.cells #[.chan (some (w.heap.size + 5))] 53)).alloc (wgBlock 60 0 0)
theorem W10_size (w : World) (J : Nat) (dov : Value) : (W10 w J dov).heap.size = w.heap.size + 8 := by simp only [W10, size_al, Nat.add_assoc, Nat.reduceAdd]
section
variable {w : World} {J : Nat} {dov : Value}
theorem W10_old {k : Nat} (h : k < w.heap.size) : (W10 w J dov).heap[k]? = w.heap[k]? := by
  unfold W10
  rw [alloc_old (by simp only [size_al]; omega), alloc_old (by simp only [size_al]; omega), alloc_old (by simp only [size_al]; omega), alloc_old (by simp only [size_al]; omega), alloc_old (by simp only [size_al]; omega), alloc_old (by simp only [size_al]; omega), alloc_old (by simp only [size_al]; omega), alloc_old (by omega)]
theorem new_at {w : World} {ob : Obj} {k : Nat} (h : k = w.heap.size) : (w.alloc ob).heap[k]? = some ob := by subst h; exact alloc_at_new _ _
theorem W10_F : (W10 w J dov).heap[w.heap.size]? = some (.cells #[dov] 36) := by
  unfold W10
  rw [alloc_old (by simp only [size_al]; omega), alloc_old (by simp only [size_al]; omega), alloc_old (by simp only [size_al]; omega), alloc_old (by simp only [size_al]; omega), alloc_old (by simp only [size_al]; omega), alloc_old (by simp only [size_al]; omega), alloc_old (by simp only [size_al]; omega), new_at rfl]
theorem W10_C : (W10 w J dov).heap[w.heap.size + 1]? = some (.cells (Array.replicate J (.int .i64 0)) 3) := by
  unfold W10
  rw [alloc_old (by simp only [size_al]; omega), alloc_old (by simp only [size_al]; omega), alloc_old (by simp only [size_al]; omega), alloc_old (by simp only [size_al]; omega), alloc_old (by simp only [size_al]; omega), alloc_old (by simp only [size_al]; omega), new_at (by simp only [size_al])]
theorem W10_O : (W10 w J dov).heap[w.heap.size + 2]? = some (.cells #[.slice (some ⟨w.heap.size + 1, 0, none⟩) J J] 33) := by
  unfold W10
  rw [alloc_old (by simp only [size_al]; omega), alloc_old (by simp only [size_al]; omega), alloc_old (by simp only [size_al]; omega), alloc_old (by simp only [size_al]; omega), alloc_old (by simp only [size_al]; omega), new_at (by simp only [size_al])]
theorem W10_M : (W10 w J dov).heap[w.heap.size + 3]? = some (muBlock 50 0 0) := by
  unfold W10
  rw [alloc_old (by simp only [size_al]; omega), alloc_old (by simp only [size_al]; omega), alloc_old (by simp only [size_al]; omega), alloc_old (by simp only [size_al]; omega), new_at (by simp only [size_al])]
theorem W10_D : (W10 w J dov).heap[w.heap.size + 4]? = some (.cells #[.func (.func 21) #[] #[.pointer (some ⟨w.heap.size, 0, none⟩), .pointer (some ⟨w.heap.size + 3, 0, none⟩), .pointer (some ⟨w.heap.size + 2, 0, none⟩)]] 52) := by
  unfold W10
  rw [alloc_old (by simp only [size_al]; omega), alloc_old (by simp only [size_al]; omega), alloc_old (by simp only [size_al]; omega), new_at (by simp only [size_al])]
theorem W10_H : (W10 w J dov).heap[w.heap.size + 5]? = some (.chan 0 #[] false 0 0 false) := by
  unfold W10
  rw [alloc_old (by simp only [size_al]; omega), alloc_old (by simp only [size_al]; omega), new_at (by simp only [size_al])]
theorem W10_Q : (W10 w J dov).heap[w.heap.size + 6]? = some (.cells #[.chan (some (w.heap.size + 5))] 53) := by
  unfold W10
  rw [alloc_old (by simp only [size_al]; omega), new_at (by simp only [size_al])]
theorem W10_W : (W10 w J dov).heap[w.heap.size + 7]? = some (wgBlock 60 0 0) := by
  unfold W10
  rw [new_at (by simp only [size_al])]
end
def rowI (A B : Int) (J : Nat) (dn : Nat → Bool) : Array Value := ((List.range J).map fun j => if dn j then .int .i64 (doV A B j) else .int .i64 0).toArray
theorem rowI_size (A B : Int) (J : Nat) (dn : Nat → Bool) : (rowI A B J dn).size = J := by simp [rowI]
theorem rowI_set (A B : Int) (J : Nat) (dn : Nat → Bool) (j : Nat) : (rowI A B J dn).setIfInBounds j (.int .i64 (doV A B j)) = rowI A B J (fun x => if x = j then true else dn x) := by
  apply Array.ext_getElem?
  intro x
  by_cases hx : x < J
  · by_cases e : j = x
    · subst e
      rw [Array.getElem?_setIfInBounds_self_of_lt (by rw [rowI_size]; exact hx)]
      simp [rowI, hx]
    · rw [Array.getElem?_setIfInBounds_ne e]
      simp [rowI, hx, Ne.symm e]
  · rw [Array.getElem?_eq_none (by simp [rowI_size]; omega), Array.getElem?_eq_none (by simp [rowI_size]; omega)]
theorem rowI_full (A B : Int) (J : Nat) {dn : Nat → Bool} (h : ∀ j, j < J → dn j = true) : rowI A B J dn = rowI A B J fun _ => true := by
  unfold rowI
  congr 1
  apply List.map_congr_left
  intro j hj
  rw [List.mem_range] at hj
  rw [h j hj]
/-- Shunned are cells of low blocks. -/
def LowS (Shun : Loc → Prop) (s : Nat) : Prop := ∀ l, Shun l → ∃ ad, l = .cell ad ∧ ad.block < s
def ShunI (Shun : Loc → Prop) (s : Nat) (l : Loc) : Prop := Shun l ∨ ∃ ad, l = .cell ad ∧ (ad.block = s + 3 ∨ ad.block = s + 7)
theorem shunI_iff {Shun : Loc → Prop} {s : Nat} (hS : LowS Shun s) (ad : Addr) (h : s ≤ ad.block) : ShunI Shun s (.cell ad) ↔ (ad.block = s + 3 ∨ ad.block = s + 7) := by
  constructor
  · rintro (h1 | ⟨x, hx, hb⟩)
    · obtain ⟨x, hx, hb⟩ := hS _ h1
      cases hx; omega
    · cases hx; exact hb
  · exact fun hb => .inr ⟨ad, rfl, hb⟩
/-- THE GANG's NUMBERS. -/
def bandI (A B : Int) (J N s base : Nat) (Shun : Loc → Prop) (hN1 : 1 ≤ N) (hN : N ≤ 64) (hS : LowS Shun s) : Band where
  tM := 50
  tW := 60
  Mu := s + 3
  Wg := s + 7
  Ch := s + 5
  C := s + 1
  ety := 3
  B0 := s + 8
  base := base
  N := N
  J := J
  Shun := ShunI Shun s
  z := .int .i64 0
  nb := 1
  sz := J
  row := rowI A B J
  put := fun j cs => cs.setIfInBounds j (.int .i64 (doV A B j))
  hMW := by omega
  hMC := by omega
  hWC := by omega
  hMH := by omega
  hWH := by omega
  hCH := by omega
  bM := by omega
  bW := by omega
  bH := by omega
  bC := by omega
  sM := fun ad h => (shunI_iff hS ad (by omega)).2 (.inl h)
  sW := fun ad h => (shunI_iff hS ad (by omega)).2 (.inr h)
  sC := fun ad h hs => by have := (shunI_iff hS ad (by omega)).1 hs; omega
  sB := fun ad h hs => by have := (shunI_iff hS ad (by omega)).1 hs; omega
  sO := fun b hs => by
    rcases hs with h1 | ⟨x, hx, _⟩
    · obtain ⟨x, hx, _⟩ := hS _ h1; cases hx
    · cases hx
  hN := hN1
  hnb := by omega
  hrow := rowI_size A B J
  hput := fun dn j _ => rowI_set A B J dn j
  hfull := fun dn h => rowI_full A B J h
  hNb := by omega
/-- WHAT STANDS BEHIND A GANG. -/
structure Aft (w w' : World) (n : Nat) : Prop where
  size : w.heap.size + n ≤ w'.heap.size
  tape : w'.tape = w.tape
  output : w'.output = w.output
  os : OsLater w.os w'.os
  old : ∀ k, k < w.heap.size → w'.heap[k]? = w.heap[k]?
theorem job21 {A B : Int} {J N s base : Nat} {Shun : Loc → Prop} {hN1 : 1 ≤ N} {hN : N ≤ 64} {hS : LowS Shun s} {W : World} {Q D F O : Nat} (E : Env (bandI A B J N s base Shun hN1 hN hS) W Q D F O 21 (.func (.func 11) #[.agg #[.int .i64 A, .int .i64 B]] #[])) : JobGo (bandI A B J N s base Shun hN1 hN hS) W F O 21 body21 :=
  fun Fa _ b₁ a₁ ops₁ i₁ rest₁ k₁ cs₁ j hj k v hT w hF => each1Go E Nat.one_pos rfl j hj (fun _ => rfl) k v hT w hF
end Go.Proofs.Ytapjmifhhbpikaa

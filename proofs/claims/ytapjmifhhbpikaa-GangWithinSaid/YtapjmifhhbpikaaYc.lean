/- Gangs within gangs: the gang, in a row: gang.Each of ints, from its entry to its return. -/
import Derived.Test.YtapjmifhhbpikaaXs3
import Derived.Test.YtapjmifhhbpikaaYb
import Derived.Test.YtapjmifhhbpikaaYl
set_option linter.unusedVariables false
set_option linter.unusedSimpArgs false
namespace Go.Proofs.Ytapjmifhhbpikaa
open Go.Conc Go.ConcN Go.ConcM Go.RowKit Go.Conc.Lib Go.ConcR.Gen
open Go.ConcR (KK wgBlock WgAt stA smA rd wr mk)
theorem size_al (w : World) (ob : Obj) : (w.alloc ob).heap.size = w.heap.size + 1 := by rw [heap_alloc]; simp
theorem setCell_new (w : World) (u v : Value) (t : TypeId) : (w.alloc (.cells #[u] t)).setCell ⟨w.heap.size, 0, none⟩ v = w.alloc (.cells #[v] t) := by
  have h : (w.alloc (.cells #[u] t)).heap[w.heap.size]? = some (.cells #[u] t) := alloc_at_new _ _
  rw [setCell_eq_setRow _ w.heap.size 0 _ t (0, 0) _ h]
  unfold World.setRow
  have e : ((w.alloc (.cells #[u] t)).heap.modify w.heap.size fun
      | .cells c elem frozen => .cells (#[u].setIfInBounds 0 v) elem frozen
      | o => o) = w.heap.push (.cells #[v] t) := by
    apply Array.ext_getElem?
    intro i
    rw [Array.getElem?_modify, heap_alloc, Array.getElem?_push, Array.getElem?_push]
    by_cases hi : i = w.heap.size
    · subst hi; simp
    · rw [if_neg hi, if_neg (Ne.symm hi)]; simp [hi]
  exact congrArg (fun h : Array Obj => ({ w with heap := h } : World)) e
/-- What the law's call makes ahead of a gang. -/
def W10 (w : World) (J : Nat) (dov : Value) : World :=
  (((((((w.alloc (.cells #[dov] 36)).alloc (.cells (Array.replicate J (.int .i64 0)) 3)).alloc (.cells #[.slice (some ⟨w.heap.size + 1, 0, none⟩) J J] 33)).alloc (muBlock 50 0 0)).alloc
    (.cells #[.func (.func 21) #[] #[.pointer (some ⟨w.heap.size, 0, none⟩), .pointer (some ⟨w.heap.size + 3, 0, none⟩), .pointer (some ⟨w.heap.size + 2, 0, none⟩)]] 52)).alloc (.chan 0 #[] false 0 0 false)).alloc (.cells #[.chan (some (w.heap.size + 5))] 53)).alloc (wgBlock 60 0 0)
theorem W10_size (w : World) (J : Nat) (dov : Value) : (W10 w J dov).heap.size = w.heap.size + 8 := by simp only [W10, size_al, Nat.add_assoc, Nat.reduceAdd]
section
variable {w : World} {J : Nat} {dov : Value}
theorem W10_old {k : Nat} (h : k < w.heap.size) : (W10 w J dov).heap[k]? = w.heap[k]? := by
  unfold W10
  rw [alloc_old (by simp only [size_al]; omega), alloc_old (by simp only [size_al]; omega), alloc_old (by simp only [size_al]; omega), alloc_old (by simp only [size_al]; omega), alloc_old (by simp only [size_al]; omega), alloc_old (by simp only [size_al]; omega), alloc_old (by simp only [size_al]; omega), alloc_old (by omega)]
theorem new_at {w : World} {ob : Obj} {k : Nat} (h : k = w.heap.size) : (w.alloc ob).heap[k]? = some ob := by subst h; exact alloc_at_new _ _
theorem W10_F : (W10 w J dov).heap[w.heap.size]? = some (.cells #[dov] 36) := by
  unfold W10
  rw [alloc_old (by simp only [size_al]; omega), alloc_old (by simp only [size_al]; omega), alloc_old (by simp only [size_al]; omega), alloc_old (by simp only [size_al]; omega), alloc_old (by simp only [size_al]; omega), alloc_old (by simp only [size_al]; omega), alloc_old (by simp only [size_al]; omega), new_at rfl]
theorem W10_C : (W10 w J dov).heap[w.heap.size + 1]? = some (.cells (Array.replicate J (.int .i64 0)) 3) := by
  unfold W10
  rw [alloc_old (by simp only [size_al]; omega), alloc_old (by simp only [size_al]; omega), alloc_old (by simp only [size_al]; omega), alloc_old (by simp only [size_al]; omega), alloc_old (by simp only [size_al]; omega), alloc_old (by simp only [size_al]; omega), new_at (by simp only [size_al])]
theorem W10_O : (W10 w J dov).heap[w.heap.size + 2]? = some (.cells #[.slice (some ⟨w.heap.size + 1, 0, none⟩) J J] 33) := by
  unfold W10
  rw [alloc_old (by simp only [size_al]; omega), alloc_old (by simp only [size_al]; omega), alloc_old (by simp only [size_al]; omega), alloc_old (by simp only [size_al]; omega), alloc_old (by simp only [size_al]; omega), new_at (by simp only [size_al])]
theorem W10_M : (W10 w J dov).heap[w.heap.size + 3]? = some (muBlock 50 0 0) := by
  unfold W10
  rw [alloc_old (by simp only [size_al]; omega), alloc_old (by simp only [size_al]; omega), alloc_old (by simp only [size_al]; omega), alloc_old (by simp only [size_al]; omega), new_at (by simp only [size_al])]
theorem W10_D : (W10 w J dov).heap[w.heap.size + 4]? = some (.cells #[.func (.func 21) #[] #[.pointer (some ⟨w.heap.size, 0, none⟩), .pointer (some ⟨w.heap.size + 3, 0, none⟩), .pointer (some ⟨w.heap.size + 2, 0, none⟩)]] 52) := by
  unfold W10
  rw [alloc_old (by simp only [size_al]; omega), alloc_old (by simp only [size_al]; omega), alloc_old (by simp only [size_al]; omega), new_at (by simp only [size_al])]
theorem W10_H : (W10 w J dov).heap[w.heap.size + 5]? = some (.chan 0 #[] false 0 0 false) := by
  unfold W10
  rw [alloc_old (by simp only [size_al]; omega), alloc_old (by simp only [size_al]; omega), new_at (by simp only [size_al])]
theorem W10_Q : (W10 w J dov).heap[w.heap.size + 6]? = some (.cells #[.chan (some (w.heap.size + 5))] 53) := by
  unfold W10
  rw [alloc_old (by simp only [size_al]; omega), new_at (by simp only [size_al])]
theorem W10_W : (W10 w J dov).heap[w.heap.size + 7]? = some (wgBlock 60 0 0) := by
  unfold W10
  rw [new_at (by simp only [size_al])]
end
def rowF (f : Nat → Int) (J : Nat) (dn : Nat → Bool) : Array Value := ((List.range J).map fun j => if dn j then .int .i64 (f j) else .int .i64 0).toArray
theorem rowF_size (f : Nat → Int) (J : Nat) (dn : Nat → Bool) : (rowF f J dn).size = J := by simp [rowF]
theorem rowF_set (f : Nat → Int) (J : Nat) (dn : Nat → Bool) (j : Nat) : (rowF f J dn).setIfInBounds j (.int .i64 (f j)) = rowF f J (fun x => if x = j then true else dn x) := by
  apply Array.ext_getElem?
  intro x
  by_cases hx : x < J
  · by_cases e : j = x
    · subst e
      rw [Array.getElem?_setIfInBounds_self_of_lt (by rw [rowF_size]; exact hx)]
      simp [rowF, hx]
    · rw [Array.getElem?_setIfInBounds_ne e]
      simp [rowF, hx, Ne.symm e]
  · rw [Array.getElem?_eq_none (by simp [rowF_size]; omega), Array.getElem?_eq_none (by simp [rowF_size]; omega)]
theorem rowF_full (f : Nat → Int) (J : Nat) {dn : Nat → Bool} (h : ∀ j, j < J → dn j = true) : rowF f J dn = rowF f J fun _ => true := by
  unfold rowF
  congr 1
  apply List.map_congr_left
  intro j hj
  rw [List.mem_range] at hj
  rw [h j hj]
/-- Shunned are places of low blocks. -/
def LowS (Shun : Loc → Prop) (s : Nat) : Prop := ∀ l, Shun l → ∃ b, locB l = some b ∧ b < s
/-- A block of which a place is shunned. -/
def ShB (Shun : Loc → Prop) (k : Nat) : Prop := ∃ l, locB l = some k ∧ Shun l
theorem ShB.of {Shun : Loc → Prop} {k i : Nat} (h : Shun (.cell ⟨k, i, none⟩)) : ShB Shun k := ⟨_, rfl, h⟩
theorem LowS.notB {Shun : Loc → Prop} {s k : Nat} (h : LowS Shun s) (hk : s ≤ k) : ¬ ShB Shun k := by
  rintro ⟨l, hl, hs⟩
  obtain ⟨b, hb, hlt⟩ := h l hs
  rw [hl] at hb; cases hb; omega
/-- THE GANG's NUMBERS. Mu, Wg, Ch, C: its four; B0: what lies below it. -/
def bandF (f : Nat → Int) (J N nb Mu Wg Ch C B0 : Nat) (mn deep : Bool) (St : Nat → Prop) (hN1 : 1 ≤ N) (hN : N ≤ 64) (hnb : nb ≤ 1000) (hd : Mu ≠ Wg ∧ Mu ≠ C ∧ Wg ≠ C ∧ Mu ≠ Ch ∧ Wg ≠ Ch ∧ C ≠ Ch) (hB : Mu < B0 ∧ Wg < B0 ∧ Ch < B0 ∧ C < B0) : Band where
  tM := 50
  tW := 60
  Mu := Mu
  Wg := Wg
  Ch := Ch
  C := C
  ety := 3
  B0 := B0
  N := N
  J := J
  mn := mn
  St := St
  deep := deep
  z := .int .i64 0
  nb := nb
  sz := J
  row := rowF f J
  put := fun j cs => cs.setIfInBounds j (.int .i64 (f j))
  hMW := hd.1
  hMC := hd.2.1
  hWC := hd.2.2.1
  hMH := hd.2.2.2.1
  hWH := hd.2.2.2.2.1
  hCH := hd.2.2.2.2.2
  bM := hB.1
  bW := hB.2.1
  bH := hB.2.2.1
  bC := hB.2.2.2
  hN := hN1
  hnb := hnb
  hrow := rowF_size f J
  hput := fun dn j _ => rowF_set f J dn j
  hfull := fun dn h => rowF_full f J h
  hNb := by omega
/-- .. of a gang of goroutine 0's, whose blocks lie in a row. -/
def bandI (f : Nat → Int) (J N nb s : Nat) (deep : Bool) (Shun : Loc → Prop) (hN1 : 1 ≤ N) (hN : N ≤ 64) (hnb : nb ≤ 1000) : Band :=
  bandF f J N nb (s + 3) (s + 7) (s + 5) (s + 1) (s + 8) true deep (fun k => ¬ ShB Shun k) hN1 hN hnb (by omega) (by omega)
/-- WHAT STANDS BEHIND A GANG. -/
structure Aft (w w' : World) (n : Nat) : Prop where
  size : w.heap.size + n ≤ w'.heap.size
  tape : w'.tape = w.tape
  output : w'.output = w.output
  os : OsLater w.os w'.os
/-- What stood stands, but for shunned blocks. -/
def Olds (Shun : Loc → Prop) (w w' : World) : Prop := ∀ k, k < w.heap.size → ¬ ShB Shun k → w'.heap[k]? = w.heap[k]?
end Go.Proofs.Ytapjmifhhbpikaa

/- Items that are all the same: what is near are the least ids that are met. Plain Lean. -/
import Derived.Test.YtladmconpolneaaGreatMt
set_option linter.unusedVariables false
set_option linter.unusedSimpArgs false
namespace Go.Proofs.YtladmconpolneaaGreat
open Go.RowKit
theorem rowL_rep (v : List Int) : ∀ (n id : Nat), id < n → rowL (List.replicate n v).flatten v.length id = v
  | 0, id, h => absurd h (by omega)
  | n + 1, 0, h => by unfold rowL; simp [List.replicate_succ]
  | n + 1, id + 1, h => by
    have := rowL_rep v n id (by omega)
    unfold rowL at this ⊢
    rw [List.replicate_succ, List.flatten_cons, show (id + 1) * v.length = v.length + id * v.length from by rw [Nat.succ_mul, Nat.add_comm], List.drop_append, Nat.add_sub_cancel_left, List.drop_eq_nil_of_le (by omega), List.nil_append]
    exact this
/-- An answer of items that are all the same. -/
structure SameA (n k : Nat) (f : Int) (l : List El) : Prop where
  mem : ∀ i (h : i < l.length), ∃ id : Nat, id < n ∧ l[i] = [(id : Int), f]
  up : ∀ i (h : i + 1 < l.length), (l[i]'(by omega)).getD 0 0 < l[i + 1].getD 0 0
theorem sameAns_any {ts : List (List Node)} {v x : List Int} {n depth : Nat} (k limit : Nat) (hok : FOk ts n v.length depth) (htr : ∀ t ∈ ts, ∃ bt : BT, t = bt.nodes 0 ∧ ∀ i, i < n → i ∈ bt.ids) :
    SameA n k (farL v x) (ansQ (List.replicate n v).flatten v.length n ts x k limit) := by
  have ha := ans_of (F := (List.replicate n v).flatten) (v := x) k limit hok htr
  have hm : ∀ r ∈ ansQ (List.replicate n v).flatten v.length n ts x k limit, ∃ id : Nat, id < n ∧ r = [(id : Int), farL v x] := by
    intro r hr
    obtain ⟨id, h1, rfl⟩ := ha.mem r hr
    exact ⟨id, h1, by unfold resE; rw [rowL_rep v n id h1]⟩
  refine ⟨fun i h => hm _ (List.getElem_mem h), fun i h => ?_⟩
  have h1 := List.pairwise_iff_getElem.1 ha.sorted i (i + 1) (by omega) h (by omega)
  obtain ⟨a, _, ea⟩ := hm _ (List.getElem_mem (show i < _ by omega))
  obtain ⟨b, _, eb⟩ := hm _ (List.getElem_mem h)
  rw [ea, eb] at h1 ⊢
  have := nearE_to h1
  simp at this ⊢
  omega
theorem same_all {ts : List (List Node)} {v x : List Int} {n depth : Nat} (k : Nat) (hok : FOk ts n v.length depth) (htr : ∀ t ∈ ts, ∃ bt : BT, t = bt.nodes 0 ∧ ∀ i, i < n → i ∈ bt.ids) :
    (ansQ (List.replicate n v).flatten v.length n ts x k n).length = min k n ∧ ∀ i (h : i < (ansQ (List.replicate n v).flatten v.length n ts x k n).length), (ansQ (List.replicate n v).flatten v.length n ts x k n)[i] = [(i : Int), farL v x] := by
  have hs := sameAns_any (x := x) k n hok htr
  have hm := met_of x n hok htr
  have hf := out_first k ((metQ n ts x n).map (resE (List.replicate n v).flatten x v.length)) (res_two _ x _ _) (res_nodup _ x _ (sorted_nodup hm.sorted))
  have hnd := sorted_nodup hm.sorted
  have hmin := hm.min
  change Met n n (metQ n ts x n) at hm
  have hml : (metQ n ts x n).length = n := by
    have h1 := hm.min
    omega
  have hall : ∀ j, j < n → j ∈ metQ n ts x n := by
    intro j hj
    apply Classical.byContradiction
    intro hno
    have := nodup_le n (j :: metQ n ts x n) (List.nodup_cons.2 ⟨hno, sorted_nodup hm.sorted⟩) (by
      intro i hi
      rcases List.mem_cons.1 hi with rfl | hi
      · exact hj
      · exact hm.lt i hi)
    rw [List.length_cons, hml] at this
    omega
  change First k _ (ansQ (List.replicate n v).flatten v.length n ts x k n) at hf
  generalize ansQ (List.replicate n v).flatten v.length n ts x k n = l at *
  have hlen : l.length = min k n := by have := hf.len; rw [List.length_map, hml] at this; exact this
  have hinc : ∀ d i (h : i + d + 1 < l.length), (l[i]'(by omega)).getD 0 0 < (l[i + d + 1]).getD 0 0 := by
    intro d
    induction d with
    | zero => intro i h; exact hs.up i h
    | succ d ih =>
      intro i h
      have h1 := ih i (by omega)
      have h2 := hs.up (i + d + 1) h
      exact Int.lt_trans h1 h2
  have hlt : ∀ i j (hij : i < j) (hj : j < l.length), (l[i]'(by omega)).getD 0 0 < (l[j]).getD 0 0 := by
    intro i j hij hj
    obtain ⟨d, rfl⟩ : ∃ d, j = i + d + 1 := ⟨j - i - 1, by omega⟩
    exact hinc d i hj
  refine ⟨hlen, ?_⟩
  have key : ∀ m i, i < m → ∀ (h : i < l.length), l[i] = [(i : Int), farL v x] := by
    intro m
    induction m with
    | zero => intro i hi; omega
    | succ m ih =>
      intro i hi h
      obtain ⟨a, han, ea⟩ := hs.mem i h
      by_cases hai : a = i
      · subst hai; exact ea
      · have h0 : ¬ a < i := by
          intro hlt'
          have e1 := ih a (by omega) (by omega)
          have h2 := hlt a i hlt' h
          rw [e1, ea] at h2
          simp at h2
        have hin : i < n := by omega
        have hmem : [(i : Int), farL v x] ∈ (metQ n ts x n).map (resE (List.replicate n v).flatten x v.length) :=
          List.mem_map.2 ⟨i, hall i hin, by unfold resE; rw [rowL_rep v n i hin]⟩
        obtain ⟨r, hp, hr⟩ := hf.rest
        rcases List.mem_append.1 (hp.mem_iff.2 hmem) with hq | hq
        · obtain ⟨j, hj, ej⟩ := List.mem_iff_getElem.1 hq
          rcases Nat.lt_trichotomy j i with hji | hji | hji
          · have e1 := ih j (by omega) hj
            rw [e1] at ej
            simp at ej
            omega
          · subst hji
            rw [ea] at ej
            simp at ej
            omega
          · have h2 := hlt i j hji hj
            rw [ea, ej] at h2
            simp at h2
            omega
        · have h2 := nearE_to (hr _ hq _ (List.getElem_mem h))
          rw [ea] at h2
          simp at h2
          omega
  exact fun i h => key (i + 1) i (by omega) h
end Go.Proofs.YtladmconpolneaaGreat

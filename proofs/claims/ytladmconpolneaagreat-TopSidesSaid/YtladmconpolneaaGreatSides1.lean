/- TopSides: the plain law. -/
import Derived.Test.YtladmconpolneaaGreatShapeWalk
set_option linter.unusedVariables false
set_option linter.unusedSimpArgs false
namespace Go.Proofs.YtladmconpolneaaGreat
open Go.RowKit
theorem mem_nodes_ids : ∀ (t : BT) (b : Nat) (y : Node), y ∈ t.nodes b → ∀ id ∈ y.ids, id ∈ t.ids
  | .leaf l, b, y, hy, id, hid => by
    simp only [BT.nodes, List.mem_singleton] at hy
    subst hy
    exact hid
  | .split nrm off l r, b, y, hy, id, hid => by
    simp only [BT.nodes, List.mem_cons, List.mem_append] at hy
    rw [BT.ids, List.mem_append]
    rcases hy with rfl | hy | hy
    · simp [splitN, Node.withRight] at hid
    · exact .inl (mem_nodes_ids l _ y hy id hid)
    · exact .inr (mem_nodes_ids r _ y hy id hid)
/-- Below a split that isn't flat each item is on its side. -/
theorem sides_tree {F : List Int} {dim leaf depth : Nat} : ∀ (t : BT) (b : Nat) (ids : List Nat) (d : Nat), Good F dim leaf depth t ids d → ∀ (a : Nat) (x : Node), (t.nodes b)[a]? = some x → x.leaf = false → ¬ (x.off = 0 ∧ x.nrm = List.replicate dim 0) →
    ∃ e, e ≤ t.size ∧ (e = t.size ∨ ∃ up y, up < a ∧ (t.nodes b)[up]? = some y ∧ y.leaf = false ∧ y.right = ((b + e : Nat) : Int)) ∧ a < e ∧
      ∀ k, a < k → k < e → ∀ y, (t.nodes b)[k]? = some y → ∀ id ∈ y.ids, sideL x.nrm x.off (rowL F dim id) = decide (x.right ≤ ((b + k : Nat) : Int))
  | .leaf l, b, ids, d, hg, a, x, hx, hl, hf => by
    match a, hx with
    | 0, hx =>
      simp [BT.nodes] at hx
      rw [← hx] at hl
      cases hl
    | a + 1, hx => simp [BT.nodes] at hx
  | .split nrm off l r, b, ids, d, hg, a, x, hx, hl, hf => by
    cases hg with
    | split _ _ _ _ L R _ _ h hc hgl hgr =>
      have hn : (BT.split nrm off l r).nodes b = (splitN nrm off ((b : Int) + 1)).withRight ((b + 1 + l.size : Nat) : Int) :: (l.nodes (b + 1) ++ r.nodes (b + 1 + l.size)) := rfl
      have hll := l.nodes_length (b + 1)
      have hrl := r.nodes_length (b + 1 + l.size)
      have hsz : (BT.split nrm off l r).size = 1 + l.size + r.size := rfl
      rw [hn] at hx ⊢
      rw [hsz]
      match a, hx with
      | 0, hx =>
        have hx : (splitN nrm off ((b : Int) + 1)).withRight ((b + 1 + l.size : Nat) : Int) = x := by simpa using hx
        subst hx
        refine ⟨1 + l.size + r.size, Nat.le_refl _, .inl rfl, by omega, fun k hk1 hk2 y hy id hid => ?_⟩
        obtain ⟨k, rfl⟩ : ∃ k', k = k' + 1 := ⟨k - 1, by omega⟩
        rw [List.getElem?_cons_succ] at hy
        show sideL nrm off (rowL F dim id) = decide (((b + 1 + l.size : Nat) : Int) ≤ ((b + (k + 1) : Nat) : Int))
        have hlr : L = leftL F dim nrm off ids ∧ R = rightL F dim nrm off ids := by
          cases hc with
          | good i k hi hk hg => exact ⟨rfl, rfl⟩
          | flat ht => exact absurd ⟨rfl, rfl⟩ hf
        by_cases hkl : k < l.size
        · rw [List.getElem?_append_left (by omega)] at hy
          have hm := (good_perm hgl).mem_iff.1 (mem_nodes_ids l _ y (List.mem_of_getElem? hy) id hid)
          rw [hlr.1] at hm
          have h1 := (List.mem_filter.1 hm).2
          rw [show sideL nrm off (rowL F dim id) = false by simpa using h1]
          rw [eq_comm, decide_eq_false_iff_not]
          omega
        · rw [List.getElem?_append_right (by omega)] at hy
          have hm := (good_perm hgr).mem_iff.1 (mem_nodes_ids r _ y (List.mem_of_getElem? hy) id hid)
          rw [hlr.2] at hm
          have h1 := (List.mem_filter.1 hm).2
          rw [show sideL nrm off (rowL F dim id) = true by simpa using h1]
          rw [eq_comm, decide_eq_true_eq]
          omega
      | a + 1, hx =>
        rw [List.getElem?_cons_succ] at hx
        by_cases hal : a < l.size
        · rw [List.getElem?_append_left (by omega)] at hx
          obtain ⟨e, he, hor, hae, hk⟩ := sides_tree l (b + 1) L (d + 1) hgl a x hx hl hf
          refine ⟨e + 1, by omega, .inr ?_, by omega, fun k hk1 hk2 y hy id hid => ?_⟩
          · rcases hor with rfl | ⟨up, y, hu, hy, hyl, hyr⟩
            · exact ⟨0, _, by omega, rfl, rfl, by show ((b + 1 + l.size : Nat) : Int) = _; congr 1; omega⟩
            · refine ⟨up + 1, y, by omega, ?_, hyl, by rw [hyr]; congr 1; omega⟩
              rw [List.getElem?_cons_succ, List.getElem?_append_left (by omega)]
              exact hy
          · obtain ⟨k, rfl⟩ : ∃ k', k = k' + 1 := ⟨k - 1, by omega⟩
            rw [List.getElem?_cons_succ, List.getElem?_append_left (by omega)] at hy
            rw [hk k (by omega) (by omega) y hy id hid]
            congr 2
            omega
        · rw [List.getElem?_append_right (by omega), hll] at hx
          obtain ⟨e, he, hor, hae, hk⟩ := sides_tree r (b + 1 + l.size) R (d + 1) hgr (a - l.size) x hx hl hf
          refine ⟨1 + l.size + e, by omega, ?_, by omega, fun k hk1 hk2 y hy id hid => ?_⟩
          · rcases hor with rfl | ⟨up, y, hu, hy, hyl, hyr⟩
            · exact .inl rfl
            · refine .inr ⟨1 + l.size + up, y, by omega, ?_, hyl, by rw [hyr]; congr 1; omega⟩
              rw [show 1 + l.size + up = l.size + up + 1 by omega, List.getElem?_cons_succ, List.getElem?_append_right (by omega), hll]
              rw [show l.size + up - l.size = up by omega]
              exact hy
          · obtain ⟨k, rfl⟩ : ∃ k', k = 1 + l.size + k' := ⟨k - (1 + l.size), by omega⟩
            rw [show 1 + l.size + k = l.size + k + 1 by omega, List.getElem?_cons_succ, List.getElem?_append_right (by omega), hll, show l.size + k - l.size = k by omega] at hy
            rw [hk k (by omega) (by omega) y hy id hid]
            congr 2
            omega
/-- What the law asks of a tree, place by place. -/
structure SidesT (F : List Int) (n dim : Nat) (ns : List Node) : Prop where
  tok : TOk ns n dim
  sides : ∀ (a : Nat) (x : Node), ns[a]? = some x → x.leaf = false → ¬ (x.off = 0 ∧ x.nrm = List.replicate dim 0) → ∀ E : Int, E ≤ (ns.length : Int) → (∀ u y, u < a → ns[u]? = some y → y.leaf = false → (a : Int) < y.right → E ≤ y.right) →
    ∀ k : Nat, a < k → (k : Int) < E → ∀ y, ns[k]? = some y → ∀ id ∈ y.ids, sideL x.nrm x.off (rowL F dim id) = decide (x.right ≤ (k : Int))
  lt : ∀ (k : Nat) (y : Node), ns[k]? = some y → ∀ id ∈ y.ids, id < n
theorem sides_of {F : List Int} {dim leaf depth n : Nat} {ns : List Node} (hF : F.length = n * dim) (hb : Bd 1048576 F) (hd : dim ≤ 1024) (hl : 1 ≤ leaf) (hdp : depth ≤ 64) (hn : 1 ≤ n) (hn2 : n ≤ 20000) (h : Reach F dim leaf depth n ns []) : SidesT F n dim ns := by
  obtain ⟨t, f⟩ := fine_of hF hb hd hl hdp hn hn2 h
  refine ⟨f.tok, fun a x hx hxl hf E hE hu k hk1 hk2 y hy id hid => ?_, fun k y hy id hid => ?_⟩
  · have hx' := hx
    have hlen : ns.length = t.size := by rw [f.nodes, t.nodes_length]
    rw [f.nodes] at hx'
    obtain ⟨e, he, hor, hae, hs⟩ := sides_tree t 0 _ 0 f.good a x hx' hxl hf
    have hEe : E ≤ (e : Int) := by
      rcases hor with rfl | ⟨up, y, hup, hy, hyl, hyr⟩
      · omega
      · rw [← f.nodes] at hy
        have := hu up y hup hy hyl (by omega)
        omega
    rw [f.nodes] at hy
    have := hs k hk1 (by omega) y hy id hid
    rw [this]
    congr 2
    omega
  · rw [f.nodes] at hy
    have hm := (good_perm f.good).mem_iff.1 (mem_nodes_ids t _ y (List.mem_of_getElem? hy) id hid)
    simpa using hm
end Go.Proofs.YtladmconpolneaaGreat

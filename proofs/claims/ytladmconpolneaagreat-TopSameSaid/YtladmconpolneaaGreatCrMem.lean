/- What the crew's memory holds: a queue (a row of the call's own, from some place on), and the laws of 'append' for it. -/
import Derived.Test.YtladmconpolneaaGreatMa
set_option linter.unusedVariables false
set_option linter.unusedSimpArgs false
namespace Go.Proofs.YtladmconpolneaaGreat.Cr
open Go.RowKit
/-- A slice of the call's own, that begins anywhere in its row; one cell for each element. -/
def QOwn (w : World) (base : Nat) (e : TypeId) (v : Value) (n : Nat) (xs : List Value) : Prop :=
  xs.length = n ∧ ((v = .slice none 0 0 ∧ n = 0) ∨
    ∃ g o cap cur, v = .slice (some ⟨g, o, none⟩) n cap ∧ base ≤ g ∧ w.heap[g]? = some (.cells cur e (0, 0)) ∧ n ≤ cap ∧ cap ≤ maxLen ∧ o + cap ≤ cur.size ∧ (cur.toList.drop o).take n = xs)
theorem QOwn.nil (w : World) (base : Nat) (e : TypeId) : QOwn w base e (.slice none 0 0) 0 [] := ⟨rfl, .inl ⟨rfl, rfl⟩⟩
theorem QOwn.of_own {w : World} {base : Nat} {e : TypeId} {v : Value} {n : Nat} {xs : List Value} (h : w.ownsRow base e 1 v n xs) : QOwn w base e v n xs := by
  refine ⟨by have := h.1; omega, ?_⟩
  rcases h.2 with h1 | ⟨g, cap, cur, hv, hb, hg, hn, hm, hs, ht⟩
  · exact .inl h1
  · exact .inr ⟨g, 0, cap, cur, hv, hb, hg, hn, hm, by omega, by rw [Nat.mul_one] at ht; exact ht⟩
theorem QOwn.kept {w w' : World} {base : Nat} {e : TypeId} {v : Value} {n : Nat} {xs : List Value} (h : QOwn w base e v n xs) (hk : ∀ g, v.ownBlock = some g → w'.heap[g]? = w.heap[g]?) : QOwn w' base e v n xs := by
  refine ⟨h.1, ?_⟩
  rcases h.2 with h1 | ⟨g, o, cap, cur, hv, hb, hg, r⟩
  · exact .inl h1
  · exact .inr ⟨g, o, cap, cur, hv, hb, by rw [hk g (by rw [hv]; rfl)]; exact hg, r⟩
theorem QOwn.lt {w : World} {base : Nat} {e : TypeId} {v : Value} {n : Nat} {xs : List Value} (h : QOwn w base e v n xs) {g : Nat} (hg : v.ownBlock = some g) : base ≤ g ∧ g < w.heap.size := by
  rcases h.2 with ⟨rfl, _⟩ | ⟨g', o, cap, cur, rfl, hb, hh, _⟩
  · cases hg
  · injection hg with hg; subst hg
    exact ⟨hb, lt_of_block hh⟩
theorem QOwn.type {w : World} {base : Nat} {e : TypeId} {v : Value} {n : Nat} {xs : List Value} (h : QOwn w base e v n xs) {g : Nat} (hg : v.ownBlock = some g) : ∃ cur, w.heap[g]? = some (.cells cur e (0, 0)) := by
  rcases h.2 with ⟨rfl, _⟩ | ⟨g', o, cap, cur, rfl, hb, hh, _⟩
  · cases hg
  · injection hg with hg; subst hg
    exact ⟨cur, hh⟩
theorem QOwn.slice {w : World} {base : Nat} {e : TypeId} {v : Value} {n : Nat} {xs : List Value} (h : QOwn w base e v n xs) : ∃ A c, v = .slice A n c := by
  rcases h.2 with ⟨rfl, rfl⟩ | ⟨g', o, cap, cur, rfl, _⟩
  · exact ⟨_, _, rfl⟩
  · exact ⟨_, _, rfl⟩
section
variable {P : Program} (w : World)
theorem run_append_queue_room (t ty e : TypeId) (i : TypeInfo) (ht : P.underlying t = some (.slice e)) (hi : P.info? e = some i) (hsz : i.size = 1)
    (g o n cap : Nat) (cur : Array Value) (hg : w.heap[g]? = some (.cells cur e (0, 0))) (a : Addr) (c : Nat) (y : Value) (hy : w.cell? a = some y) (h1 : y.oneCell' = true) (hroom : n + 1 ≤ cap) (hfit : o + cap ≤ cur.size) :
    (Builtin.append_ #[t, t] ty #[.slice (some ⟨g, o, none⟩) n cap, .slice (some a) 1 c]).run P w =
      .ok (.slice (some ⟨g, o, none⟩) (n + 1) cap) (w.setRow g (cur.toList.take (o + n) ++ [y] ++ cur.toList.drop (o + n + 1)).toArray) := by
  have ha : ∀ j u, [y][j]? = some u → w.cell? (a.add j) = some u := by
    intro j u hj
    cases j with
    | zero =>
      simp at hj; subst hj
      have : a.add 0 = a := by unfold Addr.add; split <;> simp_all
      rw [this]; exact hy
    | succ j => simp at hj
  have hf := run_firstCells_some (P := P) w i.size 1 a 1 c [y] (by rw [hsz]; rfl) ha
  rw [hsz] at hf
  have hst := run_storeCells_at P g (o + n) e [y] 0 cur w hg (by simp; omega) (by simpa using h1)
  simp only [Nat.add_zero, List.length_singleton] at hst
  simp [Builtin.append_, run_underlying ht, sizeOf, typeInfo, hi, Builtin.lenOf, hroom, hf, Addr.add_lit, hst, hsz]
theorem run_append_queue (base : Nat) (t ty e : TypeId) (i : TypeInfo) (z : Value) (bytes : Nat) (ht : P.underlying t = some (.slice e)) (hi : P.info? e = some i) (hz : i.zero = some z)
    (hsize : i.size = 1) (hby : i.bytes = bytes) (hzs : z.cells.size = 1) (v : Value) (n : Nat) (xs : List Value) (hown : QOwn w base e v n xs)
    (a : Addr) (c : Nat) (y : Value) (hy : w.cell? a = some y) (h1 : y.oneCell' = true) (hbytes : (n + 1) * bytes ≤ 140737488355328) (h63 : n + 1 ≤ maxLen) (hbase : base ≤ w.heap.size) :
    ∃ A1 c1 w', (Builtin.append_ #[t, t] ty #[v, .slice (some a) 1 c]).run P w = .ok (.slice A1 (n + 1) c1) w' ∧ QOwn w' base e (.slice A1 (n + 1) c1) (n + 1) (xs ++ [y]) ∧ w.grownBy w' v.ownBlock ∧
      ((Value.slice A1 (n + 1) c1).ownBlock = v.ownBlock ∨ (Value.slice A1 (n + 1) c1).ownBlock = some w.heap.size) := by
  have ha : ∀ j u, [y][j]? = some u → w.cell? (a.add j) = some u := by
    intro j u hj
    cases j with
    | zero =>
      simp at hj; subst hj
      have : a.add 0 = a := by unfold Addr.add; split <;> simp_all
      rw [this]; exact hy
    | succ j => simp at hj
  rcases hown.2 with ⟨rfl, rfl⟩ | ⟨g, o, cap, cur, rfl, hbg, hg, hnc, hcm, hcs, htake⟩
  · have hx : xs = [] := List.eq_nil_of_length_eq_zero hown.1
    subst hx
    obtain ⟨v', w', hr, h2, h3, _, h5⟩ := run_append_own_at (P := P) w base t ty e i z 1 bytes ht hi hz hsize hby hzs (by decide) _ 0 [] (World.ownsRow_nil w base e 1) a 1 c [y] rfl ha (by simpa using h1) h63 hbytes hbase
    obtain ⟨A1, c1, rfl⟩ := own_slice h2
    exact ⟨A1, c1, w', hr, QOwn.of_own h2, h3, h5⟩
  · by_cases hroom : n + 1 ≤ cap
    · have hr := run_append_queue_room (P := P) w t ty e i ht hi hsize g o n cap cur hg a c y hy h1 hroom hcs
      refine ⟨_, _, _, hr, ⟨by rw [List.length_append, hown.1]; rfl, .inr ⟨g, o, cap, _, rfl, hbg, setRow_heap w g cur _ e _ hg, hroom, hcm, ?_, ?_⟩⟩, ⟨rfl, rfl, rfl, by simp, fun k _ hk => setRow_other w g k _ (fun e => hk (by simp [Value.ownBlock, e]))⟩, Or.inl rfl⟩
      · simp only [List.size_toArray, List.length_append, List.length_take, List.length_drop, Array.length_toList, List.length_singleton]
        omega
      · have hlo : (cur.toList.take (o + n)).length = o + n := by rw [List.length_take, Array.length_toList]; omega
        have hd : (cur.toList.take (o + n)).drop o = xs := by rw [List.drop_take, Nat.add_sub_cancel_left]; exact htake
        simp only [List.append_assoc]
        rw [List.drop_append_of_le_length (by omega), hd, ← List.append_assoc]
        exact List.take_left' (by rw [List.length_append, hown.1]; rfl)
    · have holds : ∀ j u, xs[j]? = some u → w.cell? ((⟨g, o, none⟩ : Addr).add j) = some u := by
        intro j u hj
        rw [Addr.add_lit, cell_of_row _ _ _ cur e _ hg]
        rw [← htake] at hj
        rw [List.getElem?_take] at hj
        split at hj
        · rw [List.getElem?_drop] at hj; simpa using hj
        · cases hj
      have h63' : n + 1 ≤ 9223372036854775807 := by simp only [maxLen] at h63; omega
      have hr := run_append_grow (P := P) w t ty e i z ht hi hz ⟨g, o, none⟩ n cap xs (by rw [hsize, hown.1]; omega) holds a 1 c [y] (by rw [hsize]; rfl) ha (by omega) (by omega) (growslice_fits (by omega) (by rw [hby]; exact hbytes))
      have hge := grownCap_ge w (n + 1) cap e
      have hcm2 : grownCap w (n + 1) cap e ≤ maxLen := grownCap_le_maxLen w (n + 1) cap e h63
      refine ⟨_, _, _, hr, ⟨by rw [List.length_append, hown.1]; rfl, .inr ⟨w.heap.size, 0, _, _, rfl, hbase, heap_alloc_new w.drew _, hge, hcm2, ?_, ?_⟩⟩, ⟨rfl, rfl, rfl, by simp, fun k hk _ => heap_alloc_old _ _ hk⟩, Or.inr rfl⟩
      · simp only [Array.size_append, List.size_toArray, size_zeroCells, hzs, hown.1, List.length_singleton]
        omega
      · simp only [Array.toList_append, List.append_assoc, List.drop_zero]
        rw [← List.append_assoc]
        exact List.take_left' (by rw [List.length_append, hown.1]; rfl)
end
end Go.Proofs.YtladmconpolneaaGreat.Cr

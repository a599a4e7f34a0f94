/- Walks of the reference's Turn. -/
import Derived.Test.YtleljmijkncahaaSealBackWalk
set_option linter.unusedVariables false
set_option linter.unusedSimpArgs false
namespace Go.Proofs.Ytleljmijkncahaa
open Go.RowKit
theorem turn_out (l : List UInt8) (k : Int) (w : World) (hl : l.length ≤ 4000) (h : k < 0 ∨ 8 * (l.length : Int) ≤ k) :
    Calls Try.prog 34 #[.string (str l), .int .i64 k] w fun e w' => e = .returned (.string (str l)) ∧ Below w.heap.size w w' := by
  have zs : (str l).size = l.length := str_size l
  rw [← zs] at hl h
  by_cases h1 : k < 0
  · clear h
    go_enter Try.func34, Try.ntmps34
    go_wp2
    go_ret
    exact ⟨rfl, Below.refl _ _⟩
  · have h2 : 8 * ((str l).size : Int) ≤ k := by omega
    clear h
    go_enter Try.func34, Try.ntmps34
    go_wp2
    go_ret
    exact ⟨rfl, Below.refl _ _⟩
theorem str_to_bytes (l : List UInt8) (w : World) : ∃ w1 c C q, (convert 9 58 (.string (str l))).run Try.prog w = .ok (.slice (some ⟨w.heap.size, 0, none⟩) l.length c) w1 ∧ Below w.heap.size w w1 ∧
    w1.heap[w.heap.size]? = some (.cells C 5 (q, q + 1)) ∧ C.size = q ∧ l.length ≤ q ∧ ∀ j, j < l.length → C[j]? = some (.int .u8 ((l.getD j 0).toNat : Int)) := by
  have h := run_bytes_of_string w 9 58 5 (str l) Try.underlying9 Try.underlying58 Try.underlying5
  rw [str_size] at h
  refine ⟨_, _, _, _, h, ((Below.refl _ _).drew).alloc (Nat.le_refl _) _, heap_alloc_new w.drew _, rfl, ?_, ?_⟩
  · unfold bytesRow
    rw [Array.size_append, Array.size_map]
    have : (str l).data.size = l.length := str_size l
    omega
  · intro j hj
    unfold bytesRow
    rw [Array.getElem?_append_left (by rw [Array.size_map]; exact hj), Array.getElem?_map]
    simp [str, hj]
theorem turn_in (l : List UInt8) (k : Nat) (w : World) (hl : l.length ≤ 4000) (h : k < 8 * l.length) :
    Calls Try.prog 34 #[.string (str l), .int .i64 (k : Int)] w fun e w' => e = .returned (.string (str (Crc.turn l k))) ∧ Below w.heap.size w w' := by
  have zs : (str l).size = l.length := str_size l
  have h1 : ¬ (k : Int) < 0 := by omega
  have h2 : ¬ 8 * ((str l).size : Int) ≤ (k : Int) := by omega
  obtain ⟨w1, c, C, q, hcv, hb, hheap, hC, hq, hce⟩ := str_to_bytes l w
  have hlt : k / 8 < l.length := by omega
  have hr8 : k % 8 < 8 := Nat.mod_lt _ (by decide)
  have hc1 := hce (k / 8) hlt
  have fr : w1.frozen? ⟨w.heap.size, k / 8, none⟩ = false := by
    unfold World.frozen?
    simp only [hheap]
    simp; omega
  have ce : w1.cell? ⟨w.heap.size, k / 8, none⟩ = some (.int .u8 ((l.getD (k / 8) 0).toNat : Int)) := by
    rw [cell_of_row _ _ _ C 5 _ hheap]; exact hc1
  have HT : Hid (Crc.turn l k = l.set (k / 8) (l.getD (k / 8) 0 ^^^ UInt8.ofNat (2 ^ (k % 8)))) := rfl
  have d1 : (k : Int) / 8 = ((k / 8 : Nat) : Int) := rfl
  have d2 : (k : Int) % 8 = ((k % 8 : Nat) : Int) := rfl
  have d3 : (k : Int).tdiv 8 = ((k / 8 : Nat) : Int) := by rw [Int.tdiv_eq_ediv_of_nonneg (by omega)]; rfl
  have d4 : (k : Int).tmod 8 = ((k % 8 : Nat) : Int) := by rw [Int.tmod_eq_emod_of_nonneg (by omega)]; rfl
  have e5 : bits .xor .u8 (((l.getD (k / 8) 0).toNat : Nat) : Int) (2 ^ (k % 8) % 256) = (((l.getD (k / 8) 0 ^^^ UInt8.ofNat (2 ^ (k % 8))).toNat : Nat) : Int) := by
    have h3 : (2 : Int) ^ (k % 8) % 256 = (((UInt8.ofNat (2 ^ (k % 8))).toNat : Nat) : Int) := by
      rw [UInt8.toNat_ofNat']
      have : (2 : Int) ^ (k % 8) = ((2 ^ (k % 8) : Nat) : Int) := by rw [Int.natCast_pow]; rfl
      rw [this]; rfl
    rw [h3, u8_xor_nat _ _ (UInt8.toNat_lt _) (UInt8.toNat_lt _), UInt8.toNat_xor]
  generalize hx : l.getD (k / 8) 0 ^^^ UInt8.ofNat (2 ^ (k % 8)) = x at *
  have hb2 : Below w.heap.size w (w1.setCell ⟨w.heap.size, k / 8, none⟩ (.int .u8 (x.toNat : Int))).drew := (hb.setCell (Nat.le_refl _) _).drew
  have hcv2 : (convert 58 9 (.slice (some ⟨w.heap.size, 0, none⟩) l.length c)).run Try.prog (w1.setCell ⟨w.heap.size, k / 8, none⟩ (.int .u8 (x.toNat : Int))).drew =
      .ok (.string (str (l.set (k / 8) x))) (w1.setCell ⟨w.heap.size, k / 8, none⟩ (.int .u8 (x.toNat : Int))).drew := by
    have := run_convert_bytes_back (P := Try.prog) (w1.setCell ⟨w.heap.size, k / 8, none⟩ (.int .u8 (x.toNat : Int))).drew 58 9 5 ⟨w.heap.size, 0, none⟩ c (l.set (k / 8) x) Try.underlying58 Try.underlying5 Try.underlying9 ?_
    · rw [List.length_set] at this; exact this
    · intro j hj
      rw [List.length_set] at hj
      have ha : (⟨w.heap.size, 0, none⟩ : Addr).add j = ⟨w.heap.size, j, none⟩ := by
        unfold Addr.add
        split <;> simp_all
      rw [ha, List.getElem_set]
      show (w1.setCell ⟨w.heap.size, k / 8, none⟩ (.int .u8 (x.toNat : Int))).cell? ⟨w.heap.size, j, none⟩ = _
      by_cases hjk : k / 8 = j
      · subst hjk
        rw [if_pos rfl]; exact World.cell?_setCell_same _ _ _ ce
      · rw [if_neg hjk, World.cell?_setCell_other _ _ _ _ (by intro e; injection e with _ e2 _; exact hjk e2), cell_of_row _ _ _ C 5 _ hheap]
        have := hce j hj
        rw [List.getD_eq_getElem?_getD, List.getElem?_eq_getElem hj] at this
        exact this
  have HB := Lib.hid hb2
  clear hc1 hce hb hheap hb2
  have HS : Hid (str (Crc.turn l k) = str (l.set (k / 8) x)) := by show _ = _; unfold Crc.turn; rw [hx]
  clear HT hx
  generalize hp : k / 8 = p at *
  generalize k % 8 = r at *
  generalize l.getD p 0 = b at *
  generalize hS : str (l.set p x) = S at *
  go_enter Try.func34, Try.ntmps34
  go_wp2
  go_region
  go_wp2
  go_ret
  exact ⟨by rw [HS.out]; rfl, HB.out⟩
end Go.Proofs.Ytleljmijkncahaa

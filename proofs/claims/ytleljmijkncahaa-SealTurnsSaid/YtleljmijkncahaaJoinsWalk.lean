/- The walk of the law SealJoins. -/
import Derived.Test.YtleljmijkncahaaJoins
set_option linter.unusedVariables false
set_option linter.unusedSimpArgs false
namespace Go.Proofs.Ytleljmijkncahaa
open Go.RowKit
theorem join_nat (n : Nat) (s : ByteArray) (w : World) (h1 : n < 4294967296) (hs : s.size ≤ maxLen) :
    Calls Try.prog 36 #[.int .u32 (n : Int), .string s] w fun e w' => e = .returned (.int .u32 ((joinB n s : Nat) : Int)) ∧ Below w.heap.size w w' :=
  join_any n s w (Int.natCast_nonneg _) (by omega) hs
theorem join_zero (s : ByteArray) (w : World) (hs : s.size ≤ maxLen) :
    Calls Try.prog 36 #[.int .u32 0, .string s] w fun e w' => e = .returned (.int .u32 ((sumB s : Nat) : Int)) ∧ Below w.heap.size w w' := by
  have := join_nat 0 s w (by decide) hs
  rwa [show joinB 0 s = sumB s from Crc.join_zero _] at this
theorem joinB_sumB (s t : ByteArray) : joinB (sumB s) t = sumB (s ++ t) := by
  unfold joinB sumB
  rw [Crc.join_sum, ByteArray.data_append, Array.toList_append]
theorem joins_walk (s t u : ByteArray) (w : World) (h1 : s.size ≤ 1000) (h2 : t.size ≤ 1000) (h3 : u.size ≤ 1000) :
    Calls Try.prog 13 #[.string s, .string t, .string u] w fun e w' => e = .returned (.bool true) ∧ Below w.heap.size w w' := by
  have J1 := joinB_sumB
  have E1 : s ++ (t ++ u) = s ++ t ++ u := ByteArray.append_assoc.symm
  have E2 : s ++ t ++ u ++ { data := #[] } = s ++ t ++ u := ByteArray.append_empty
  go_enter Try.func13, Try.ntmps13
  go_wp2_with (first
    | (go_at_call 31; refine (awake2 _).mono ?_; rintro e w1 ⟨rfl, hb1⟩)
    | (go_at_call 35; (with_reducible refine (sum_any _ _ (by first | (simp only [ByteArray.size_append, maxLen]; omega) | decide)).mono ?_); rintro e w1 ⟨rfl, hb1⟩)
    | (go_at_call 36; (with_reducible refine (join_zero _ _ (by first | (simp only [ByteArray.size_append, maxLen]; omega) | decide)).mono ?_); rintro e w1 ⟨rfl, hb1⟩)
    | (go_at_call 36; (with_reducible refine (join_nat _ _ _ (sumB_lt _) (by first | (simp only [ByteArray.size_append, maxLen]; omega) | decide)).mono ?_); rintro e w1 ⟨rfl, hb1⟩))
  go_ret
  exact ⟨rfl, by (repeat (first | assumption | (refine bel_trans ?_ ‹_›)))⟩
theorem joins_great (s t u : ByteArray) (w : World) (h : 1000 < s.size ∨ 1000 < t.size ∨ 1000 < u.size) :
    Calls Try.prog 13 #[.string s, .string t, .string u] w fun e w' => e = .returned (.bool true) ∧ Below w.heap.size w w' := by
  by_cases h1 : 1000 < (s.size : Int)
  · go_enter Try.func13, Try.ntmps13
    go_wp2_with (first | (go_at_call 31; refine (awake2 _).mono ?_; rintro e w1 ⟨rfl, hb1⟩))
    go_ret
    exact ⟨rfl, ‹_›⟩
  · by_cases h2 : 1000 < (t.size : Int)
    · go_enter Try.func13, Try.ntmps13
      go_wp2_with (first | (go_at_call 31; refine (awake2 _).mono ?_; rintro e w1 ⟨rfl, hb1⟩))
      go_ret
      exact ⟨rfl, ‹_›⟩
    · have h3 : 1000 < (u.size : Int) := by omega
      go_enter Try.func13, Try.ntmps13
      go_wp2_with (first | (go_at_call 31; refine (awake2 _).mono ?_; rintro e w1 ⟨rfl, hb1⟩))
      go_ret
      exact ⟨rfl, ‹_›⟩
theorem joins_all (s t u : ByteArray) (w : World) : Calls Try.prog 13 #[.string s, .string t, .string u] w fun e w' => e = .returned (.bool true) ∧ Below w.heap.size w w' := by
  by_cases h : 1000 < s.size ∨ 1000 < t.size ∨ 1000 < u.size
  · exact joins_great s t u w h
  · exact joins_walk s t u w (by omega) (by omega) (by omega)
end Go.Proofs.Ytleljmijkncahaa

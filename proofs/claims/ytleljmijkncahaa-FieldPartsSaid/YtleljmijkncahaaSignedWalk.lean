/- The walk of the law FieldSigned. -/
import Derived.Test.YtleljmijkncahaaRef
set_option linter.unusedVariables false
set_option linter.unusedSimpArgs false
namespace Go.Proofs.Ytleljmijkncahaa
open Go.RowKit
theorem putI_length (n size : Int) (h1 : 1 ≤ size) (h2 : size ≤ 8) : (putI n size).length = size.toNat := by
  unfold putI; rw [if_pos ⟨h1, h2⟩, Crc.put_length]
theorem put_get (n size : Int) (h1 : 1 ≤ size) (h2 : size ≤ 8) : getS (str (putI n size)) 0 size = n.toNat % 256 ^ size.toNat := by
  unfold getS
  rw [str_data, show (0 : Int).toNat = 0 from rfl, List.drop_zero, List.take_of_length_le (Nat.le_of_eq (putI_length n size h1 h2))]
  unfold putI; rw [if_pos ⟨h1, h2⟩, Crc.value_put]
/-- What the laws ask of Put and Get together. -/
theorem put_then_get (n size : Int) (h1 : 1 ≤ size) (h2 : size ≤ 8) (hn : 0 ≤ n) (hn2 : n < 18446744073709551616) :
    ∃ S : ByteArray, S.size = size.toNat ∧ (∀ w, Calls Try.prog 17 #[.int .u64 n, .int .i64 size] w fun e w' => e = .returned (.string S) ∧ Below w.heap.size w w') ∧
      ∀ w, Calls Try.prog 18 #[.string S, .int .i64 0, .int .i64 size] w fun e w' => e = .returned (.tuple #[.int .u64 ((n.toNat % 256 ^ size.toNat : Nat) : Int), .bool true]) ∧ w = w' := by
  refine ⟨str (putI n size), by rw [str_size, putI_length n size h1 h2], fun w => put_any n size w hn hn2, fun w => ?_⟩
  rw [← put_get n size h1 h2]
  have hz : (str (putI n size)).size = size.toNat := by rw [str_size, putI_length n size h1 h2]
  exact get_yes _ _ _ w (by rw [hz]; simp only [maxLen]; omega) ⟨h1, h2, by omega, by rw [hz]; omega⟩
theorem sgn_back (n size : Int) (h1 : 1 ≤ size) (h2 : size ≤ 8) (hn : -9223372036854775808 ≤ n) (hn2 : n < 9223372036854775808) (h : size < 8 → -(256 ^ size.toNat / 2) ≤ n ∧ n < 256 ^ size.toNat / 2) :
    sgnI (((n % 18446744073709551616).toNat % 256 ^ size.toNat : Nat) : Int) size = n := by
  unfold sgnI
  rw [if_pos ⟨h1, h2⟩]
  have hs : size = 1 ∨ size = 2 ∨ size = 3 ∨ size = 4 ∨ size = 5 ∨ size = 6 ∨ size = 7 ∨ size = 8 := by omega
  rcases hs with rfl | rfl | rfl | rfl | rfl | rfl | rfl | rfl
  all_goals
    simp at h ⊢
    split <;> omega
theorem signed_out (n size : Int) (w : World) (h : size < 1 ∨ 8 < size) : Calls Try.prog 8 #[.int .i64 n, .int .i64 size] w fun e w' => e = .returned (.bool true) ∧ Below w.heap.size w w' := by
  have HS := Lib.hid (fun n w => signed_odd n size w h)
  by_cases h1 : size < 1
  · clear h
    go_enter Try.func8, Try.ntmps8
    go_wp2_with (first | (go_at_call 16; refine (awake1 _).mono ?_; rintro e w1 ⟨rfl, hb1⟩) | (go_at_call 26; refine (HS.out _ _).mono ?_; rintro e w1 ⟨rfl, rfl⟩))
    go_ret
    exact ⟨rfl, ‹_›⟩
  · have h2 : 8 < size := by omega
    clear h
    go_enter Try.func8, Try.ntmps8
    go_wp2_with (first | (go_at_call 16; refine (awake1 _).mono ?_; rintro e w1 ⟨rfl, hb1⟩) | (go_at_call 26; refine (HS.out _ _).mono ?_; rintro e w1 ⟨rfl, rfl⟩))
    go_ret
    exact ⟨rfl, ‹_›⟩
theorem signed_in (n size : Int) (w : World) (h1 : 1 ≤ size) (h2 : size ≤ 8) (hn : -9223372036854775808 ≤ n) (hn2 : n < 9223372036854775808) (h : size < 8 → -(256 ^ size.toNat / 2) ≤ n ∧ n < 256 ^ size.toNat / 2) :
    Calls Try.prog 8 #[.int .i64 n, .int .i64 size] w fun e w' => e = .returned (.bool true) ∧ Below w.heap.size w w' := by
  have hb := sgn_back n size h1 h2 hn hn2 h
  have hN : ((n % 18446744073709551616).toNat : Int) = n % 18446744073709551616 := by omega
  have e0 : IntKind.u64.wrap n = (((n % 18446744073709551616).toNat : Nat) : Int) := by rw [IntKind.wrap_u64]; omega
  generalize (n % 18446744073709551616).toNat = N at *
  obtain ⟨S, hS, hp, hg⟩ := put_then_get (N : Int) size h1 h2 (by omega) (by omega)
  rw [Int.toNat_natCast] at hg
  have hq := signed_any ((N % 256 ^ size.toNat : Nat) : Int) size
  rw [hb] at hq
  generalize N % 256 ^ size.toNat = x at *
  have HP := Lib.hid hp
  have HG := Lib.hid hg
  have HQ := Lib.hid hq
  clear hb hN hS hp hg hq
  have hs : size = 1 ∨ size = 2 ∨ size = 3 ∨ size = 4 ∨ size = 5 ∨ size = 6 ∨ size = 7 ∨ size = 8 := by omega
  rcases hs with rfl | rfl | rfl | rfl | rfl | rfl | rfl | rfl
  all_goals
    simp at h
    go_enter Try.func8, Try.ntmps8
    go_wp2_with (first | (go_at_call 16; refine (awake1 _).mono ?_; rintro e w1 ⟨rfl, hb1⟩) | (go_at_call 17; refine (HP.out _).mono ?_; rintro e w2 ⟨rfl, hb2⟩) | (go_at_call 18; refine (HG.out _).mono ?_; rintro e w1 ⟨rfl, rfl⟩) | (go_at_call 26; refine (HQ.out _).mono ?_; rintro e w1 ⟨rfl, rfl⟩))
    go_ret
    exact ⟨rfl, bel_trans hb1 hb2⟩
theorem signed_far (n size : Int) (w : World) (h1 : 1 ≤ size) (h2 : size < 8) (h : n < -(256 ^ size.toNat / 2) ∨ 256 ^ size.toNat / 2 ≤ n) :
    Calls Try.prog 8 #[.int .i64 n, .int .i64 size] w fun e w' => e = .returned (.bool true) ∧ Below w.heap.size w w' := by
  have hs : size = 1 ∨ size = 2 ∨ size = 3 ∨ size = 4 ∨ size = 5 ∨ size = 6 ∨ size = 7 := by omega
  rcases hs with rfl | rfl | rfl | rfl | rfl | rfl | rfl
  all_goals
    simp at h
    rcases h with h | h
    all_goals
      go_enter Try.func8, Try.ntmps8
      go_wp2_with (go_at_call 16; refine (awake1 _).mono ?_; rintro e w1 ⟨rfl, hb1⟩)
      go_ret
      exact ⟨rfl, hb1⟩
theorem signed_law (n size : Int) (w : World) (hn : -9223372036854775808 ≤ n) (hn2 : n < 9223372036854775808) :
    Calls Try.prog 8 #[.int .i64 n, .int .i64 size] w fun e w' => e = .returned (.bool true) ∧ Below w.heap.size w w' := by
  by_cases h : size < 1 ∨ 8 < size
  · exact signed_out n size w h
  · by_cases h8 : size < 8
    · by_cases hf : n < -(256 ^ size.toNat / 2) ∨ 256 ^ size.toNat / 2 ≤ n
      · exact signed_far n size w (by omega) h8 hf
      · exact signed_in n size w (by omega) (by omega) hn hn2 (fun _ => by omega)
    · exact signed_in n size w (by omega) (by omega) hn hn2 (fun h => absurd h h8)
end Go.Proofs.Ytleljmijkncahaa

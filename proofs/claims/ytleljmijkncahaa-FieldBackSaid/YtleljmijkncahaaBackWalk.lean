/- The walk of the law FieldBack. -/
import Derived.Test.YtleljmijkncahaaSignedWalk
set_option linter.unusedVariables false
set_option linter.unusedSimpArgs false
namespace Go.Proofs.Ytleljmijkncahaa
open Go.RowKit
theorem back_out (n size : Int) (a b : ByteArray) (w : World) (h : size < 1 ∨ 8 < size ∨ 2000 < (a.size : Int) ∨ 2000 < (b.size : Int)) :
    Calls Try.prog 3 #[.int .u64 n, .int .i64 size, .string a, .string b] w fun e w' => e = .returned (.bool true) ∧ Below w.heap.size w w' := by
  by_cases h1 : size < 1
  · clear h
    go_enter Try.func3, Try.ntmps3
    go_wp2_with (go_at_call 16; refine (awake1 _).mono ?_; rintro e w1 ⟨rfl, hb1⟩)
    go_ret
    exact ⟨rfl, hb1⟩
  · by_cases h2 : 8 < size
    · clear h
      go_enter Try.func3, Try.ntmps3
      go_wp2_with (go_at_call 16; refine (awake1 _).mono ?_; rintro e w1 ⟨rfl, hb1⟩)
      go_ret
      exact ⟨rfl, hb1⟩
    · by_cases h3 : 2000 < (a.size : Int)
      · clear h
        go_enter Try.func3, Try.ntmps3
        go_wp2_with (go_at_call 16; refine (awake1 _).mono ?_; rintro e w1 ⟨rfl, hb1⟩)
        go_ret
        exact ⟨rfl, hb1⟩
      · have h4 : 2000 < (b.size : Int) := by omega
        clear h
        go_enter Try.func3, Try.ntmps3
        go_wp2_with (go_at_call 16; refine (awake1 _).mono ?_; rintro e w1 ⟨rfl, hb1⟩)
        go_ret
        exact ⟨rfl, hb1⟩
/-- What is put is got, wherever it stands; a place later there is no such field. -/
theorem put_among (n size : Int) (a b : ByteArray) (h1 : 1 ≤ size) (h2 : size ≤ 8) (hn : 0 ≤ n) (hn2 : n < 18446744073709551616) (ha : a.size ≤ 2000) (hb : b.size ≤ 2000) :
    ∃ S : ByteArray, (S.size : Int) = size ∧ (∀ w, Calls Try.prog 17 #[.int .u64 n, .int .i64 size] w fun e w' => e = .returned (.string S) ∧ Below w.heap.size w w') ∧
      (∀ w, Calls Try.prog 17 #[.int .u64 ((n.toNat % 256 ^ size.toNat : Nat) : Int), .int .i64 size] w fun e w' => e = .returned (.string S) ∧ Below w.heap.size w w') ∧
      (∀ w, Calls Try.prog 18 #[.string (a ++ S ++ b), .int .i64 (a.size : Int), .int .i64 size] w fun e w' => e = .returned (.tuple #[.int .u64 ((n.toNat % 256 ^ size.toNat : Nat) : Int), .bool true]) ∧ w = w') ∧
      ∀ w, Calls Try.prog 18 #[.string (a ++ S), .int .i64 ((a.size : Int) + 1), .int .i64 size] w fun e w' => e = .returned (.tuple #[.int .u64 0, .bool false]) ∧ w = w' := by
  have hz : (str (putI n size)).size = size.toNat := by rw [str_size, putI_length n size h1 h2]
  have hmod : n.toNat % 256 ^ size.toNat ≤ n.toNat := Nat.mod_le _ _
  refine ⟨str (putI n size), by rw [hz]; omega, fun w => put_any n size w hn hn2, fun w => ?_, fun w => ?_, fun w => ?_⟩
  · have := put_any ((n.toNat % 256 ^ size.toNat : Nat) : Int) size w (Int.natCast_nonneg _) (by omega)
    rwa [show putI ((n.toNat % 256 ^ size.toNat : Nat) : Int) size = putI n size from by unfold putI; rw [if_pos ⟨h1, h2⟩, if_pos ⟨h1, h2⟩, Int.toNat_natCast, Crc.put_mod]] at this
  · have hs : (a ++ str (putI n size) ++ b).size = a.size + size.toNat + b.size := by rw [ByteArray.size_append, ByteArray.size_append, hz]
    have hg : getS (a ++ str (putI n size) ++ b) (a.size : Int) size = n.toNat % 256 ^ size.toNat := by
      unfold getS
      rw [ByteArray.data_append, ByteArray.data_append, Array.toList_append, Array.toList_append, str_data, Int.toNat_natCast, List.append_assoc, List.drop_left' (by simp), List.take_left' (putI_length n size h1 h2)]
      unfold putI; rw [if_pos ⟨h1, h2⟩, Crc.value_put]
    rw [← hg]
    exact get_yes _ _ _ w (by rw [hs]; simp only [maxLen]; omega) ⟨h1, h2, by omega, by rw [hs]; omega⟩
  · have hs : (a ++ str (putI n size)).size = a.size + size.toNat := by rw [ByteArray.size_append, hz]
    exact get_no _ _ _ w (by rw [hs]; simp only [maxLen]; omega) (fun ⟨_, _, _, h⟩ => by rw [hs] at h; omega)
theorem back_whole (n size : Int) (a b : ByteArray) (w : World) (h1 : 1 ≤ size) (h2 : size ≤ 8) (hn : 0 ≤ n) (hn2 : n < 18446744073709551616) (ha : ¬ 2000 < (a.size : Int)) (hb : ¬ 2000 < (b.size : Int)) (hlt : n.toNat < 256 ^ size.toNat) :
    Calls Try.prog 3 #[.int .u64 n, .int .i64 size, .string a, .string b] w fun e w' => e = .returned (.bool true) ∧ Below w.heap.size w w' := by
  obtain ⟨S, hS, hp, hq, hg, hno⟩ := put_among n size a b h1 h2 hn hn2 (by omega) (by omega)
  rw [Nat.mod_eq_of_lt hlt, Int.toNat_of_nonneg hn] at hg
  have HP := Lib.hid hp
  have HG := Lib.hid hg
  have HN := Lib.hid hno
  have zS : S.size ≤ 8 := by omega
  have hne : ((S.size : Int) != size) = false := by simp; exact hS
  have HF : Hid (∀ m w, m < 9223372036854775808 → ∃ b, Calls Try.prog 19 #[.int .i64 m, .int .i64 size] w fun e w' => e = .returned (.bool b) ∧ w = w') := fun m w h => ⟨_, fits_any m size w h⟩
  clear hp hq hg hno hlt hS
  by_cases h63 : n < 9223372036854775808
  · have ew : wrap64 n = n := by unfold wrap64; omega
    have HB := fun w => HF.out n w h63
    have HC : ∃ c, ∀ w, Calls Try.prog 19 #[.int .i64 n, .int .i64 size] w fun e w' => e = .returned (.bool c) ∧ w = w' := ⟨_, fun w => fits_any n size w h63⟩
    obtain ⟨c, hc⟩ := HC
    have H1 := Lib.hid hc
    clear HB hc
    cases c
    all_goals
      go_enter Try.func3, Try.ntmps3
      go_wp2_with (first
        | (go_at_call 16; refine (awake1 _).mono ?_; rintro e w1 ⟨rfl, hb1⟩)
        | (go_at_call 17; refine (HP.out _).mono ?_; rintro e w1 ⟨rfl, hb2⟩)
        | (go_at_call 18; (with_reducible refine (HG.out _).mono ?_); rintro e w1 ⟨rfl, rfl⟩)
        | (go_at_call 18; (with_reducible refine (HN.out _).mono ?_); rintro e w1 ⟨rfl, rfl⟩)
        | (go_at_call 19; (with_reducible refine (H1.out _).mono ?_); rintro e w1 ⟨rfl, rfl⟩))
      go_ret
      exact ⟨rfl, by (repeat (first | assumption | (refine bel_trans ?_ ‹_›)))⟩
  · clear HF
    go_enter Try.func3, Try.ntmps3
    go_wp2_with (first
      | (go_at_call 16; refine (awake1 _).mono ?_; rintro e w1 ⟨rfl, hb1⟩)
      | (go_at_call 17; refine (HP.out _).mono ?_; rintro e w1 ⟨rfl, hb2⟩)
      | (go_at_call 18; (with_reducible refine (HG.out _).mono ?_); rintro e w1 ⟨rfl, rfl⟩)
      | (go_at_call 18; (with_reducible refine (HN.out _).mono ?_); rintro e w1 ⟨rfl, rfl⟩))
    go_ret
    exact ⟨rfl, by (repeat (first | assumption | (refine bel_trans ?_ ‹_›)))⟩
theorem and_mask (N k : Nat) (hN : N < 18446744073709551616) (hk : k ≤ 7) : bits .and .u64 (N : Int) ((256 ^ k - 1 : Nat) : Int) = ((N % 256 ^ k : Nat) : Int) := by
  have hp := pow_bound k hk
  rw [u64_and_nat _ _ hN (by omega), show 256 ^ k = 2 ^ (8 * k) from by rw [Nat.pow_mul], Nat.and_two_pow_sub_one_eq_mod]
set_option maxHeartbeats 4000000 in
theorem back_part (n size : Int) (a b : ByteArray) (w : World) (h1 : 1 ≤ size) (h2 : size < 8) (hn : 0 ≤ n) (hn2 : n < 18446744073709551616) (ha : ¬ 2000 < (a.size : Int)) (hb : ¬ 2000 < (b.size : Int)) (hlt : ¬ n.toNat < 256 ^ size.toNat) :
    Calls Try.prog 3 #[.int .u64 n, .int .i64 size, .string a, .string b] w fun e w' => e = .returned (.bool true) ∧ Below w.heap.size w w' := by
  obtain ⟨S, hS, hp, hq, hg, hno⟩ := put_among n size a b h1 (by omega) hn hn2 (by omega) (by omega)
  have hxl := Nat.mod_lt n.toNat (Nat.pow_pos (n := size.toNat) (show 0 < 256 by decide))
  have hm := and_mask n.toNat size.toNat (by omega) (by omega)
  rw [Int.toNat_of_nonneg hn] at hm
  have hf : n < 9223372036854775808 → ∀ w, Calls Try.prog 19 #[.int .i64 n, .int .i64 size] w fun e w' => e = .returned (.bool false) ∧ w = w' := by
    intro h63 w
    have := fits_any n size w h63
    have e : fitsB n size = false := by
      unfold fitsB
      have h4 : ((256 ^ size.toNat : Nat) : Int) = 256 ^ size.toNat := by rw [Int.natCast_pow]; rfl
      rw [if_neg (by omega), if_neg (by omega), ← h4]
      exact decide_eq_false (by omega)
    rwa [e] at this
  have HX : n.toNat % 256 ^ size.toNat < n.toNat := by omega
  have ew : n < 9223372036854775808 → wrap64 n = n := fun _ => by unfold wrap64; omega
  generalize n.toNat % 256 ^ size.toNat = x at *
  have hz : ((x : Int) == n) = false := by simp; omega
  have hz2 : ((x : Int) != n) = true := by simp; omega
  have HP := Lib.hid hp
  have HQ := Lib.hid hq
  have HG := Lib.hid hg
  have HN := Lib.hid hno
  have HF := Lib.hid hf
  have EW := Lib.hid ew
  have zS : S.size ≤ 8 := by omega
  have hne : ((S.size : Int) != size) = false := by simp; exact hS
  clear hp hq hg hno hlt hS hf hxl HX ew
  have hs : size = 1 ∨ size = 2 ∨ size = 3 ∨ size = 4 ∨ size = 5 ∨ size = 6 ∨ size = 7 := by omega
  rcases hs with rfl | rfl | rfl | rfl | rfl | rfl | rfl
  all_goals
    simp at hm
    by_cases h63 : n < 9223372036854775808
    · have H1 := Lib.hid (HF.out h63)
      have ew := EW.out h63
      clear HF EW
      go_enter Try.func3, Try.ntmps3
      go_wp2_with (first
        | (go_at_call 16; refine (awake1 _).mono ?_; rintro e w1 ⟨rfl, hb1⟩)
        | (go_at_call 17; (with_reducible refine (HP.out _).mono ?_); rintro e w1 ⟨rfl, hb2⟩)
        | (go_at_call 17; (with_reducible refine (HQ.out _).mono ?_); rintro e w1 ⟨rfl, hb2⟩)
        | (go_at_call 18; (with_reducible refine (HG.out _).mono ?_); rintro e w1 ⟨rfl, rfl⟩)
        | (go_at_call 18; (with_reducible refine (HN.out _).mono ?_); rintro e w1 ⟨rfl, rfl⟩)
        | (go_at_call 19; (with_reducible refine (H1.out _).mono ?_); rintro e w1 ⟨rfl, rfl⟩))
      go_ret
      exact ⟨rfl, by (repeat (first | assumption | (refine bel_trans ?_ ‹_›)))⟩
    · clear HF EW
      go_enter Try.func3, Try.ntmps3
      go_wp2_with (first
        | (go_at_call 16; refine (awake1 _).mono ?_; rintro e w1 ⟨rfl, hb1⟩)
        | (go_at_call 17; (with_reducible refine (HP.out _).mono ?_); rintro e w1 ⟨rfl, hb2⟩)
        | (go_at_call 17; (with_reducible refine (HQ.out _).mono ?_); rintro e w1 ⟨rfl, hb2⟩)
        | (go_at_call 18; (with_reducible refine (HG.out _).mono ?_); rintro e w1 ⟨rfl, rfl⟩)
        | (go_at_call 18; (with_reducible refine (HN.out _).mono ?_); rintro e w1 ⟨rfl, rfl⟩))
      go_ret
      exact ⟨rfl, by (repeat (first | assumption | (refine bel_trans ?_ ‹_›)))⟩
theorem back_law (n size : Int) (a b : ByteArray) (w : World) (hn : 0 ≤ n) (hn2 : n < 18446744073709551616) :
    Calls Try.prog 3 #[.int .u64 n, .int .i64 size, .string a, .string b] w fun e w' => e = .returned (.bool true) ∧ Below w.heap.size w w' := by
  by_cases h : size < 1 ∨ 8 < size ∨ 2000 < (a.size : Int) ∨ 2000 < (b.size : Int)
  · exact back_out n size a b w h
  · by_cases hlt : n.toNat < 256 ^ size.toNat
    · exact back_whole n size a b w (by omega) (by omega) hn hn2 (by omega) (by omega) hlt
    · have h8 : size < 8 := by
        have : size ≠ 8 := by
          rintro rfl
          exact hlt (by show n.toNat < 256 ^ 8; omega)
        omega
      exact back_part n size a b w (by omega) h8 hn hn2 (by omega) (by omega) hlt
end Go.Proofs.Ytleljmijkncahaa

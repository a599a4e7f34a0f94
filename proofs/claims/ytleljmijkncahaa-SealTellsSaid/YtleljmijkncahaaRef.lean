/- Walks of the reference of field: numbers; Fits and Signed of field. -/
import Derived.Test.YtleljmijkncahaaNum
set_option linter.unusedVariables false
set_option linter.unusedSimpArgs false
namespace Go.Proofs.Ytleljmijkncahaa
open Go.RowKit
theorem rget_no (s : ByteArray) (at_ size : Int) (w : World) (hs : s.size ≤ maxLen) (h : ¬ GetOk s.size at_ size) :
    Calls Try.prog 27 #[.string s, .int .i64 at_, .int .i64 size] w fun e w' => e = .returned (.tuple #[.int .u64 0, .bool false]) ∧ w = w' := by
  unfold maxLen at hs
  unfold GetOk at h
  by_cases h1 : size < 1
  · clear h
    go_enter Try.func27, Try.ntmps27
    go_wp2
    go_ret2
    exact ⟨rfl, rfl⟩
  · by_cases h2 : 8 < size
    · clear h
      go_enter Try.func27, Try.ntmps27
      go_wp2
      go_ret2
      exact ⟨rfl, rfl⟩
    · by_cases h4 : at_ < 0
      · clear h
        go_enter Try.func27, Try.ntmps27
        go_wp2
        go_ret2
        exact ⟨rfl, rfl⟩
      · by_cases h5 : (s.size : Int) < at_
        · clear h
          go_enter Try.func27, Try.ntmps27
          go_wp2
          go_ret2
          exact ⟨rfl, rfl⟩
        · have h6 : (s.size : Int) - at_ < size := by omega
          clear h
          go_enter Try.func27, Try.ntmps27
          go_wp2
          go_ret2
          exact ⟨rfl, rfl⟩
theorem rget_yes (s : ByteArray) (at_ size : Int) (w : World) (hs : s.size ≤ maxLen) (h : GetOk s.size at_ size) :
    Calls Try.prog 27 #[.string s, .int .i64 at_, .int .i64 size] w fun e w' => e = .returned (.tuple #[.int .u64 ((getS s at_ size : Nat) : Int), .bool true]) ∧ Below w.heap.size w w' := by
  unfold maxLen at hs
  obtain ⟨h1, h2, h3, h4⟩ := h
  obtain ⟨p, rfl⟩ := Int.eq_ofNat_of_zero_le h3
  obtain ⟨m, rfl⟩ := Int.eq_ofNat_of_zero_le (show 0 ≤ size by omega)
  have h5 : ¬ (m : Int) < 1 := by omega
  have h6 : ¬ 8 < (m : Int) := by omega
  have h7 : ¬ (p : Int) < 0 := by omega
  have h8 : ¬ (s.size : Int) < (p : Int) := by omega
  have h9 : ¬ (s.size : Int) - p < (m : Int) := by omega
  go_enter Try.func27, Try.ntmps27
  have hz : (s.extract p (p + m)).size ≤ 8 := by rw [ByteArray.size_extract]; omega
  have HV := Lib.hid (value_any (s.extract p (p + m)) w hz)
  have HG : Hid (valS (s.extract p (p + m)) = getS s p m) := by
    show _ = _
    unfold valS getS
    simp
  clear hz h9
  go_wp2_with (go_at_call 43; refine (HV.out).mono ?_; rintro e w2 ⟨rfl, hb2⟩)
  go_ret2
  exact ⟨by rw [← HG.out]; rfl, ‹_›⟩
theorem rput_odd (n size : Int) (w : World) (h : size < 1 ∨ 8 < size) :
    Calls Try.prog 28 #[.int .u64 n, .int .i64 size] w fun e w' => e = .returned (.string (str [])) ∧ w = w' := by
  rcases h with h | h
  · go_enter Try.func28, Try.ntmps28
    go_wp2
    go_ret
    exact ⟨rfl, rfl⟩
  · have h1 : ¬ size < 1 := by omega
    go_enter Try.func28, Try.ntmps28
    go_wp2
    go_ret
    exact ⟨rfl, rfl⟩
theorem rput_mid (n size : Int) (w : World) (hn : 0 ≤ n) (hn2 : n < 18446744073709551616) (h1 : 1 ≤ size) (h2 : size ≤ 8) :
    Calls Try.prog 28 #[.int .u64 n, .int .i64 size] w fun e w' => e = .returned (.string (str (Crc.put n.toNat size.toNat))) ∧ Below w.heap.size w w' := by
  have h1' : ¬ size < 1 := by omega
  have h2' : ¬ 8 < size := by omega
  obtain ⟨m, rfl⟩ := Int.eq_ofNat_of_zero_le hn
  obtain ⟨s, rfl⟩ := Int.eq_ofNat_of_zero_le (show 0 ≤ size by omega)
  go_enter Try.func28, Try.ntmps28
  go_wp2
  go_loopg [5, 6] s (fun gk a b wr => ∃ k : Nat, gk = s - k ∧ k ≤ s ∧ b = .int .i64 (k : Int) ∧ a = .string (str (Crc.put m k)) ∧ Below w.heap.size w wr)
  case atStart => exact ⟨0, rfl, Nat.zero_le _, rfl, rfl, Below.refl _ _⟩
  case round =>
    obtain ⟨k, rfl, hk, rfl, rfl, hbel⟩ := hrel
    have HB := Lib.hid hbel
    by_cases hlt : k < s
    · have HQ := Lib.hid (fun w => power_nat k w (by omega))
      have hp := Nat.pow_pos (n := k) (show 0 < 256 by decide)
      have ht := put_take m k
      clear hbel
      generalize 256 ^ k = p at *
      have hz : ((p : Int) == 0) = false := by simp; omega
      have hle : m / p ≤ m := Nat.div_le_self _ _
      have HT := Lib.hid ht
      clear ht
      have e0 : (m : Int) / (p : Int) = ((m / p : Nat) : Int) := rfl
      obtain ⟨q, hq⟩ : ∃ q, m / p = q := ⟨_, rfl⟩
      rw [hq] at e0 hle HT
      have e1 : IntKind.u64.wrap (q : Int) = (q : Int) := by rw [IntKind.wrap_u64]; omega
      have e2 : (q : Int) % 256 = ((UInt8.ofNat q).toNat : Int) := by rw [UInt8.toNat_ofNat']; omega
      clear hq
      have z1 : (str (Crc.put m k)).size ≤ 8 := by rw [str_size, Crc.put_length]; omega
      have z2 : (str [UInt8.ofNat q]).size ≤ 8 := by rw [str_size]; exact (by decide : 1 ≤ 8)
      have hcv := fun W => run_byte_str (P := Try.prog) (dst := 9) Try.underlying58 Try.underlying5 Try.underlying9 (UInt8.ofNat q) 5 W
      have had : str (Crc.put m k) ++ str [UInt8.ofNat q] = str (Crc.put m (k + 1)) := by rw [str_append, ← HT.out]
      have hc := (UInt8.ofNat q).toNat_lt
      generalize UInt8.ofNat q = c at *
      go_wp2_with (go_at_call 44; refine (HQ.out _).mono ?_; rintro e w2 ⟨rfl, rfl⟩)
      go_roundg (s - (k + 1))
      case measure => omega
      case rel => exact ⟨k + 1, rfl, hlt, by go_num, rfl, HB.out.alloc HB.out.size _⟩
    · obtain rfl : k = s := by omega
      clear hbel
      go_wp2
      go_ret
      exact ⟨rfl, HB.out⟩
theorem rput_any (n size : Int) (w : World) (hn : 0 ≤ n) (hn2 : n < 18446744073709551616) :
    Calls Try.prog 28 #[.int .u64 n, .int .i64 size] w fun e w' => e = .returned (.string (str (putI n size))) ∧ Below w.heap.size w w' := by
  unfold putI
  by_cases h : 1 ≤ size ∧ size ≤ 8
  · rw [if_pos h]; exact rput_mid n size w hn hn2 h.1 h.2
  · rw [if_neg h]; exact (rput_odd n size w (by omega)).mono fun e w' ⟨h1, h2⟩ => ⟨h1, h2 ▸ Below.refl _ _⟩
/-! ### Fits -/
theorem fits_neg (n size : Int) (w : World) (h : n < 0) : Calls Try.prog 19 #[.int .i64 n, .int .i64 size] w fun e w' => e = .returned (.bool false) ∧ w = w' := by
  go_enter Try.func19, Try.ntmps19
  go_wp2
  go_ret
  exact ⟨rfl, rfl⟩
theorem fits_small (n size : Int) (w : World) (h : ¬ n < 0) (h1 : size < 1) : Calls Try.prog 19 #[.int .i64 n, .int .i64 size] w fun e w' => e = .returned (.bool (n == 0)) ∧ w = w' := by
  go_enter Try.func19, Try.ntmps19
  go_wp2
  go_ret
  exact ⟨rfl, rfl⟩
theorem fits_great (n size : Int) (w : World) (h : ¬ n < 0) (h1 : 8 ≤ size) : Calls Try.prog 19 #[.int .i64 n, .int .i64 size] w fun e w' => e = .returned (.bool true) ∧ w = w' := by
  have h1' : ¬ size < 1 := by omega
  go_enter Try.func19, Try.ntmps19
  go_wp2
  go_ret
  exact ⟨rfl, rfl⟩
theorem fits_mid (n size : Int) (w : World) (h : ¬ n < 0) (h1 : 1 ≤ size) (h2 : size < 8) : Calls Try.prog 19 #[.int .i64 n, .int .i64 size] w fun e w' => e = .returned (.bool (n / 2 ^ (8 * size).toNat == 0)) ∧ w = w' := by
  have h1' : ¬ size < 1 := by omega
  have h2' : ¬ 8 ≤ size := by omega
  go_enter Try.func19, Try.ntmps19
  go_wp2
  go_ret
  exact ⟨rfl, rfl⟩
/-- Does a number fit? -/
def fitsB (n size : Int) : Bool := if n < 0 then false else if size < 1 then n == 0 else decide (n < 256 ^ size.toNat)
theorem div_zero (n : Int) (k : Nat) (h : ¬ n < 0) : (n / 2 ^ (8 * (k : Int)).toNat == 0) = decide (n < 256 ^ k) := by
  have e : (2 : Int) ^ (8 * (k : Int)).toNat = 256 ^ k := by
    rw [show (8 * (k : Int)).toNat = 8 * k from by omega, Int.pow_mul]; rfl
  rw [e]
  have hp : (0 : Int) < 256 ^ k := Int.pow_pos (by decide)
  by_cases h1 : n < 256 ^ k
  · rw [Int.ediv_eq_zero_of_lt (by omega) h1]; simp [h1]
  · have : n / 256 ^ k ≠ 0 := by
      intro h0
      have := Int.lt_ediv_add_one_mul_self n hp
      rw [h0] at this; omega
    simp [h1, this]
theorem fits_any (n size : Int) (w : World) (hn : n < 9223372036854775808) : Calls Try.prog 19 #[.int .i64 n, .int .i64 size] w fun e w' => e = .returned (.bool (fitsB n size)) ∧ w = w' := by
  unfold fitsB
  by_cases h : n < 0
  · rw [if_pos h]; exact fits_neg n size w h
  · rw [if_neg h]
    by_cases h1 : size < 1
    · rw [if_pos h1]; exact fits_small n size w h h1
    · rw [if_neg h1]
      by_cases h2 : 8 ≤ size
      · have h3 : 256 ^ 8 ≤ 256 ^ size.toNat := Nat.pow_le_pow_right (by decide) (by omega)
        have h4 : ((256 ^ size.toNat : Nat) : Int) = 256 ^ size.toNat := by rw [Int.natCast_pow]; rfl
        have : n < 256 ^ size.toNat := by rw [← h4]; omega
        rw [decide_eq_true this]; exact fits_great n size w h h2
      · obtain ⟨k, rfl⟩ := Int.eq_ofNat_of_zero_le (show 0 ≤ size by omega)
        have := fits_mid n k w h (by omega) (by omega)
        rw [div_zero n k h] at this
        exact this
theorem rfits_any (n size : Int) (w : World) (hn : n < 9223372036854775808) : Calls Try.prog 30 #[.int .i64 n, .int .i64 size] w fun e w' => e = .returned (.bool (fitsB n size)) ∧ w = w' := by
  unfold fitsB
  by_cases h : n < 0
  · have hz : (n == 0) = false := by simp; omega
    rw [if_pos h]
    go_enter Try.func30, Try.ntmps30
    go_wp2
    go_ret
    exact ⟨rfl, rfl⟩
  · rw [if_neg h]
    by_cases h1 : size < 1
    · rw [if_pos h1]
      go_enter Try.func30, Try.ntmps30
      go_wp2
      go_ret
      exact ⟨rfl, rfl⟩
    · rw [if_neg h1]
      by_cases h2 : 8 ≤ size
      · have h3 : 256 ^ 8 ≤ 256 ^ size.toNat := Nat.pow_le_pow_right (by decide) (by omega)
        have h4 : ((256 ^ size.toNat : Nat) : Int) = 256 ^ size.toNat := by rw [Int.natCast_pow]; rfl
        have : n < 256 ^ size.toNat := by rw [← h4]; omega
        rw [decide_eq_true this]
        clear h3 h4 this
        go_enter Try.func30, Try.ntmps30
        go_wp2
        go_ret
        exact ⟨rfl, rfl⟩
      · have h4 : ((256 ^ size.toNat : Nat) : Int) = 256 ^ size.toNat := by rw [Int.natCast_pow]; rfl
        have HP := Lib.hid (power_any size w (by omega) (by omega))
        rw [← h4]
        clear h4
        generalize 256 ^ size.toNat = p at *
        have e1 : IntKind.u64.wrap n = n := by rw [IntKind.wrap_u64]; omega
        go_enter Try.func30, Try.ntmps30
        go_wp2_with (go_at_call 44; refine (HP.out).mono ?_; rintro e w2 ⟨rfl, rfl⟩)
        go_ret
        exact ⟨rfl, rfl⟩
/-! ### Signed -/
def sgnI (n size : Int) : Int := if 1 ≤ size ∧ size ≤ 8 then (if 256 ^ size.toNat / 2 ≤ n % 256 ^ size.toNat then n % 256 ^ size.toNat - 256 ^ size.toNat else n % 256 ^ size.toNat) else 0
theorem signed_odd (n size : Int) (w : World) (h : size < 1 ∨ 8 < size) : Calls Try.prog 26 #[.int .u64 n, .int .i64 size] w fun e w' => e = .returned (.int .i64 0) ∧ w = w' := by
  go_enter Try.func26, Try.ntmps26
  go_wp2_with (go_at_call 41; refine (odd_yes _ _ h).mono ?_; rintro e w' ⟨rfl, rfl⟩)
  go_ret
  exact ⟨rfl, rfl⟩
theorem signed_mid (n size : Int) (w : World) (h1 : 1 ≤ size) (h2 : size ≤ 8) : Calls Try.prog 26 #[.int .u64 n, .int .i64 size] w fun e w' => e = .returned (.int .i64 (wrap64 (IntKind.u64.wrap (n * 2 ^ (8 * (8 - size)).toNat)) / 2 ^ (8 * (8 - size)).toNat)) ∧ w = w' := by
  go_enter Try.func26, Try.ntmps26
  go_wp2_with (go_at_call 41; refine (odd_no _ _ h1 h2).mono ?_; rintro e w' ⟨rfl, rfl⟩)
  go_ret
  exact ⟨rfl, rfl⟩
theorem signed_num (n size : Int) (h1 : 1 ≤ size) (h2 : size ≤ 8) : wrap64 (IntKind.u64.wrap (n * 2 ^ (8 * (8 - size)).toNat)) / 2 ^ (8 * (8 - size)).toNat = sgnI n size := by
  unfold sgnI
  rw [if_pos ⟨h1, h2⟩]
  have h : size = 1 ∨ size = 2 ∨ size = 3 ∨ size = 4 ∨ size = 5 ∨ size = 6 ∨ size = 7 ∨ size = 8 := by omega
  rcases h with rfl | rfl | rfl | rfl | rfl | rfl | rfl | rfl
  all_goals
    simp only [IntKind.wrap_u64, wrap64]
    simp
    split <;> omega
theorem signed_any (n size : Int) (w : World) : Calls Try.prog 26 #[.int .u64 n, .int .i64 size] w fun e w' => e = .returned (.int .i64 (sgnI n size)) ∧ w = w' := by
  by_cases h : 1 ≤ size ∧ size ≤ 8
  · have := signed_mid n size w h.1 h.2
    rw [signed_num n size h.1 h.2] at this
    exact this
  · have e : sgnI n size = 0 := by unfold sgnI; rw [if_neg h]
    rw [e]; exact signed_odd n size w (by omega)
theorem rsigned_eight (n : Int) (w : World) : Calls Try.prog 29 #[.int .u64 n, .int .i64 8] w fun e w' => e = .returned (.int .i64 (wrap64 n)) ∧ w = w' := by
  go_enter Try.func29, Try.ntmps29
  go_wp2
  go_ret
  exact ⟨rfl, rfl⟩
theorem rsigned_any (n size : Int) (w : World) (hn : 0 ≤ n) (hn2 : n < 18446744073709551616) : Calls Try.prog 29 #[.int .u64 n, .int .i64 size] w fun e w' => e = .returned (.int .i64 (sgnI n size)) ∧ w = w' := by
  unfold sgnI
  by_cases h1 : size < 1
  · rw [if_neg (by omega)]
    go_enter Try.func29, Try.ntmps29
    go_wp2
    go_ret
    exact ⟨rfl, rfl⟩
  · by_cases h2 : 8 < size
    · rw [if_neg (by omega)]
      go_enter Try.func29, Try.ntmps29
      go_wp2
      go_ret
      exact ⟨rfl, rfl⟩
    · rw [if_pos (by omega)]
      by_cases h3 : size = 8
      · subst h3
        have e : wrap64 n = (if 256 ^ (8 : Int).toNat / 2 ≤ n % 256 ^ (8 : Int).toNat then n % 256 ^ (8 : Int).toNat - 256 ^ (8 : Int).toNat else n % 256 ^ (8 : Int).toNat) := by
          simp [wrap64]
          split <;> omega
        rw [← e]
        exact rsigned_eight n w
      · have hz : (size == 8) = false := by simp; omega
        have h4 : ((256 ^ size.toNat : Nat) : Int) = 256 ^ size.toNat := by rw [Int.natCast_pow]; rfl
        have HP := Lib.hid (power_any size w (by omega) (by omega))
        have hp := pow_bound size.toNat (by omega)
        have hp0 := Nat.pow_pos (n := size.toNat) (show 0 < 256 by decide)
        rw [← h4]
        clear h4
        generalize 256 ^ size.toNat = p at *
        have hz2 : ((p : Int) == 0) = false := by simp; omega
        have hr0 := Int.emod_nonneg n (show (p : Int) ≠ 0 by omega)
        have hr1 := Int.emod_lt_of_pos n (show 0 < (p : Int) by omega)
        have e1 : wrap64 (n % (p : Int)) = n % (p : Int) := by unfold wrap64; omega
        have e2 : wrap64 (n % (p : Int) - (p : Int)) = n % (p : Int) - (p : Int) := by unfold wrap64; omega
        by_cases hc : (p : Int) / 2 ≤ n % (p : Int)
        all_goals
          go_enter Try.func29, Try.ntmps29
          go_wp2_with (go_at_call 44; refine (HP.out).mono ?_; rintro e w2 ⟨rfl, rfl⟩)
          go_ret
          exact ⟨rfl, rfl⟩
/-! ### awake -/
theorem awake1 (w : World) : Calls Try.prog 16 #[] w fun e w' => e = .returned (.bool true) ∧ Below w.heap.size w w' := by
  have e0 : getS { data := #[254, 255] } 0 2 = 65534 := by decide +kernel
  have e1 : str (putI 258 2) = { data := #[2, 1] } := rfl
  have e2 : sgnI 65534 2 = -2 := by decide +kernel
  have hg := get_yes { data := #[254, 255] } 0 2 w (by decide) (by decide +kernel)
  rw [e0] at hg
  have HG := Lib.hid hg
  have hp := fun w => put_any 258 2 w (by decide) (by decide)
  rw [e1] at hp
  have HP := Lib.hid hp
  have hs := fun w => signed_any 65534 2 w
  rw [e2] at hs
  have HS := Lib.hid hs
  clear hg hp hs e0 e1 e2
  go_enter Try.func16, Try.ntmps16
  go_wp2_with (first
    | (go_at_call 18; refine (HG.out).mono ?_; rintro e w1 ⟨rfl, rfl⟩)
    | (go_at_call 17; refine (HP.out _).mono ?_; rintro e w1 ⟨rfl, hb1⟩)
    | (go_at_call 26; refine (HS.out _).mono ?_; rintro e w1 ⟨rfl, rfl⟩))
  go_ret
  exact ⟨rfl, ‹_›⟩
end Go.Proofs.Ytleljmijkncahaa

/- Walks of field and of its reference: numbers. -/
import Derived.Test.YtleljmijkncahaaPut
set_option linter.unusedVariables false
set_option linter.unusedSimpArgs false
namespace Go.Proofs.Ytleljmijkncahaa
open Go.RowKit
/-! ### power -/
theorem pow_bound (k : Nat) (h : k ≤ 7) : 256 ^ k ≤ 72057594037927936 := Nat.le_trans (Nat.pow_le_pow_right (by decide) h) (by decide)
theorem power_any (n : Int) (w : World) (h0 : 0 ≤ n) (h1 : n ≤ 7) :
    Calls Try.prog 44 #[.int .i64 n] w fun e w' => e = .returned (.int .u64 ((256 ^ n.toNat : Nat) : Int)) ∧ w = w' := by
  obtain ⟨m, rfl⟩ := Int.eq_ofNat_of_zero_le h0
  go_enter Try.func44, Try.ntmps44
  go_wp2
  go_loopg [3, 4] m (fun gk a b wr => wr = w ∧ ∃ k : Nat, gk = m - k ∧ k ≤ m ∧ b = .int .i64 (k : Int) ∧ a = .int .u64 ((256 ^ k : Nat) : Int))
  case atStart => exact ⟨rfl, 0, rfl, Nat.zero_le _, rfl, rfl⟩
  case round =>
    obtain ⟨rfl, k, rfl, hk, rfl, rfl⟩ := hrel
    have HP := Lib.hid (Nat.pow_succ 256 k)
    by_cases hlt : k < m
    · have hb := pow_bound (k + 1) (by omega)
      rw [HP.out] at hb
      generalize 256 ^ k = x at *
      have e1 : IntKind.u64.wrap ((x : Int) * 256) = ((x * 256 : Nat) : Int) := by rw [IntKind.wrap_u64]; omega
      clear hb
      go_wp2
      go_roundg (m - (k + 1))
      case measure => omega
      case rel => exact ⟨rfl, k + 1, rfl, hlt, by go_num, by rw [HP.out]; rfl⟩
    · obtain rfl : k = m := by omega
      go_wp2
      go_ret
      exact ⟨rfl, rfl⟩

theorem power_nat (k : Nat) (w : World) (h1 : k ≤ 7) : Calls Try.prog 44 #[.int .i64 (k : Int)] w fun e w' => e = .returned (.int .u64 ((256 ^ k : Nat) : Int)) ∧ w' = w :=
  (power_any k w (Int.natCast_nonneg _) (by omega)).mono fun _ _ ⟨h1, h2⟩ => ⟨h1, h2.symm⟩
/-! ### Value -/
theorem value_snoc (l : List UInt8) (c : UInt8) : Crc.value (l ++ [c]) = Crc.value l + c.toNat * 256 ^ l.length := by
  induction l with
  | nil => simp [Crc.value]
  | cons d l ih => simp only [List.cons_append, Crc.value, ih, List.length_cons, Nat.pow_succ, Nat.mul_add]; rw [Nat.add_assoc]; congr 2; rw [Nat.mul_left_comm, Nat.mul_comm (256 ^ l.length)]
theorem value_le8 (l : List UInt8) (h : l.length ≤ 8) : Crc.value l < 18446744073709551616 :=
  Nat.lt_of_lt_of_le (Crc.value_lt l) (Nat.le_trans (Nat.pow_le_pow_right (by decide) h) (by decide))
/-- Get, and what it tells beside: is there such a field? -/
def GetOk (n : Nat) (at_ size : Int) : Prop := 1 ≤ size ∧ size ≤ 8 ∧ 0 ≤ at_ ∧ at_ + size ≤ n
instance (n : Nat) (a b : Int) : Decidable (GetOk n a b) := inferInstanceAs (Decidable (_ ∧ _))
def getS (s : ByteArray) (at_ size : Int) : Nat := Crc.value ((s.data.toList.drop at_.toNat).take size.toNat)
def valS (s : ByteArray) : Nat := Crc.value s.data.toList
set_option maxHeartbeats 400000 in
theorem value_any (s : ByteArray) (w : World) (hs : s.size ≤ 8) :
    Calls Try.prog 43 #[.string s] w fun e w' => e = .returned (.int .u64 ((valS s : Nat) : Int)) ∧ Below w.heap.size w w' := by
  go_enter Try.func43, Try.ntmps43
  go_wp2
  go_loopg [3, 4] s.size (fun gk a b wr => ∃ k : Nat, gk = s.size - k ∧ k ≤ s.size ∧ b = .int .i64 (k : Int) ∧ a = .int .u64 ((Crc.value (s.data.toList.take k) : Nat) : Int) ∧ Below w.heap.size w wr)
  case atStart => exact ⟨0, rfl, Nat.zero_le _, rfl, rfl, Below.refl _ _⟩
  case round =>
    obtain ⟨k, rfl, hk, rfl, rfl, hbel⟩ := hrel
    have HB := Lib.hid hbel
    clear hbel
    by_cases hlt : k < s.size
    · have hl : (s.data.toList.take k).length = k := by rw [List.length_take]; simp; omega
      have hv := value_snoc (s.data.toList.take k) s[k]
      rw [← take_succ s k hlt, hl] at hv
      have hb : Crc.value (s.data.toList.take (k + 1)) < 18446744073709551616 := value_le8 _ (by rw [List.length_take]; simp; omega)
      have hp := pow_bound k (by omega)
      have hc := s[k].toNat_lt
      have HQ := Lib.hid (fun w => power_nat k w (by omega))
      obtain ⟨r, hr⟩ : ∃ r, Crc.value (s.data.toList.take (k + 1)) = r := ⟨_, rfl⟩
      rw [hr] at hv hb
      have HR := Lib.hid hr
      clear hl hr
      generalize Crc.value (List.take k s.data.toList) = x at *
      generalize 256 ^ k = p at *
      obtain ⟨q, hq⟩ : ∃ q, q = s[k].toNat * p := ⟨_, rfl⟩
      rw [← hq] at hv
      have e0 : IntKind.u64.wrap (s[k].toNat : Int) = (s[k].toNat : Int) := by rw [IntKind.wrap_u64]; omega
      have e1 : IntKind.u64.wrap ((s[k].toNat : Int) * (p : Int)) = (q : Int) := by
        rw [IntKind.wrap_u64, ← Int.natCast_mul, ← hq]; omega
      have e2 : IntKind.u64.wrap ((x : Int) + (q : Int)) = (r : Int) := by
        rw [IntKind.wrap_u64]; omega
      clear hb hp hq hv
      go_wp2
      go_quiet ((go_at_call 44; exact Calls.quiet_of_same (HQ.out _)))
      go_wp2
      go_roundg (s.size - (k + 1))
      case measure => omega
      case rel => exact ⟨k + 1, rfl, hlt, by go_num, by rw [HR.out], bel_drewN HB.out _⟩
    · obtain rfl : k = s.size := by omega
      rw [take_all]
      go_wp2
      go_ret
      exact ⟨rfl, HB.out⟩

/-! ### Get -/
theorem get_no (s : ByteArray) (at_ size : Int) (w : World) (hs : s.size ≤ maxLen) (h : ¬ GetOk s.size at_ size) :
    Calls Try.prog 18 #[.string s, .int .i64 at_, .int .i64 size] w fun e w' => e = .returned (.tuple #[.int .u64 0, .bool false]) ∧ w = w' := by
  unfold maxLen at hs
  unfold GetOk at h
  by_cases h1 : size < 1 ∨ 8 < size
  · clear h
    go_enter Try.func18, Try.ntmps18
    go_wp2_with (go_at_call 41; refine (odd_yes _ _ h1).mono ?_; rintro e w' ⟨rfl, rfl⟩)
    go_ret2
    exact ⟨rfl, rfl⟩
  · have h2 : 1 ≤ size := by omega
    have h3 : size ≤ 8 := by omega
    clear h1
    by_cases h4 : at_ < 0
    · clear h
      go_enter Try.func18, Try.ntmps18
      go_wp2_with (go_at_call 41; refine (odd_no _ _ h2 h3).mono ?_; rintro e w' ⟨rfl, rfl⟩)
      go_ret2
      exact ⟨rfl, rfl⟩
    · have h5 : (s.size : Int) - size < at_ := by omega
      clear h
      go_enter Try.func18, Try.ntmps18
      go_wp2_with (go_at_call 41; refine (odd_no _ _ h2 h3).mono ?_; rintro e w' ⟨rfl, rfl⟩)
      go_ret2
      exact ⟨rfl, rfl⟩
set_option maxHeartbeats 400000 in
theorem get_yes (s : ByteArray) (at_ size : Int) (w : World) (hs : s.size ≤ maxLen) (h : GetOk s.size at_ size) :
    Calls Try.prog 18 #[.string s, .int .i64 at_, .int .i64 size] w fun e w' => e = .returned (.tuple #[.int .u64 ((getS s at_ size : Nat) : Int), .bool true]) ∧ w = w' := by
  unfold maxLen at hs
  obtain ⟨h1, h2, h3, h4⟩ := h
  obtain ⟨p, rfl⟩ := Int.eq_ofNat_of_zero_le h3
  obtain ⟨m, rfl⟩ := Int.eq_ofNat_of_zero_le (show 0 ≤ size by omega)
  have h5 : ¬ (s.size : Int) - m < p := by omega
  go_enter Try.func18, Try.ntmps18
  go_wp2_with (go_at_call 41; refine (odd_no _ _ h1 h2).mono ?_; rintro e w' ⟨rfl, rfl⟩)
  clear h5
  have hL : ∀ q, q < m → ∃ c : UInt8, ∃ hi : p + q < s.size, s[p + q] = c ∧ ((s.data.toList.drop p).take m).drop q = c :: ((s.data.toList.drop p).take m).drop (q + 1) := by
    intro q hq
    have hi : p + q < s.size := by omega
    refine ⟨s[p + q], hi, rfl, ?_⟩
    rw [List.drop_eq_getElem_cons (by simp; omega)]
    congr 1
    simp; rfl
  have hlen : ((s.data.toList.drop p).take m).length = m := by simp; omega
  have HG := Lib.hid (show getS s p m = Crc.value ((s.data.toList.drop p).take m) from rfl)
  generalize (s.data.toList.drop p).take m = L at *
  have HL := Lib.hid hL
  have HN := Lib.hid hlen
  clear hL hlen
  go_loopg [8, 9] m (fun gk a b wr => wr = w ∧ gk ≤ m ∧ b = .int .i64 ((p : Int) + (gk : Int) - 1) ∧ a = .int .u64 ((Crc.value (L.drop gk) : Nat) : Int))
  case atStart => exact ⟨rfl, Nat.le_refl _, rfl, by rw [List.drop_of_length_le (Nat.le_of_eq HN.out)]; rfl⟩
  case round =>
    obtain ⟨rfl, hk, rfl, rfl⟩ := hrel
    cases gk with
    | zero =>
      have e0 : (p : Int) + ((0 : Nat) : Int) - 1 = (p : Int) - 1 := by omega
      rw [e0, List.drop_zero]
      clear e0
      go_wp2
      go_ret2
      exact ⟨by rw [HG.out]; rfl, rfl⟩
    | succ q =>
      obtain ⟨c, hi, hc, hd⟩ := HL.out q (by omega)
      have hv : Crc.value (L.drop q) = c.toNat + 256 * Crc.value (L.drop (q + 1)) := by rw [hd]; rfl
      have hb : Crc.value (L.drop q) < 18446744073709551616 := value_le8 _ (by rw [List.length_drop, HN.out]; omega)
      have e0 : (p : Int) + ((q + 1 : Nat) : Int) - 1 = ((p + q : Nat) : Int) := by omega
      rw [e0]
      have e3 : ((p + q : Nat) : Int) - 1 = (p : Int) + (q : Int) - 1 := by omega
      obtain ⟨r, hr⟩ : ∃ r, Crc.value (L.drop q) = r := ⟨_, rfl⟩
      have HR := Lib.hid hr
      rw [hr] at hv hb
      clear hr
      have hp : (p : Int) ≤ ((p + q : Nat) : Int) := by omega
      clear e0 hd
      generalize Crc.value (L.drop (q + 1)) = x at *
      generalize p + q = i at *
      have hcl := c.toNat_lt
      subst hc
      have f1 : IntKind.u64.wrap ((x : Int) * 256) = ((x : Int) * 256) := by rw [IntKind.wrap_u64]; omega
      have f2 : IntKind.u64.wrap ((x : Int) * 256 + (s[i].toNat : Int)) = (r : Int) := by rw [IntKind.wrap_u64]; omega
      have H3 := Lib.hid e3
      clear hb hv e3
      go_wp2
      go_roundg q
      case measure => omega
      case rel => exact ⟨rfl, by omega, by rw [H3.out], by rw [HR.out]⟩
end Go.Proofs.Ytleljmijkncahaa

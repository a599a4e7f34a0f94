/- Walks of the reference of seal: bit, Join, Sum, Seal, Open. -/
import Derived.Test.YtleljmijkncahaaSealBackWalk
import Derived.Test.YtleljmijkncahaaRef
set_option linter.unusedVariables false
set_option linter.unusedSimpArgs false
namespace Go.Proofs.Ytleljmijkncahaa
open Go.RowKit
/-! ### bit by bit -/
/-- The row within a byte c: i bits of it taken. -/
def rb (r c i : Nat) : Nat := Crc.It i (r ^^^ c) ^^^ (c / 2 ^ i)
def step (r b : Nat) : Nat := if r % 2 ≠ b then (r / 2) ^^^ 3988292384 else r / 2
theorem rb_zero (r c : Nat) : rb r c 0 = r := by unfold rb; simp [Crc.It, Nat.xor_assoc]
theorem rb_eight (r c : Nat) (h : c < 256) : rb r c 8 = Crc.It 8 (r ^^^ c) := by unfold rb; rw [Nat.div_eq_of_lt h, Nat.xor_zero]
theorem rb_succ (r c i : Nat) : rb r c (i + 1) = step (rb r c i) (c / 2 ^ i % 2) := by
  unfold rb step
  rw [Crc.It_succ]
  generalize Crc.It i (r ^^^ c) = x
  have e : c / 2 ^ (i + 1) = c / 2 ^ i / 2 := by rw [Nat.pow_succ, Nat.div_div_eq_div_mul]
  rw [e]
  generalize c / 2 ^ i = d
  unfold Crc.A
  have h2 : (x ^^^ d) / 2 = x / 2 ^^^ d / 2 := by have := Nat.xor_div_two_pow (a := x) (b := d) (n := 1); simpa using this
  have h3 := Crc.mod_two_xor x d
  rw [h2, h3]
  rcases Nat.mod_two_eq_zero_or_one x with hx | hx <;> rcases Nat.mod_two_eq_zero_or_one d with hd | hd <;> rw [hx, hd] <;> simp [Nat.xor_assoc]
  · rw [Nat.xor_comm 3988292384]
  · rw [Nat.xor_comm 3988292384]
/-- The row behind k bits. -/
def rowAt (r : Nat) (l : List UInt8) (k : Nat) : Nat := rb (Crc.reg r (l.take (k / 8))) (l.getD (k / 8) 0).toNat (k % 8)
def bitAt (l : List UInt8) (k : Nat) : Nat := (l.getD (k / 8) 0).toNat / 2 ^ (k % 8) % 2
theorem rowAt_zero (r : Nat) (l : List UInt8) : rowAt r l 0 = r := by unfold rowAt; rw [Nat.zero_div, Nat.zero_mod, rb_zero]; rfl
theorem reg_take_succ (r : Nat) (l : List UInt8) (j : Nat) (h : j < l.length) : Crc.reg r (l.take (j + 1)) = Crc.It 8 (Crc.reg r (l.take j) ^^^ (l.getD j 0).toNat) := by
  rw [List.take_succ_eq_append_getElem h, Crc.reg_append, List.getD_eq_getElem?_getD, List.getElem?_eq_getElem h]; rfl
theorem rowAt_succ (r : Nat) (l : List UInt8) (k : Nat) (h : k < 8 * l.length) : rowAt r l (k + 1) = step (rowAt r l k) (bitAt l k) := by
  unfold rowAt bitAt
  by_cases h7 : k % 8 = 7
  · have e1 : (k + 1) / 8 = k / 8 + 1 := by omega
    have e2 : (k + 1) % 8 = 0 := by omega
    rw [e1, e2, rb_zero, reg_take_succ r l (k / 8) (by omega), h7, ← rb_succ, rb_eight _ _ (UInt8.toNat_lt _)]
  · have e1 : (k + 1) / 8 = k / 8 := by omega
    have e2 : (k + 1) % 8 = k % 8 + 1 := by omega
    rw [e1, e2, rb_succ]
theorem rowAt_all (r : Nat) (l : List UInt8) : rowAt r l (8 * l.length) = Crc.reg r l := by
  unfold rowAt
  have e1 : 8 * l.length / 8 = l.length := by omega
  have e2 : 8 * l.length % 8 = 0 := by omega
  rw [e1, e2, rb_zero, List.take_length]
theorem step_lt (r b : Nat) (h : r < 4294967296) : step r b < 4294967296 := by
  unfold step
  split
  · exact Nat.xor_lt_two_pow (n := 32) (by omega) (by decide)
  · omega
theorem rowAt_lt (r : Nat) (l : List UInt8) (hr : r < 4294967296) (k : Nat) (h : k ≤ 8 * l.length) : rowAt r l k < 4294967296 := by
  induction k with
  | zero => rw [rowAt_zero]; exact hr
  | succ k ih => rw [rowAt_succ r l k (by omega)]; exact step_lt _ _ (ih (by omega))
theorem bit_any (s : ByteArray) (k : Nat) (w : World) (hs : s.size ≤ 4000) (h : k < 8 * s.size) :
    Calls Try.prog 47 #[.string s, .int .i64 (k : Int)] w fun e w' => e = .returned (.int .u32 ((bitAt s.data.toList k : Nat) : Int)) ∧ w = w' := by
  have hlt : k / 8 < s.size := by omega
  have hr8 : k % 8 < 8 := Nat.mod_lt _ (by decide)
  have d1 : (k : Int) / 8 = ((k / 8 : Nat) : Int) := rfl
  have d2 : (k : Int) % 8 = ((k % 8 : Nat) : Int) := rfl
  have d3 : (k : Int).tdiv 8 = ((k / 8 : Nat) : Int) := by rw [Int.tdiv_eq_ediv_of_nonneg (by omega)]; rfl
  have d4 : (k : Int).tmod 8 = ((k % 8 : Nat) : Int) := by rw [Int.tmod_eq_emod_of_nonneg (by omega)]; rfl
  have HB : Hid (bitAt s.data.toList k = s[k / 8].toNat / 2 ^ (k % 8) % 2) := by
    show _ = _
    unfold bitAt
    rw [List.getD_eq_getElem?_getD, List.getElem?_eq_getElem (by simpa using hlt)]; rfl
  have hk0 : (0 : Int) ≤ (k : Int) := Int.natCast_nonneg _
  clear h
  generalize k / 8 = p at *
  generalize k % 8 = r at *
  have hb := s[p].toNat_lt
  go_enter Try.func47, Try.ntmps47
  go_wp2
  go_loopg [5, 6] r (fun gk a b wr => wr = w ∧ ∃ i : Nat, gk = r - i ∧ i ≤ r ∧ b = .int .i64 (i : Int) ∧ a = .int .u8 ((s[p].toNat / 2 ^ i : Nat) : Int))
  case atStart => exact ⟨rfl, 0, rfl, Nat.zero_le _, rfl, by simp⟩
  case round =>
    obtain ⟨rfl, i, rfl, hi, rfl, rfl⟩ := hrel
    have hle : s[p].toNat / 2 ^ i ≤ s[p].toNat := Nat.div_le_self _ _
    by_cases hlt2 : i < r
    · have HE : Hid (s[p].toNat / 2 ^ (i + 1) = s[p].toNat / 2 ^ i / 2) := by show _ = _; rw [Nat.pow_succ, Nat.div_div_eq_div_mul]
      generalize s[p].toNat / 2 ^ i = x at *
      go_wp2
      go_roundg (r - (i + 1))
      case measure => omega
      case rel => exact ⟨rfl, i + 1, rfl, hlt2, by go_num, by rw [HE.out]; rfl⟩
    · obtain rfl : i = r := by omega
      generalize s[p].toNat / 2 ^ i = x at *
      go_wp2
      go_ret
      exact ⟨by rw [HB.out]; simp, rfl⟩
theorem rjoin_any (a : Nat) (l : List UInt8) (w : World) (ha : a < 4294967296) (hl : l.length ≤ 4000) :
    Calls Try.prog 39 #[.int .u32 (a : Int), .string (str l)] w fun e w' => e = .returned (.int .u32 ((Crc.join a l : Nat) : Int)) ∧ w = w' := by
  have zs : (str l).size = l.length := str_size l
  have hbit := fun k h => bit_any (str l) k w (by rw [zs]; exact hl) (by rw [zs]; exact h)
  rw [str_data] at hbit
  have HBIT := Lib.hid hbit
  have HS := Lib.hid (rowAt_succ (a ^^^ Crc.M) l)
  have hx : a ^^^ Crc.M < 4294967296 := Nat.xor_lt_two_pow (n := 32) ha (by decide)
  have HLT := Lib.hid (rowAt_lt (a ^^^ Crc.M) l hx)
  have HALL := Lib.hid (rowAt_all (a ^^^ Crc.M) l)
  have HREG := Lib.hid (Crc.reg_lt (a ^^^ Crc.M) l hx)
  have H0 := Lib.hid (rowAt_zero (a ^^^ Crc.M) l)
  have HJ : Hid (Crc.join a l = Crc.reg (a ^^^ Crc.M) l ^^^ Crc.M) := rfl
  have hne := Crc.not_eq a ha
  have e0 : (4294967295 : Int) - (a : Int) = ((a ^^^ Crc.M : Nat) : Int) := by rw [← hne]; omega
  have HN := Lib.hid (Crc.not_eq)
  clear hbit hne
  generalize a ^^^ Crc.M = r at *
  go_enter Try.func39, Try.ntmps39
  go_wp2
  go_loopg [5, 6] (8 * l.length) (fun gk x y wr => wr = w ∧ ∃ k : Nat, gk = 8 * l.length - k ∧ k ≤ 8 * l.length ∧ y = .int .i64 (k : Int) ∧ x = .int .u32 ((rowAt r l k : Nat) : Int))
  case atStart => exact ⟨rfl, 0, rfl, Nat.zero_le _, rfl, by rw [H0.out]⟩
  case round =>
    obtain ⟨rfl, k, rfl, hk, rfl, rfl⟩ := hrel
    by_cases hlt : k < 8 * l.length
    · have HB := Lib.hid (HBIT.out k hlt)
      have HST := Lib.hid (HS.out k hlt)
      have hlt' : (k : Int) < 8 * ((str l).size : Int) := by omega
      have hlx := HLT.out k hk
      generalize rowAt r l k = x at *
      have hb2 : bitAt l k < 2 := Nat.mod_lt _ (by decide)
      generalize bitAt l k = b at *
      have e1 : (x : Int) / 2 = ((x / 2 : Nat) : Int) := rfl
      have e2 : (x : Int) % 2 = ((x % 2 : Nat) : Int) := rfl
      have hx2 : x / 2 < 4294967296 := by omega
      have e3 : bits .xor .u32 ((x / 2 : Nat) : Int) 3988292384 = ((x / 2 ^^^ 3988292384 : Nat) : Int) := u32_xor_nat _ 3988292384 hx2 (by decide)
      by_cases hq : x % 2 = b
      · have HST2 : Hid (rowAt r l (k + 1) = x / 2) := by show _ = _; rw [HST.out]; unfold step; rw [if_neg (by simpa using hq)]
        have e4 : (((x % 2 : Nat) : Int) != (b : Int)) = false := by simp; omega
        clear hq
        generalize x / 2 = y at *
        generalize x % 2 = z at *
        go_wp2_with (go_at_call 47; refine (HB.out).mono ?_; rintro e w1 ⟨rfl, rfl⟩)
        go_roundg (8 * l.length - (k + 1))
        case measure => omega
        case rel => exact ⟨rfl, k + 1, rfl, hlt, by go_num, by rw [HST2.out]⟩
      · have HST2 : Hid (rowAt r l (k + 1) = x / 2 ^^^ 3988292384) := by show _ = _; rw [HST.out]; unfold step; rw [if_pos hq]
        have e4 : (((x % 2 : Nat) : Int) != (b : Int)) = true := by simp; omega
        clear hq
        generalize x / 2 = y at *
        generalize x % 2 = z at *
        go_wp2_with (go_at_call 47; refine (HB.out).mono ?_; rintro e w1 ⟨rfl, rfl⟩)
        go_roundg (8 * l.length - (k + 1))
        case measure => omega
        case rel => exact ⟨rfl, k + 1, rfl, hlt, by go_num, by rw [HST2.out]⟩
    · obtain rfl : k = 8 * l.length := by omega
      have hge : ¬ ((8 * l.length : Nat) : Int) < 8 * ((str l).size : Int) := by omega
      rw [HALL.out]
      have hrl := HREG.out
      have e5 : (4294967295 : Int) - ((Crc.reg r l : Nat) : Int) = ((Crc.join a l : Nat) : Int) := by
        rw [HJ.out, ← HN.out _ hrl]; omega
      generalize Crc.reg r l = y at *
      go_wp2
      go_ret
      exact ⟨rfl, rfl⟩
end Go.Proofs.Ytleljmijkncahaa

/- Walks of seal: Join, Sum; the law SealJoins. -/
import Derived.Test.YtleljmijkncahaaMade
set_option linter.unusedVariables false
set_option linter.unusedSimpArgs false
namespace Go.Proofs.Ytleljmijkncahaa
open Go.RowKit
/-- The sum of a text, as a number. -/
def sumB (s : ByteArray) : Nat := Crc.sum s.data.toList
def joinB (a : Nat) (s : ByteArray) : Nat := Crc.join a s.data.toList
theorem sumB_lt (s : ByteArray) : sumB s < 4294967296 := Crc.sum_lt _
theorem joinB_lt (a : Nat) (s : ByteArray) (h : a < 4294967296) : joinB a s < 4294967296 := Crc.join_lt _ _ h
theorem join_any (a : Int) (s : ByteArray) (w : World) (h0 : 0 ≤ a) (h1 : a < 4294967296) (hs : s.size ≤ maxLen) :
    Calls Try.prog 36 #[.int .u32 a, .string s] w fun e w' => e = .returned (.int .u32 ((joinB a.toNat s : Nat) : Int)) ∧ Below w.heap.size w w' := by
  obtain ⟨n, rfl⟩ := Int.eq_ofNat_of_zero_le h0
  have hn : n < 4294967296 := by omega
  have hx : n ^^^ 4294967295 < 4294967296 := Nat.xor_lt_two_pow (n := 32) hn (by decide)
  have hun1 := not_u32 n hn
  have hun2 := not_u32 (Crc.reg (n ^^^ 4294967295) s.data.toList) (Crc.reg_lt _ _ hx)
  have HS := Lib.hid hs
  clear hs
  go_enter Try.func36, Try.ntmps36
  go_wp2_with (first | (go_at_call 45; refine (made_any _).mono ?_; rintro e w1 ⟨rfl, hb1⟩) | (go_at_call 46; refine (through_any _ _ _ hx HS.out).mono ?_; rintro e w2 ⟨rfl, hb2⟩))
  go_ret
  exact ⟨rfl, bel_trans ‹Below w.heap.size w _› ‹_›⟩
theorem sum_any (s : ByteArray) (w : World) (hs : s.size ≤ maxLen) :
    Calls Try.prog 35 #[.string s] w fun e w' => e = .returned (.int .u32 ((sumB s : Nat) : Int)) ∧ Below w.heap.size w w' := by
  have HS := Lib.hid hs
  clear hs
  have e0 : joinB 0 s = sumB s := Crc.join_zero _
  go_enter Try.func35, Try.ntmps35
  go_wp2_with (go_at_call 36; refine (join_any _ _ _ (Int.le_refl _) (by decide) HS.out).mono ?_; rintro e w1 ⟨rfl, hb1⟩)
  go_ret
  exact ⟨rfl, ‹_›⟩
theorem awake2 (w : World) : Calls Try.prog 31 #[] w fun e w' => e = .returned (.bool true) ∧ Below w.heap.size w w' := by
  have e0 : (((sumB { data := #[49, 50, 51, 52, 53, 54, 55, 56, 57] } : Nat) : Int) == 3421780262) = true := by decide +kernel
  go_enter Try.func31, Try.ntmps31
  go_wp2_with (go_at_call 35; refine (sum_any _ _ (by decide)).mono ?_; rintro e w1 ⟨rfl, hb1⟩)
  go_ret
  exact ⟨rfl, ‹_›⟩
end Go.Proofs.Ytleljmijkncahaa

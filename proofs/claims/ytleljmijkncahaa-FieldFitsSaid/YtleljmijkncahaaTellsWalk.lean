/- The walks of the laws FieldTells and FieldFits. -/
import Derived.Test.YtleljmijkncahaaSignedWalk
set_option linter.unusedVariables false
set_option linter.unusedSimpArgs false
namespace Go.Proofs.Ytleljmijkncahaa
open Go.RowKit
theorem get_both (s : ByteArray) (at_ size : Int) (hs : s.size ≤ maxLen) : ∃ (x : Nat) (b : Bool),
    (∀ w, Calls Try.prog 18 #[.string s, .int .i64 at_, .int .i64 size] w fun e w' => e = .returned (.tuple #[.int .u64 (x : Int), .bool b]) ∧ w = w') ∧
    ∀ w, Calls Try.prog 27 #[.string s, .int .i64 at_, .int .i64 size] w fun e w' => e = .returned (.tuple #[.int .u64 (x : Int), .bool b]) ∧ Below w.heap.size w w' := by
  by_cases h : GetOk s.size at_ size
  · exact ⟨_, _, fun w => get_yes s at_ size w hs h, fun w => rget_yes s at_ size w hs h⟩
  · exact ⟨0, _, fun w => get_no s at_ size w hs h, fun w => (rget_no s at_ size w hs h).mono fun e w' ⟨h1, h2⟩ => ⟨h1, h2 ▸ Below.refl _ _⟩⟩
theorem tells_law (n m size at_ : Int) (s : ByteArray) (w : World) (hn : 0 ≤ n) (hn2 : n < 18446744073709551616) (hm : m < 9223372036854775808) (hs : s.size ≤ maxLen) :
    Calls Try.prog 9 #[.int .u64 n, .int .i64 m, .int .i64 size, .int .i64 at_, .string s] w fun e w' => e = .returned (.bool true) ∧ Below w.heap.size w w' := by
  by_cases hl : 2000 < (s.size : Int)
  · clear hs
    go_enter Try.func9, Try.ntmps9
    go_wp2_with (go_at_call 16; refine (awake1 _).mono ?_; rintro e w1 ⟨rfl, hb1⟩)
    go_ret
    exact ⟨rfl, hb1⟩
  · obtain ⟨x, b, h18, h27⟩ := get_both s at_ size hs
    obtain ⟨S, h17, h28⟩ : ∃ S : ByteArray, (∀ w, Calls Try.prog 17 #[.int .u64 n, .int .i64 size] w fun e w' => e = .returned (.string S) ∧ Below w.heap.size w w') ∧
        ∀ w, Calls Try.prog 28 #[.int .u64 n, .int .i64 size] w fun e w' => e = .returned (.string S) ∧ Below w.heap.size w w' := ⟨_, fun w => put_any n size w hn hn2, fun w => rput_any n size w hn hn2⟩
    obtain ⟨y, h26, h29⟩ : ∃ y : Int, (∀ w, Calls Try.prog 26 #[.int .u64 n, .int .i64 size] w fun e w' => e = .returned (.int .i64 y) ∧ w = w') ∧
        ∀ w, Calls Try.prog 29 #[.int .u64 n, .int .i64 size] w fun e w' => e = .returned (.int .i64 y) ∧ w = w' := ⟨_, fun w => signed_any n size w, fun w => rsigned_any n size w hn hn2⟩
    obtain ⟨z, h19, h30⟩ : ∃ z : Bool, (∀ w, Calls Try.prog 19 #[.int .i64 m, .int .i64 size] w fun e w' => e = .returned (.bool z) ∧ w = w') ∧
        ∀ w, Calls Try.prog 30 #[.int .i64 m, .int .i64 size] w fun e w' => e = .returned (.bool z) ∧ w = w' := ⟨_, fun w => fits_any m size w hm, fun w => rfits_any m size w hm⟩
    have H18 := Lib.hid h18
    have H27 := Lib.hid h27
    have H17 := Lib.hid h17
    have H28 := Lib.hid h28
    have H26 := Lib.hid h26
    have H29 := Lib.hid h29
    have H19 := Lib.hid h19
    have H30 := Lib.hid h30
    clear h18 h27 h17 h28 h26 h29 h19 h30 hs
    go_enter Try.func9, Try.ntmps9
    go_wp2_with (first
      | (go_at_call 16; refine (awake1 _).mono ?_; rintro e w1 ⟨rfl, hb1⟩)
      | (go_at_call 18; refine (H18.out _).mono ?_; rintro e w1 ⟨rfl, rfl⟩)
      | (go_at_call 27; refine (H27.out _).mono ?_; rintro e w1 ⟨rfl, hb2⟩)
      | (go_at_call 17; refine (H17.out _).mono ?_; rintro e w1 ⟨rfl, hb3⟩)
      | (go_at_call 28; refine (H28.out _).mono ?_; rintro e w1 ⟨rfl, hb4⟩)
      | (go_at_call 26; refine (H26.out _).mono ?_; rintro e w1 ⟨rfl, rfl⟩)
      | (go_at_call 29; refine (H29.out _).mono ?_; rintro e w1 ⟨rfl, rfl⟩)
      | (go_at_call 19; refine (H19.out _).mono ?_; rintro e w1 ⟨rfl, rfl⟩)
      | (go_at_call 30; refine (H30.out _).mono ?_; rintro e w1 ⟨rfl, rfl⟩))
    go_ret
    exact ⟨rfl, bel_trans (bel_trans (bel_trans hb1 hb2) hb3) hb4⟩
theorem fits_out (n size : Int) (w : World) (h : n < 0 ∨ size < 1 ∨ 8 < size) : Calls Try.prog 5 #[.int .i64 n, .int .i64 size] w fun e w' => e = .returned (.bool true) ∧ Below w.heap.size w w' := by
  by_cases h1 : n < 0
  · clear h
    go_enter Try.func5, Try.ntmps5
    go_wp2_with (go_at_call 16; refine (awake1 _).mono ?_; rintro e w1 ⟨rfl, hb1⟩)
    go_ret
    exact ⟨rfl, hb1⟩
  · by_cases h2 : size < 1
    · clear h
      go_enter Try.func5, Try.ntmps5
      go_wp2_with (go_at_call 16; refine (awake1 _).mono ?_; rintro e w1 ⟨rfl, hb1⟩)
      go_ret
      exact ⟨rfl, hb1⟩
    · have h3 : 8 < size := by omega
      clear h
      go_enter Try.func5, Try.ntmps5
      go_wp2_with (go_at_call 16; refine (awake1 _).mono ?_; rintro e w1 ⟨rfl, hb1⟩)
      go_ret
      exact ⟨rfl, hb1⟩
theorem fits_in (n size : Int) (w : World) (h0 : 0 ≤ n) (h3 : n < 9223372036854775808) (h1 : 1 ≤ size) (h2 : size ≤ 8) : Calls Try.prog 5 #[.int .i64 n, .int .i64 size] w fun e w' => e = .returned (.bool true) ∧ Below w.heap.size w w' := by
  have e0 : IntKind.u64.wrap n = n := by rw [IntKind.wrap_u64]; omega
  obtain ⟨S, hS, hp, hg⟩ := put_then_get n size h1 h2 (by omega) (by omega)
  have hf1 := fun w => fits_any n size w h3
  have hf2 := fun w => fits_any n (size + 1) w h3
  have hd : ∀ m : Int, 1 ≤ m → fitsB n m = decide (n.toNat < 256 ^ m.toNat) := by
    intro m hm
    unfold fitsB
    rw [if_neg (by omega), if_neg (by omega)]
    have h4 : ((256 ^ m.toNat : Nat) : Int) = 256 ^ m.toNat := by rw [Int.natCast_pow]; rfl
    rw [← h4]
    apply decide_eq_decide.2
    omega
  have HP := Lib.hid hp
  by_cases hlt : n.toNat < 256 ^ size.toNat
  · have hlt2 : n.toNat < 256 ^ (size + 1).toNat := Nat.lt_of_lt_of_le hlt (Nat.pow_le_pow_right (by decide) (by omega))
    simp only [hd size h1, decide_eq_true hlt] at hf1
    simp only [hd (size + 1) (by omega), decide_eq_true hlt2] at hf2
    rw [Nat.mod_eq_of_lt hlt, Int.toNat_of_nonneg h0] at hg
    have HG := Lib.hid hg
    have H1 := Lib.hid hf1
    have H2 := Lib.hid hf2
    clear hS hp hg hf1 hf2 hd hlt hlt2
    go_enter Try.func5, Try.ntmps5
    go_wp2_with (first
      | (go_at_call 16; refine (awake1 _).mono ?_; rintro e w1 ⟨rfl, hb1⟩)
      | (go_at_call 17; refine (HP.out _).mono ?_; rintro e w1 ⟨rfl, hb2⟩)
      | (go_at_call 18; refine (HG.out _).mono ?_; rintro e w1 ⟨rfl, rfl⟩)
      | (go_at_call 19; (with_reducible refine (H1.out _).mono ?_); rintro e w1 ⟨rfl, rfl⟩)
      | (go_at_call 19; (with_reducible refine (H2.out _).mono ?_); rintro e w1 ⟨rfl, rfl⟩))
    go_ret
    exact ⟨rfl, bel_trans hb1 hb2⟩
  · have hne : ((n.toNat % 256 ^ size.toNat : Nat) : Int) ≠ n := by
      intro he
      have := Nat.mod_lt n.toNat (Nat.pow_pos (n := size.toNat) (show 0 < 256 by decide))
      omega
    simp only [hd size h1, decide_eq_false hlt] at hf1
    generalize n.toNat % 256 ^ size.toNat = x at *
    have hz : ((x : Int) == n) = false := by simp; exact hne
    have HG := Lib.hid hg
    have H1 := Lib.hid hf1
    clear hS hp hg hf1 hf2 hd hlt hne
    go_enter Try.func5, Try.ntmps5
    go_wp2_with (first
      | (go_at_call 16; refine (awake1 _).mono ?_; rintro e w1 ⟨rfl, hb1⟩)
      | (go_at_call 17; refine (HP.out _).mono ?_; rintro e w1 ⟨rfl, hb2⟩)
      | (go_at_call 18; refine (HG.out _).mono ?_; rintro e w1 ⟨rfl, rfl⟩)
      | (go_at_call 19; (with_reducible refine (H1.out _).mono ?_); rintro e w1 ⟨rfl, rfl⟩))
    go_ret
    exact ⟨rfl, bel_trans hb1 hb2⟩
theorem fits_law (n size : Int) (w : World) (h3 : n < 9223372036854775808) : Calls Try.prog 5 #[.int .i64 n, .int .i64 size] w fun e w' => e = .returned (.bool true) ∧ Below w.heap.size w w' := by
  by_cases h : n < 0 ∨ size < 1 ∨ 8 < size
  · exact fits_out n size w h
  · exact fits_in n size w (by omega) h3 (by omega) (by omega)
end Go.Proofs.Ytleljmijkncahaa

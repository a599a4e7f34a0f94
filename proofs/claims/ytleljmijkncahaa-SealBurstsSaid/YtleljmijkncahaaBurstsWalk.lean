/- The walk of the law SealBursts. -/
import Derived.Test.YtleljmijkncahaaBitsWalk
set_option linter.unusedVariables false
set_option linter.unusedSimpArgs false
namespace Go.Proofs.Ytleljmijkncahaa
open Go.RowKit
theorem bit_fact (N k : Nat) (hN : N < 4294967296) (hk : k < 32) : bits .and .u32 ((N : Int) / 2 ^ k) 1 = ((N / 2 ^ k % 2 : Nat) : Int) := by
  have e : (N : Int) / 2 ^ k = ((N / 2 ^ k : Nat) : Int) := by rw [Int.natCast_ediv, Int.natCast_pow]; rfl
  have hl : N / 2 ^ k ≤ N := Nat.div_le_self _ _
  rw [e, show (1 : Int) = ((1 : Nat) : Int) from rfl, u32_and_nat _ 1 (by omega) (by decide), Nat.and_one_is_mod]
theorem burst_step (x : List UInt8) (p N k : Nat) : Crc.burst x p N (k + 1) = if N / 2 ^ k % 2 = 1 then Crc.turnI (Crc.burst x p N k) ((p : Int) + k) else Crc.burst x p N k := rfl
theorem bursts_out (s : ByteArray) (p N : Int) (w : World) (hs : s.size ≤ maxLen) (h : ∀ n : Nat, n = min s.size 2000 → N = 0 ∨ p < 0 ∨ 8 * ((n : Int) + 4) ≤ p) :
    Calls Try.prog 12 #[.string s, .int .i64 p, .int .u32 N] w fun e w' => e = .returned (.bool true) ∧ Below w.heap.size w w' := by
  unfold maxLen at hs
  obtain ⟨n, hn⟩ : ∃ n : Nat, n = min s.size 2000 := ⟨_, rfl⟩
  have hmin : ∀ w, (Builtin.min_ #[3, 3] 3 #[.int .i64 (s.size : Int), .int .i64 2000]).run Try.prog w = .ok (.int .i64 (n : Int)) w := by
    intro w
    rw [run_min2]
    congr 2; omega
  have hd := h n hn
  have g1 : n ≤ s.size := by omega
  have g2 : n ≤ 2000 := by omega
  have ext := str_extract s n
  have hl : (s.data.toList.take n).length = n := by rw [List.length_take]; simp; omega
  clear h hn
  generalize s.data.toList.take n = l at *
  have zx : (str (sealL l)).size = n + 4 := by rw [str_size, sealL_length, hl]
  have HS := Lib.hid (fun w => seal_any l w (by omega))
  clear hl
  generalize str (sealL l) = X at *
  generalize str l = L at *
  by_cases h1 : N = 0
  · subst h1
    clear hd
    go_enter Try.func12, Try.ntmps12
    go_wp2_with (first
      | (go_at_call 31; refine (awake2 _).mono ?_; rintro e w1 ⟨rfl, hb1⟩)
      | (go_at_call 33; (with_reducible refine (HS.out _).mono ?_); rintro e w2 ⟨rfl, hb2⟩))
    go_ret
    exact ⟨by simp <;> omega, bel_trans hb1 hb2⟩
  · by_cases h2 : p < 0
    · clear hd
      have h1' : (N == 0) = false := by simpa using h1
      clear h1
      go_enter Try.func12, Try.ntmps12
      go_wp2_with (first
        | (go_at_call 31; refine (awake2 _).mono ?_; rintro e w1 ⟨rfl, hb1⟩)
        | (go_at_call 33; (with_reducible refine (HS.out _).mono ?_); rintro e w2 ⟨rfl, hb2⟩))
      go_ret
      exact ⟨by simp <;> omega, bel_trans hb1 hb2⟩
    · have h3 : 8 * ((n : Int) + 4) ≤ p := by omega
      clear hd
      have h1' : (N == 0) = false := by simpa using h1
      clear h1
      go_enter Try.func12, Try.ntmps12
      go_wp2_with (first
        | (go_at_call 31; refine (awake2 _).mono ?_; rintro e w1 ⟨rfl, hb1⟩)
        | (go_at_call 33; (with_reducible refine (HS.out _).mono ?_); rintro e w2 ⟨rfl, hb2⟩))
      go_ret
      exact ⟨by simp <;> omega, bel_trans hb1 hb2⟩
set_option maxHeartbeats 400000 in
theorem bursts_in (s : ByteArray) (p N n : Nat) (w : World) (hs : s.size ≤ maxLen) (hn : n = min s.size 2000) (hN : N < 4294967296) (h0 : N ≠ 0) (hp : p < 8 * (n + 4)) :
    Calls Try.prog 12 #[.string s, .int .i64 (p : Int), .int .u32 (N : Int)] w fun e w' => e = .returned (.bool true) ∧ Below w.heap.size w w' := by
  unfold maxLen at hs
  have hmin : ∀ w, (Builtin.min_ #[3, 3] 3 #[.int .i64 (s.size : Int), .int .i64 2000]).run Try.prog w = .ok (.int .i64 (n : Int)) w := by
    intro w
    rw [run_min2]
    congr 2; omega
  have g1 : n ≤ s.size := by omega
  have g2 : n ≤ 2000 := by omega
  have ext := str_extract s n
  have hl : (s.data.toList.take n).length = n := by rw [List.length_take]; simp; omega
  clear hn
  generalize s.data.toList.take n = l at *
  have zx : (str (sealL l)).size = n + 4 := by rw [str_size, sealL_length, hl]
  have HS := Lib.hid (fun w => seal_any l w (by omega))
  have hx : (sealL l).length = n + 4 := by rw [sealL_length, hl]
  have hsx : Crc.Sealed (sealL l) := Crc.sealed_seal l
  have HIFF := Lib.hid (Crc.sealed_burst hsx p N (by rw [hx]; exact hp))
  have HSX := Lib.hid hsx
  generalize sealL l = xl at *
  have HX := Lib.hid hx
  generalize str l = L at *
  have h0' : ((N : Int) == 0) = false := by simpa using h0
  have hp2 : ¬ 8 * ((n : Int) + 4) ≤ (p : Int) := by omega
  clear hl hx hsx h0
  generalize hX : str xl = X at *
  go_enter Try.func12, Try.ntmps12
  go_wp2_with (first
    | (go_at_call 31; refine (awake2 _).mono ?_; rintro e w1 ⟨rfl, hb1⟩)
    | (go_at_call 33; (with_reducible refine (HS.out _).mono ?_); rintro e w2 ⟨rfl, hb2⟩))
  have HB2 := Lib.hid (bel_trans hb1 hb2)
  clear hb1 hb2 hmin
  go_loopg [8, 9] 32 (fun gk a b wr => ∃ k : Nat, gk = 32 - k ∧ k ≤ 32 ∧ b = .int .i64 (k : Int) ∧ a = .string (str (Crc.burst xl p N k)) ∧ Below w.heap.size w wr)
  case atStart => exact ⟨0, rfl, by decide, rfl, by rw [← hX]; rfl, HB2.out⟩
  case round =>
    obtain ⟨k, rfl, hk, rfl, rfl, hbel⟩ := hrel
    have HB := Lib.hid hbel
    clear hbel
    by_cases hlt : k < 32
    · have e1 := bit_fact N k hN hlt
      have HT := Lib.hid (fun w => turn_any (Crc.burst xl p N k) ((p : Int) + k) w (by rw [Crc.burst_length, HX.out]; omega))
      have HST := Lib.hid (burst_step xl p N k)
      have hpk : (p : Int) + k ≤ 20000 := by omega
      by_cases hbit : N / 2 ^ k % 2 = 1
      · rw [if_pos hbit] at HST
        rw [hbit] at e1
        rw [← HST.out] at HT
        clear hbit
        generalize str (Crc.burst xl p N k) = S at *
        go_wp2_with (go_at_call 34; (with_reducible refine (HT.out _).mono ?_); rintro e w3 ⟨rfl, hb3⟩)
        go_roundg (32 - (k + 1))
        case measure => omega
        case rel => exact ⟨k + 1, rfl, hlt, by go_num, rfl, bel_trans HB.out hb3⟩
      · rw [if_neg hbit] at HST
        have hb0 : N / 2 ^ k % 2 = 0 := by omega
        rw [hb0] at e1
        rw [← HST.out]
        clear hbit hb0
        go_wp2
        go_roundg (32 - (k + 1))
        case measure => omega
        case rel => exact ⟨k + 1, rfl, hlt, by go_num, rfl, HB.out⟩
    · obtain rfl : k = 32 := by omega
      have hyl : (Crc.burst xl p N 32).length ≤ 4000 := by rw [Crc.burst_length, HX.out]; omega
      by_cases hq : Crc.burst xl p N 32 = xl
      · have HO := Lib.hid (fun w => open_any (Crc.burst xl p N 32) w hyl)
        rw [decide_eq_true (HIFF.out.2 hq), hq, hX] at HO
        rw [hq, hX]
        clear hq hyl
        generalize str (openL xl) = T at *
        go_wp2_with (go_at_call 32; (with_reducible refine (HO.out _).mono ?_); rintro e w3 ⟨rfl, hb3⟩)
        go_ret
        exact ⟨rfl, bel_trans HB.out hb3⟩
      · have HO := Lib.hid (fun w => open_no (Crc.burst xl p N 32) w hyl (fun h => hq (HIFF.out.1 h)))
        have hne : ¬ str (Crc.burst xl p N 32) = X := fun h => hq (str_inj (by rw [h, hX]))
        have hne2 := bytes_ne hne
        have he : (str []).toList.isEmpty = true := by rw [ByteArray.toList_eq]; rfl
        clear hq hyl hne
        generalize str [] = T at *
        generalize str (Crc.burst xl p N 32) = S at *
        go_wp2_with (go_at_call 32; (with_reducible refine (HO.out _).mono ?_); rintro e w3 ⟨rfl, hb3⟩)
        go_ret
        exact ⟨rfl, bel_trans HB.out hb3⟩
theorem bursts_law (s : ByteArray) (p N : Int) (w : World) (hs : s.size ≤ maxLen) (h0 : 0 ≤ N) (h1 : N ≤ 4294967295) :
    Calls Try.prog 12 #[.string s, .int .i64 p, .int .u32 N] w fun e w' => e = .returned (.bool true) ∧ Below w.heap.size w w' := by
  by_cases h : N = 0 ∨ p < 0 ∨ 8 * (((min s.size 2000 : Nat) : Int) + 4) ≤ p
  · exact bursts_out s p N w hs (fun n hn => by rw [hn]; exact h)
  · obtain ⟨q, rfl⟩ := Int.eq_ofNat_of_zero_le (show 0 ≤ p by omega)
    obtain ⟨M, rfl⟩ := Int.eq_ofNat_of_zero_le h0
    exact bursts_in s q M (min s.size 2000) w hs rfl (by omega) (by omega) (by omega)
end Go.Proofs.Ytleljmijkncahaa

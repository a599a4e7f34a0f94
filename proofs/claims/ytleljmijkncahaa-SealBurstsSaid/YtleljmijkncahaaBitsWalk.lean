/- The walk of the law SealBits. -/
import Derived.Test.YtleljmijkncahaaSealTurn
set_option linter.unusedVariables false
set_option linter.unusedSimpArgs false
namespace Go.Proofs.Ytleljmijkncahaa
open Go.RowKit
theorem turn_any (l : List UInt8) (k : Int) (w : World) (hl : l.length ≤ 4000) :
    Calls Try.prog 34 #[.string (str l), .int .i64 k] w fun e w' => e = .returned (.string (str (Crc.turnI l k))) ∧ Below w.heap.size w w' := by
  unfold Crc.turnI
  by_cases h : 0 ≤ k ∧ k < 8 * (l.length : Int)
  · rw [if_pos h]
    obtain ⟨m, rfl⟩ := Int.eq_ofNat_of_zero_le h.1
    exact turn_in l m w hl (by omega)
  · rw [if_neg h]
    exact turn_out l k w hl (by omega)
theorem run_min2 {P : Program} (w : World) (ts : Array TypeId) (t : TypeId) (x y : Int) : (Builtin.min_ ts t #[.int .i64 x, .int .i64 y]).run P w = .ok (.int .i64 (min x y)) w := by
  simp only [Int.min_def]
  simp [Builtin.min_, Builtin.min2]
  repeat' split
  all_goals omega
theorem str_extract (s : ByteArray) (n : Nat) : s.extract 0 n = str (s.data.toList.take n) := by
  rw [← str_take', str_list]
theorem bits_law (s : ByteArray) (a b c : Int) (w : World) (hs : s.size ≤ maxLen) :
    Calls Try.prog 11 #[.string s, .int .i64 a, .int .i64 b, .int .i64 c] w fun e w' => e = .returned (.bool true) ∧ Below w.heap.size w w' := by
  unfold maxLen at hs
  obtain ⟨n, hn⟩ : ∃ n : Nat, n = min s.size 996 := ⟨_, rfl⟩
  have hmin : ∀ w, (Builtin.min_ #[3, 3] 3 #[.int .i64 (s.size : Int), .int .i64 996]).run Try.prog w = .ok (.int .i64 (n : Int)) w := by
    intro w
    rw [run_min2]
    congr 2; omega
  have g1 : n ≤ s.size := by omega
  have g2 : n ≤ 996 := by omega
  clear hn
  have ext := str_extract s n
  have hl : (s.data.toList.take n).length ≤ 996 := by rw [List.length_take]; omega
  generalize s.data.toList.take n = l at *
  have hx : (sealL l).length ≤ 1000 := by rw [sealL_length]; omega
  have hsx : Crc.Sealed (sealL l) := Crc.sealed_seal l
  have HS := Lib.hid (fun w => seal_any l w (by omega))
  have HA := Lib.hid (fun w => turn_any (sealL l) a w (by omega))
  have HB := Lib.hid (fun w => turn_any (Crc.turnI (sealL l) a) b w (by rw [Crc.turnI_length]; omega))
  have HC := Lib.hid (fun w => turn_any (Crc.turnI (Crc.turnI (sealL l) a) b) c w (by rw [Crc.turnI_length, Crc.turnI_length]; omega))
  have hiff := Crc.sealed_bits hsx hx a b c
  have hyl : (Crc.turnI (Crc.turnI (Crc.turnI (sealL l) a) b) c).length ≤ 4000 := by rw [Crc.turnI_length, Crc.turnI_length, Crc.turnI_length]; omega
  by_cases hq : Crc.turnI (Crc.turnI (Crc.turnI (sealL l) a) b) c = sealL l
  · have HO := Lib.hid (fun w => open_any _ w hyl)
    rw [decide_eq_true (hiff.2 hq)] at HO
    rw [hq] at HC HO
    clear hiff hq hsx
    generalize str (openL (sealL l)) = T at *
    generalize str (Crc.turnI (Crc.turnI (sealL l) a) b) = R2 at *
    generalize str (Crc.turnI (sealL l) a) = R1 at *
    generalize str (sealL l) = X at *
    generalize str l = L at *
    go_enter Try.func11, Try.ntmps11
    go_wp2_with (first
      | (go_at_call 31; refine (awake2 _).mono ?_; rintro e w1 ⟨rfl, hb1⟩)
      | (go_at_call 33; (with_reducible refine (HS.out _).mono ?_); rintro e w2 ⟨rfl, hb2⟩)
      | (go_at_call 34; (with_reducible refine (HA.out _).mono ?_); rintro e w3 ⟨rfl, hb3⟩)
      | (go_at_call 34; (with_reducible refine (HB.out _).mono ?_); rintro e w4 ⟨rfl, hb4⟩)
      | (go_at_call 34; (with_reducible refine (HC.out _).mono ?_); rintro e w5 ⟨rfl, hb5⟩)
      | (go_at_call 32; (with_reducible refine (HO.out _).mono ?_); rintro e w6 ⟨rfl, hb6⟩))
    go_ret
    exact ⟨rfl, bel_trans hb1 (bel_trans hb2 (bel_trans hb3 (bel_trans hb4 (bel_trans hb5 hb6))))⟩
  · have HO := Lib.hid (fun w => open_no _ w hyl (fun h => hq (hiff.1 h)))
    have hne : ¬ str (Crc.turnI (Crc.turnI (Crc.turnI (sealL l) a) b) c) = str (sealL l) := fun h => hq (str_inj h)
    have hne2 := bytes_ne hne
    clear hiff hq hsx hne
    generalize str (Crc.turnI (Crc.turnI (Crc.turnI (sealL l) a) b) c) = R3 at *
    generalize str (Crc.turnI (Crc.turnI (sealL l) a) b) = R2 at *
    generalize str (Crc.turnI (sealL l) a) = R1 at *
    generalize str (sealL l) = X at *
    generalize str l = L at *
    go_enter Try.func11, Try.ntmps11
    go_wp2_with (first
      | (go_at_call 31; refine (awake2 _).mono ?_; rintro e w1 ⟨rfl, hb1⟩)
      | (go_at_call 33; (with_reducible refine (HS.out _).mono ?_); rintro e w2 ⟨rfl, hb2⟩)
      | (go_at_call 34; (with_reducible refine (HA.out _).mono ?_); rintro e w3 ⟨rfl, hb3⟩)
      | (go_at_call 34; (with_reducible refine (HB.out _).mono ?_); rintro e w4 ⟨rfl, hb4⟩)
      | (go_at_call 34; (with_reducible refine (HC.out _).mono ?_); rintro e w5 ⟨rfl, hb5⟩)
      | (go_at_call 32; (with_reducible refine (HO.out _).mono ?_); rintro e w6 ⟨rfl, hb6⟩))
    go_ret
    exact ⟨rfl, bel_trans hb1 (bel_trans hb2 (bel_trans hb3 (bel_trans hb4 (bel_trans hb5 hb6))))⟩
end Go.Proofs.Ytleljmijkncahaa

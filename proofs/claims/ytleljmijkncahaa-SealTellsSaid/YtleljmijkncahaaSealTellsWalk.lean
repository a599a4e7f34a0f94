/- The walk of the law SealTells. -/
import Derived.Test.YtleljmijkncahaaSealRef
set_option linter.unusedVariables false
set_option linter.unusedSimpArgs false
namespace Go.Proofs.Ytleljmijkncahaa
open Go.RowKit
theorem rsum_any (l : List UInt8) (w : World) (hl : l.length ≤ 4000) :
    Calls Try.prog 38 #[.string (str l)] w fun e w' => e = .returned (.int .u32 ((Crc.sum l : Nat) : Int)) ∧ w = w' := by
  have HJ := Lib.hid (fun w => rjoin_any 0 l w (by decide) hl)
  rw [Crc.join_zero] at HJ
  go_enter Try.func38, Try.ntmps38
  go_wp2_with (go_at_call 39; refine (HJ.out _).mono ?_; rintro e w1 ⟨rfl, rfl⟩)
  go_ret
  exact ⟨rfl, rfl⟩
theorem rseal_any (l : List UInt8) (w : World) (hl : l.length ≤ 4000) :
    Calls Try.prog 40 #[.string (str l)] w fun e w' => e = .returned (.string (str (sealL l))) ∧ Below w.heap.size w w' := by
  have HS := Lib.hid (fun w => rsum_any l w hl)
  have hlt := Crc.sum_lt l
  have z1 : (str l).size ≤ 4000 := by rw [str_size]; exact hl
  have had : str l ++ str (Crc.put (Crc.sum l) 4) = str (sealL l) := str_append _ _
  have HP : Hid (∀ w, Calls Try.prog 28 #[.int .u64 ((Crc.sum l : Nat) : Int), .int .i64 4] w fun e w' => e = .returned (.string (str (Crc.put (Crc.sum l) 4))) ∧ Below w.heap.size w w') := fun w =>
    rput_any _ 4 w (Int.natCast_nonneg _) (by omega)
  have z2 : (str (Crc.put (Crc.sum l) 4)).size ≤ 4 := by rw [str_size, Crc.put_length]; exact Nat.le_refl _
  have e0 : IntKind.u64.wrap ((Crc.sum l : Nat) : Int) = ((Crc.sum l : Nat) : Int) := by rw [IntKind.wrap_u64]; omega
  generalize str (Crc.put (Crc.sum l) 4) = S at *
  generalize Crc.sum l = x at *
  go_enter Try.func40, Try.ntmps40
  go_wp2_with (first
    | (go_at_call 38; refine (HS.out _).mono ?_; rintro e w1 ⟨rfl, rfl⟩)
    | (go_at_call 28; refine (HP.out _).mono ?_; rintro e w2 ⟨rfl, hb2⟩))
  go_ret
  exact ⟨rfl, hb2⟩
theorem str_drop' (m : List UInt8) (n : Nat) (h : n ≤ m.length) : (str m).extract n (str m).size = str (m.drop n) := by
  apply ByteArray.ext
  rw [str_size]
  simp only [str, ByteArray.data_extract, List.extract_toArray]
  rw [List.extract_eq_take_drop, List.take_of_length_le (by simp)]
theorem ropen_any (l : List UInt8) (w : World) (hl : l.length ≤ 4000) :
    Calls Try.prog 37 #[.string (str l)] w fun e w' => e = .returned (.tuple #[.string (str (openL l)), .bool (decide (Crc.Sealed l))]) ∧ Below w.heap.size w w' := by
  by_cases h4 : l.length < 4
  · have hn : ¬ Crc.Sealed l := fun h => by have := h.1; omega
    have eo : openL l = [] := if_neg hn
    have ed : decide (Crc.Sealed l) = false := by simp [hn]
    rw [eo, ed]
    have z1 : (str l).size < 4 := by rw [str_size]; exact h4
    clear hn eo ed h4 hl
    have h0 : ((str l).size : Int) < 4 := by omega
    go_enter Try.func37, Try.ntmps37
    go_wp2
    go_ret2
    exact ⟨rfl, Below.refl _ _⟩
  · obtain ⟨p, hp⟩ : ∃ p, l.length = p + 4 := ⟨l.length - 4, by omega⟩
    have zs : (str l).size = p + 4 := by rw [str_size]; exact hp
    have t1 := str_take' l p
    have t2 := str_drop' l p (by omega)
    rw [zs] at t2
    have hb : (l.drop p).length = 4 := by rw [List.length_drop]; omega
    have hsd := Crc.sealed_of (l.take p) (l.drop p) hb
    rw [List.take_append_drop] at hsd
    have HS : Hid (∀ w, Calls Try.prog 38 #[.string (str (l.take p))] w fun e w' => e = .returned (.int .u32 ((Crc.sum (l.take p) : Nat) : Int)) ∧ w = w') := fun w =>
      rsum_any (l.take p) w (by rw [List.length_take]; omega)
    have HV : Hid (∀ w, Calls Try.prog 43 #[.string (str (l.drop p))] w fun e w' => e = .returned (.int .u64 ((Crc.value (l.drop p) : Nat) : Int)) ∧ Below w.heap.size w w') := fun w =>
      value_any (str (l.drop p)) w (by rw [str_size, hb]; decide)
    have hs1 := Crc.sum_lt (l.take p)
    have e0 : IntKind.u64.wrap ((Crc.sum (l.take p) : Nat) : Int) = ((Crc.sum (l.take p) : Nat) : Int) := by rw [IntKind.wrap_u64]; omega
    by_cases hq : Crc.Sealed l
    · have eo : openL l = l.take p := by unfold openL; rw [if_pos hq, hp]; simp
      have ed : decide (Crc.Sealed l) = true := by simp [hq]
      rw [eo, ed]
      rw [hsd.1 hq] at HV
      clear hsd hq eo ed h4
      generalize Crc.sum (l.take p) = x at *
      generalize str (l.take p) = T at *
      generalize str (l.drop p) = D at *
      generalize str l = S at *
      go_enter Try.func37, Try.ntmps37
      go_wp2_with (first
        | (go_at_call 43; refine (HV.out _).mono ?_; rintro e w1 ⟨rfl, hb1⟩)
        | (go_at_call 38; refine (HS.out _).mono ?_; rintro e w2 ⟨rfl, rfl⟩))
      go_ret2
      exact ⟨rfl, hb1⟩
    · have eo : openL l = [] := if_neg hq
      have ed : decide (Crc.Sealed l) = false := by simp [hq]
      rw [eo, ed]
      have hne : Crc.value (l.drop p) ≠ Crc.sum (l.take p) := fun h => hq (hsd.2 h)
      clear hsd hq eo ed h4
      generalize Crc.sum (l.take p) = x at *
      generalize Crc.value (l.drop p) = y at *
      have hne2 : ((y : Int) == (x : Int)) = false := by simp; omega
      have hne3 : ((y : Int) != (x : Int)) = true := by simp; omega
      clear hne
      generalize str (l.take p) = T at *
      generalize str (l.drop p) = D at *
      generalize str l = S at *
      go_enter Try.func37, Try.ntmps37
      go_wp2_with (first
        | (go_at_call 43; refine (HV.out _).mono ?_; rintro e w1 ⟨rfl, hb1⟩)
        | (go_at_call 38; refine (HS.out _).mono ?_; rintro e w2 ⟨rfl, rfl⟩))
      go_ret2
      exact ⟨rfl, hb1⟩
theorem tells_great (s t : ByteArray) (a : Int) (w : World) (h : 2000 < (s.size : Int) ∨ 2000 < (t.size : Int)) :
    Calls Try.prog 14 #[.string s, .string t, .int .u32 a] w fun e w' => e = .returned (.bool true) ∧ Below w.heap.size w w' := by
  by_cases h1 : 2000 < (s.size : Int)
  · clear h
    go_enter Try.func14, Try.ntmps14
    go_wp2_with (go_at_call 31; refine (awake2 _).mono ?_; rintro e w1 ⟨rfl, hb1⟩)
    go_ret
    exact ⟨rfl, hb1⟩
  · have h2 : 2000 < (t.size : Int) := by omega
    clear h
    go_enter Try.func14, Try.ntmps14
    go_wp2_with (go_at_call 31; refine (awake2 _).mono ?_; rintro e w1 ⟨rfl, hb1⟩)
    go_ret
    exact ⟨rfl, hb1⟩
theorem stells_law (s t : ByteArray) (a : Int) (w : World) (ha : 0 ≤ a) (ha2 : a ≤ 4294967295) :
    Calls Try.prog 14 #[.string s, .string t, .int .u32 a] w fun e w' => e = .returned (.bool true) ∧ Below w.heap.size w w' := by
  by_cases h : 2000 < (s.size : Int) ∨ 2000 < (t.size : Int)
  · exact tells_great s t a w h
  have g1 : ¬ 2000 < (s.size : Int) := by omega
  have g2 : ¬ 2000 < (t.size : Int) := by omega
  clear h
  obtain ⟨n, rfl⟩ := Int.eq_ofNat_of_zero_le ha
  have l1 : s.data.toList.length ≤ 2000 := by simp; omega
  have l2 : t.data.toList.length ≤ 2000 := by simp; omega
  obtain ⟨l, rfl⟩ : ∃ l, s = str l := ⟨s.data.toList, (str_list s).symm⟩
  obtain ⟨m, rfl⟩ : ∃ m, t = str m := ⟨t.data.toList, (str_list t).symm⟩
  rw [str_data] at l1 l2
  have hadd : str l ++ str m = str (l ++ m) := str_append l m
  have zl : (str l).size ≤ 2000 := by omega
  have zm : (str m).size ≤ 2000 := by omega
  have zlm : (str (l ++ m)).size ≤ maxLen := by rw [str_size, List.length_append]; simp only [maxLen]; omega
  have HO := Lib.hid (fun w => open_any m w (by omega))
  have HRO := Lib.hid (fun w => ropen_any m w (by omega))
  have HS := Lib.hid (fun w => sum_any (str l) w (by simp only [maxLen]; omega))
  rw [show sumB (str l) = Crc.sum l from rfl] at HS
  have HRS := Lib.hid (fun w => rsum_any l w (by omega))
  have HJ := Lib.hid (fun w => join_any (n : Int) (str m) w ha (by omega) (by simp only [maxLen]; omega))
  rw [show joinB (n : Int).toNat (str m) = Crc.join n m from rfl] at HJ
  have HRJ := Lib.hid (fun w => rjoin_any n m w (by omega) (by omega))
  have HJS := Lib.hid (fun w => join_any ((Crc.sum l : Nat) : Int) (str m) w (Int.natCast_nonneg _) (by have := Crc.sum_lt l; omega) (by simp only [maxLen]; omega))
  rw [show joinB ((Crc.sum l : Nat) : Int).toNat (str m) = Crc.sum (l ++ m) from Crc.join_sum l m] at HJS
  have HSA := Lib.hid (fun w => sum_any (str (l ++ m)) w zlm)
  rw [show sumB (str (l ++ m)) = Crc.sum (l ++ m) from rfl] at HSA
  have HE := Lib.hid (fun w => seal_any l w (by omega))
  have HRE := Lib.hid (fun w => rseal_any l w (by omega))
  generalize decide (Crc.Sealed m) = b at *
  generalize str (openL m) = P at *
  generalize str (sealL l) = X at *
  generalize str (l ++ m) = LM at *
  generalize str l = L at *
  generalize str m = M at *
  generalize Crc.sum (l ++ m) = slm at *
  generalize Crc.sum l = sl at *
  generalize Crc.join n m = jnm at *
  go_enter Try.func14, Try.ntmps14
  go_wp2_with (first
    | (go_at_call 31; refine (awake2 _).mono ?_; rintro e w1 ⟨rfl, hb1⟩)
    | (go_at_call 32; refine (HO.out _).mono ?_; rintro e w2 ⟨rfl, hb2⟩)
    | (go_at_call 37; refine (HRO.out _).mono ?_; rintro e w3 ⟨rfl, hb3⟩)
    | (go_at_call 35; (with_reducible refine (HS.out _).mono ?_); rintro e w4 ⟨rfl, hb4⟩)
    | (go_at_call 38; (with_reducible refine (HRS.out _).mono ?_); rintro e w5 ⟨rfl, rfl⟩)
    | (go_at_call 36; (with_reducible refine (HJ.out _).mono ?_); rintro e w6 ⟨rfl, hb6⟩)
    | (go_at_call 39; (with_reducible refine (HRJ.out _).mono ?_); rintro e w7 ⟨rfl, rfl⟩)
    | (go_at_call 36; (with_reducible refine (HJS.out _).mono ?_); rintro e w8 ⟨rfl, hb8⟩)
    | (go_at_call 35; (with_reducible refine (HSA.out _).mono ?_); rintro e w9 ⟨rfl, hb9⟩)
    | (go_at_call 33; (with_reducible refine (HE.out _).mono ?_); rintro e w10 ⟨rfl, hb10⟩)
    | (go_at_call 40; (with_reducible refine (HRE.out _).mono ?_); rintro e w11 ⟨rfl, hb11⟩))
  go_ret
  exact ⟨by simp, by (repeat (first | assumption | (refine bel_trans ?_ ‹_›)))⟩
end Go.Proofs.Ytleljmijkncahaa

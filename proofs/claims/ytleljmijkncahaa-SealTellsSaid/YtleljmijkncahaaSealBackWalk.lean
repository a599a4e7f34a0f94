/- The walk of the law SealBack. -/
import Derived.Test.YtleljmijkncahaaSeal
set_option linter.unusedVariables false
set_option linter.unusedSimpArgs false
namespace Go.Proofs.Ytleljmijkncahaa
open Go.RowKit
theorem sback_great (s t : ByteArray) (w : World) (h : 2000 < (s.size : Int) ∨ 2000 < (t.size : Int)) :
    Calls Try.prog 10 #[.string s, .string t] w fun e w' => e = .returned (.bool true) ∧ Below w.heap.size w w' := by
  by_cases h1 : 2000 < (s.size : Int)
  · clear h
    go_enter Try.func10, Try.ntmps10
    go_wp2_with (go_at_call 31; refine (awake2 _).mono ?_; rintro e w1 ⟨rfl, hb1⟩)
    go_ret
    exact ⟨rfl, hb1⟩
  · have h2 : 2000 < (t.size : Int) := by omega
    clear h
    go_enter Try.func10, Try.ntmps10
    go_wp2_with (go_at_call 31; refine (awake2 _).mono ?_; rintro e w1 ⟨rfl, hb1⟩)
    go_ret
    exact ⟨rfl, hb1⟩
theorem open_seal (l : List UInt8) (w : World) (hl : l.length ≤ 2000) :
    Calls Try.prog 32 #[.string (str (sealL l))] w fun e w' => e = .returned (.tuple #[.string (str l), .bool true]) ∧ Below w.heap.size w w' := by
  have h1 : Crc.Sealed (sealL l) := Crc.sealed_seal l
  have h2 : openL (sealL l) = l := by
    unfold openL
    rw [if_pos h1, sealL_length, Nat.add_sub_cancel]
    exact List.take_left' rfl
  have := open_any (sealL l) w (by rw [sealL_length]; omega)
  rwa [h2, decide_eq_true h1] at this
theorem open_no (l : List UInt8) (w : World) (hl : l.length ≤ 4000) (h : ¬ Crc.Sealed l) :
    Calls Try.prog 32 #[.string (str l)] w fun e w' => e = .returned (.tuple #[.string (str []), .bool false]) ∧ Below w.heap.size w w' := by
  have h2 : openL l = [] := if_neg h
  have := open_any l w hl
  rwa [h2, decide_eq_false h] at this
theorem open_yes (l : List UInt8) (p : Nat) (w : World) (hl : l.length ≤ 4000) (hp : l.length = p + 4) (h : Crc.Sealed l) :
    Calls Try.prog 32 #[.string (str l)] w fun e w' => e = .returned (.tuple #[.string (str (l.take p)), .bool true]) ∧ Below w.heap.size w w' := by
  have h2 : openL l = l.take p := by unfold openL; rw [if_pos h, hp]; simp
  have := open_any l w hl
  rwa [h2, decide_eq_true h] at this
theorem sback_law (s t : ByteArray) (w : World) : Calls Try.prog 10 #[.string s, .string t] w fun e w' => e = .returned (.bool true) ∧ Below w.heap.size w w' := by
  by_cases h : 2000 < (s.size : Int) ∨ 2000 < (t.size : Int)
  · exact sback_great s t w h
  have g1 : ¬ 2000 < (s.size : Int) := by omega
  have g2 : ¬ 2000 < (t.size : Int) := by omega
  clear h
  have l1 : s.data.toList.length ≤ 2000 := by simp; omega
  have l2 : t.data.toList.length ≤ 2000 := by simp; omega
  have HS := Lib.hid (fun w => seal_any s.data.toList w (by omega))
  have HO := Lib.hid (fun w => open_seal s.data.toList w l1)
  rw [str_list] at HS HO
  generalize str (sealL s.data.toList) = S at *
  by_cases hq : Crc.Sealed t.data.toList
  · obtain ⟨p, hp⟩ : ∃ p, t.data.toList.length = p + 4 := ⟨t.data.toList.length - 4, by have := hq.1; omega⟩
    have HT := Lib.hid (fun w => open_yes t.data.toList p w (by omega) hp hq)
    have HU := Lib.hid (fun w => seal_any (t.data.toList.take p) w (by rw [List.length_take]; omega))
    rw [(sealed_iff _ p hp).2 hq] at HU
    have zy : (str (t.data.toList.take p)).size = p := by rw [str_size, List.length_take]; omega
    have zt : t.size = p + 4 := by rw [← hp]; simp
    rw [str_list] at HT HU
    clear hq hp l1 l2
    generalize str (t.data.toList.take p) = Y at *
    go_enter Try.func10, Try.ntmps10
    go_wp2_with (first
      | (go_at_call 31; refine (awake2 _).mono ?_; rintro e w1 ⟨rfl, hb1⟩)
      | (go_at_call 33; (with_reducible refine (HS.out _).mono ?_); rintro e w2 ⟨rfl, hb2⟩)
      | (go_at_call 32; (with_reducible refine (HO.out _).mono ?_); rintro e w3 ⟨rfl, hb3⟩)
      | (go_at_call 32; (with_reducible refine (HT.out _).mono ?_); rintro e w4 ⟨rfl, hb4⟩)
      | (go_at_call 33; (with_reducible refine (HU.out _).mono ?_); rintro e w5 ⟨rfl, hb5⟩))
    go_ret
    exact ⟨rfl, bel_trans hb1 (bel_trans hb2 (bel_trans hb3 (bel_trans hb4 hb5)))⟩
  · have HT := Lib.hid (fun w => open_no t.data.toList w (by omega) hq)
    rw [str_list] at HT
    have he : (str []).toList.isEmpty = true := by rw [ByteArray.toList_eq]; rfl
    clear hq l1 l2
    generalize str [] = Y at *
    go_enter Try.func10, Try.ntmps10
    go_wp2_with (first
      | (go_at_call 31; refine (awake2 _).mono ?_; rintro e w1 ⟨rfl, hb1⟩)
      | (go_at_call 33; (with_reducible refine (HS.out _).mono ?_); rintro e w2 ⟨rfl, hb2⟩)
      | (go_at_call 32; (with_reducible refine (HO.out _).mono ?_); rintro e w3 ⟨rfl, hb3⟩)
      | (go_at_call 32; (with_reducible refine (HT.out _).mono ?_); rintro e w4 ⟨rfl, hb4⟩))
    go_ret
    exact ⟨rfl, bel_trans hb1 (bel_trans hb2 (bel_trans hb3 hb4))⟩
end Go.Proofs.Ytleljmijkncahaa

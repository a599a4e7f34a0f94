/- Walks of seal.Seal, seal.Open. -/
import Derived.Test.YtleljmijkncahaaJoins
import Derived.Test.YtleljmijkncahaaPut
set_option linter.unusedVariables false
set_option linter.unusedSimpArgs false
namespace Go.Proofs.Ytleljmijkncahaa
open Go.RowKit
def sealL (l : List UInt8) : List UInt8 := l ++ Crc.put (Crc.sum l) 4
theorem sealL_length (l : List UInt8) : (sealL l).length = l.length + 4 := by simp [sealL, Crc.put_length]
theorem seal_any (l : List UInt8) (w : World) (hl : l.length ≤ 4000) :
    Calls Try.prog 33 #[.string (str l)] w fun e w' => e = .returned (.string (str (sealL l))) ∧ Below w.heap.size w w' := by
  have HS := Lib.hid (fun w => sum_any (str l) w (by rw [str_size]; simp only [maxLen]; omega))
  have hlt := Crc.sum_lt l
  have hsum : sumB (str l) = Crc.sum l := rfl
  have z1 : (str l).size ≤ 4000 := by rw [str_size]; exact hl
  have had : str l ++ str (Crc.put (Crc.sum l) 4) = str (sealL l) := str_append _ _
  rw [hsum] at HS
  have HP : Hid (∀ w, Calls Try.prog 17 #[.int .u64 ((Crc.sum l : Nat) : Int), .int .i64 4] w fun e w' => e = .returned (.string (str (Crc.put (Crc.sum l) 4))) ∧ Below w.heap.size w w') := fun w =>
    put_any _ 4 w (Int.natCast_nonneg _) (by omega)
  have z2 : (str (Crc.put (Crc.sum l) 4)).size ≤ 4 := by rw [str_size, Crc.put_length]; exact Nat.le_refl _
  have e0 : IntKind.u64.wrap ((Crc.sum l : Nat) : Int) = ((Crc.sum l : Nat) : Int) := by rw [IntKind.wrap_u64]; omega
  clear hsum
  generalize str (Crc.put (Crc.sum l) 4) = S at *
  generalize Crc.sum l = x at *
  go_enter Try.func33, Try.ntmps33
  go_wp2_with (first
    | (go_at_call 35; refine (HS.out _).mono ?_; rintro e w1 ⟨rfl, hb1⟩)
    | (go_at_call 17; refine (HP.out _).mono ?_; rintro e w2 ⟨rfl, hb2⟩))
  go_ret
  exact ⟨rfl, bel_trans ‹Below w.heap.size w _› ‹_›⟩
theorem sealed_iff (l : List UInt8) (p : Nat) (h : l.length = p + 4) : sealL (l.take p) = l ↔ Crc.Sealed l := by
  have hb : (l.drop p).length = 4 := by rw [List.length_drop]; omega
  have := Crc.eq_seal (l.take p) (l.drop p) hb
  rwa [List.take_append_drop] at this
theorem bytes_ne {R S : ByteArray} (h : ¬ R = S) : (R.toList == S.toList) = false := by
  rw [ByteArray.toList_eq, ByteArray.toList_eq]
  simp only [beq_eq_false_iff_ne, ne_eq]
  intro e
  exact h (ByteArray.ext (Array.ext' e))
def openL (l : List UInt8) : List UInt8 := if Crc.Sealed l then l.take (l.length - 4) else []
theorem str_take' (m : List UInt8) (n : Nat) : (str m).extract 0 n = str (m.take n) := by
  apply ByteArray.ext; simp [str]
theorem str_inj {l m : List UInt8} (h : str l = str m) : l = m := by
  have := congrArg (fun s : ByteArray => s.data.toList) h
  exact this
theorem open_any (l : List UInt8) (w : World) (hl : l.length ≤ 4000) :
    Calls Try.prog 32 #[.string (str l)] w fun e w' => e = .returned (.tuple #[.string (str (openL l)), .bool (decide (Crc.Sealed l))]) ∧ Below w.heap.size w w' := by
  by_cases h4 : l.length < 4
  · have hn : ¬ Crc.Sealed l := fun h => by have := h.1; omega
    have eo : openL l = [] := if_neg hn
    have ed : decide (Crc.Sealed l) = false := by simp [hn]
    rw [eo, ed]
    have z1 : (str l).size < 4 := by rw [str_size]; exact h4
    clear hn eo ed h4 hl
    have h0 : ((str l).size : Int) - 4 < 0 := by omega
    go_enter Try.func32, Try.ntmps32
    go_wp2
    go_ret2
    exact ⟨rfl, Below.refl _ _⟩
  · obtain ⟨p, hp⟩ : ∃ p, l.length = p + 4 := ⟨l.length - 4, by omega⟩
    have zs : (str l).size = p + 4 := by rw [str_size]; exact hp
    have t1 := str_take' l p
    have hsd := sealed_iff l p hp
    have HS : Hid (∀ w, Calls Try.prog 33 #[.string (str (l.take p))] w fun e w' => e = .returned (.string (str (sealL (l.take p)))) ∧ Below w.heap.size w w') := fun w =>
      seal_any (l.take p) w (by rw [List.length_take]; omega)
    by_cases hq : Crc.Sealed l
    · have eo : openL l = l.take p := by unfold openL; rw [if_pos hq, hp]; simp
      have ed : decide (Crc.Sealed l) = true := by simp [hq]
      rw [eo, ed]
      rw [hsd.2 hq] at HS
      clear hsd hq eo ed h4
      generalize str (l.take p) = T at *
      generalize str l = S at *
      go_enter Try.func32, Try.ntmps32
      go_wp2_with (go_at_call 33; refine (HS.out _).mono ?_; rintro e w1 ⟨rfl, hb1⟩)
      go_ret2
      exact ⟨rfl, ‹_›⟩
    · have eo : openL l = [] := if_neg hq
      have ed : decide (Crc.Sealed l) = false := by simp [hq]
      rw [eo, ed]
      have hne : ¬ str (sealL (l.take p)) = str l := fun h => hq (hsd.1 (str_inj h))
      clear hsd hq eo ed h4
      generalize str (sealL (l.take p)) = R at *
      generalize str (l.take p) = T at *
      generalize str l = S at *
      have hne2 := bytes_ne hne
      clear hne
      go_enter Try.func32, Try.ntmps32
      go_wp2_with (go_at_call 33; refine (HS.out _).mono ?_; rintro e w1 ⟨rfl, hb1⟩)
      go_ret2
      exact ⟨rfl, ‹_›⟩
end Go.Proofs.Ytleljmijkncahaa

/- The walk of field.Column. -/
import Derived.Test.YtleljmijkncahaaRow
set_option linter.unusedVariables false
set_option linter.unusedSimpArgs false
namespace Go.Proofs.Ytleljmijkncahaa
open Go.RowKit
theorem column_no (s : ByteArray) (w : World) (hs : s.size ≤ 2000) (h : ¬ s.size % 4 = 0) :
    Calls Try.prog 24 #[.string s] w fun e w' => e = .returned (.tuple #[.slice none 0 0, .bool false]) ∧ w = w' := by
  have e1 : ((s.size : Int) % 4 != 0) = true := by simp; omega
  have e2 : ((s.size : Int).tmod 4 != 0) = true := by rw [Int.tmod_eq_emod_of_nonneg (by omega)]; exact e1
  clear h
  go_enter Try.func24, Try.ntmps24
  go_wp2
  go_ret2
  exact ⟨rfl, rfl⟩
/-- Coordinates of fields: m of them. -/
def colL (l : List UInt8) (m : Nat) : List Int := (List.range m).map fun k => sgnI (Crc.value ((l.drop (4 * k)).take 4) : Int) 4
theorem colL_succ (l : List UInt8) (m : Nat) : colL l (m + 1) = colL l m ++ [sgnI (Crc.value ((l.drop (4 * m)).take 4) : Int) 4] := by simp [colL, List.range_succ]
theorem sgn_range (x : Int) : -2147483648 ≤ sgnI x 4 ∧ sgnI x 4 ≤ 2147483647 := by
  unfold sgnI
  rw [if_pos (by decide)]
  simp
  split <;> omega
def ColPost (w : World) (l : List UInt8) (m : Nat) (e : Ending) (w' : World) : Prop := Below w.heap.size w w' ∧ ∃ A c, e = .returned (.tuple #[.slice A m c, .bool true]) ∧ Reads w' A m (i32V (colL l m))
set_option maxHeartbeats 400000 in
theorem column_yes (s : ByteArray) (m : Nat) (w : World) (hs : s.size ≤ 2400) (h : s.size = 4 * m) :
    Calls Try.prog 24 #[.string s] w (ColPost w s.data.toList m) := by
  have hm6 : m ≤ 600 := by omega
  have e1 : ((s.size : Int).tmod 4 != 0) = false := by rw [Int.tmod_eq_emod_of_nonneg (by omega)]; simp; omega
  have e2 : ((s.size : Int) % 4 != 0) = false := by simp; omega
  have HSZ := Lib.hid h
  clear h
  go_enter Try.func24, Try.ntmps24
  go_wp2
  go_loopg [4, 5] m (fun gk a b wr => ∃ (k : Nat) (A : Option Addr) (c : Nat), gk = m - k ∧ k ≤ m ∧ b = .int .i64 ((4 * k : Nat) : Int) ∧ a = .slice A k c ∧ wr.ownsRow w.heap.size 21 1 (.slice A k c) k (i32V (colL s.data.toList k)) ∧ Below w.heap.size w wr)
  case atStart => exact ⟨0, none, 0, rfl, Nat.zero_le _, rfl, rfl, World.ownsRow_nil _ _ _ _, Below.refl _ _⟩
  case round =>
    obtain ⟨k, A, c, rfl, hk, rfl, rfl, hown, hbel⟩ := hrel
    have HO := Lib.hid hown
    have HB := Lib.hid hbel
    clear hown hbel
    by_cases hlt : k < m
    · have hg := fun w => get_yes s ((4 * k : Nat) : Int) 4 w (by simp only [maxLen]; omega) ⟨by decide, by decide, by omega, by have := HSZ.out; omega⟩
      have eg : getS s ((4 * k : Nat) : Int) 4 = Crc.value ((s.data.toList.drop (4 * k)).take 4) := rfl
      rw [eg] at hg
      have hq := fun w => signed_any ((Crc.value ((s.data.toList.drop (4 * k)).take 4) : Nat) : Int) 4 w
      have hr := sgn_range ((Crc.value ((s.data.toList.drop (4 * k)).take 4) : Nat) : Int)
      have HS := Lib.hid (colL_succ s.data.toList k)
      generalize Crc.value ((s.data.toList.drop (4 * k)).take 4) = x at *
      generalize sgnI (x : Int) 4 = y at *
      have HG := Lib.hid hg
      have HQ := Lib.hid hq
      have e3 : IntKind.i32.wrap y = y := by simp [IntKind.wrap, IntKind.bits, IntKind.signed]; omega
      have e4 : wrap32 y = y := by unfold wrap32; omega
      have hlt2 : ((4 * k : Nat) : Int) < (s.size : Int) := by have := HSZ.out; omega
      have HK : Hid (((4 * k : Nat) : Int) + 4 = ((4 * (k + 1) : Nat) : Int)) := by show _ = _; omega
      clear hg hq eg
      generalize hp : 4 * k = p at *
      have HP := Lib.hid hp
      clear hp
      go_wp2_with (first
        | (go_at_call 18; refine (HG.out _).mono ?_; rintro e w2 ⟨rfl, rfl⟩)
        | (go_at_call 26; refine (HQ.out _).mono ?_; rintro e w2 ⟨rfl, rfl⟩)
        | (at_builtin; refine append_one w.heap.size rfl _ _ 36 21 (.int .i32 0) 4 rfl Try.underlying36 Try.info21 rfl (by decide) (.slice A k c) k (i32V (colL s.data.toList k)) (.int .i32 y) rfl rfl rfl HO.out HB.out.size (by omega) ?_))
      intro A1 c1 w3 ho3 hg3 hat3 hsz3
      have e5 : i32V (colL s.data.toList k) ++ [.int .i32 y] = i32V (colL s.data.toList (k + 1)) := by rw [HS.out]; simp [i32V]
      rw [e5] at ho3
      have HO3 := Lib.hid ho3
      have HB3 : Hid (Below w.heap.size w w3) := HB.out.grown hg3 HB.out.size (own_base HO.out)
      clear ho3 hg3 hat3 e5
      go_wp2
      go_roundg (m - (k + 1))
      case measure => omega
      case rel => exact ⟨k + 1, A1, c1, rfl, hlt, by rw [HK.out], rfl, HO3.out, HB3.out⟩
    · obtain rfl : k = m := by omega
      have hge : ¬ ((4 * k : Nat) : Int) < (s.size : Int) := by have := HSZ.out; omega
      generalize 4 * k = p at *
      go_wp2
      go_ret2
      exact ⟨HB.out, A, c, rfl, own_reads HO.out⟩
end Go.Proofs.Ytleljmijkncahaa

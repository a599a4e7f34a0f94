/- Walks of field.Row, field.Column and of the reference's Row. -/
import Derived.Test.YtleljmijkncahaaSignedWalk
set_option linter.unusedVariables false
set_option linter.unusedSimpArgs false
namespace Go.Proofs.Ytleljmijkncahaa
open Go.RowKit
theorem Try.info21 : (Try.prog.info? 21).map (fun i => (i.zero, i.size, i.bytes)) = some (some (.int .i32 0), 1, 4) := by kernel_rfl
def i32V (zs : List Int) : List Value := zs.map fun z => .int .i32 z
/-- A coordinate as a number without a sign. -/
def un (x : Int) : Nat := (x % 18446744073709551616).toNat
theorem un_lt (x : Int) : un x < 18446744073709551616 := by unfold un; omega
theorem un_wrap (x : Int) : IntKind.u64.wrap x = (un x : Int) := by rw [IntKind.wrap_u64]; unfold un; omega
def rowL (xs : List Int) : List UInt8 := (xs.map fun x => Crc.put (un x) 4).flatten
theorem rowL_succ (xs : List Int) (k : Nat) (h : k < xs.length) : rowL (xs.take (k + 1)) = rowL (xs.take k) ++ Crc.put (un xs[k]) 4 := by
  unfold rowL
  rw [List.take_succ_eq_append_getElem h, List.map_append, List.flatten_append]
  simp only [List.map_cons, List.map_nil, List.flatten_cons, List.flatten_nil, List.append_nil]
theorem rowL_length (xs : List Int) : (rowL xs).length = 4 * xs.length := by
  induction xs with
  | nil => rfl
  | cons x xs ih =>
    have : rowL (x :: xs) = Crc.put (un x) 4 ++ rowL xs := rfl
    rw [this, List.length_append, Crc.put_length, ih, List.length_cons]; omega
theorem putI_un (x : Int) : putI (un x : Int) 4 = Crc.put (un x) 4 := by unfold putI; rw [if_pos (by decide)]; rfl
set_option maxHeartbeats 400000 in
theorem row_any (A0 : Option Addr) (n c0 : Nat) (xs : List Int) (w : World) (hx : Reads w A0 n (i32V xs)) (hn : n ≤ 600) :
    Calls Try.prog 23 #[.slice A0 n c0] w fun e w' => e = .returned (.string (str (rowL xs))) ∧ Below w.heap.size w w' := by
  have hxn : xs.length = n := by have := hx.1; simpa [i32V] using this
  subst hxn
  have HX := Lib.hid hx
  clear hx
  obtain ⟨i0, hi, hz0, hz1, hz2⟩ := info_parts Try.info5
  go_enter Try.func23, Try.ntmps23
  go_wp2_with (at_make; refine wpList_make_own _ rfl _ _ 58 rfl w.heap.size 5 i0 (.int .u8 0) 1 Try.underlying58 hi hz0 hz1 _ _ _ (4 * xs.length) rfl rfl (by omega) (by rw [hz2]; omega) (by simp only [maxLen]; omega) (Nat.le_refl _) ?_)
  intro w1 hown1 hg1
  have hb1 : Below w.heap.size w w1 := (Below.refl _ _).grown hg1 (Nat.le_refl _) (fun k h => by cases h)
  have HO1 := Lib.hid hown1
  have HB1 := Lib.hid hb1
  clear hown1 hg1 hb1
  go_wp2
  go_loopg [3, 12] xs.length (fun gk a b wr => ∃ (k : Nat) (A : Option Addr) (c : Nat), gk = xs.length - k ∧ k ≤ xs.length ∧ b = .int .i64 (k : Int) ∧ a = .slice A (4 * k) c ∧ wr.ownsRow w.heap.size 5 1 (.slice A (4 * k) c) (4 * k) (bytesV (rowL (xs.take k))) ∧ Below w.heap.size w wr)
  case atStart => exact ⟨0, _, _, rfl, Nat.zero_le _, rfl, rfl, HO1.out, HB1.out⟩
  case round =>
    obtain ⟨k, A, c, rfl, hk, rfl, rfl, hown, hbel⟩ := hrel
    have HO := Lib.hid hown
    have HB := Lib.hid hbel
    clear hown hbel
    by_cases hlt : k < xs.length
    · obtain ⟨ad, rfl, hce⟩ := (HX.out.below HB.out).at_ k hlt
      rw [show (i32V xs).getD k undef = .int .i32 xs[k] from by simp [i32V, hlt]] at hce
      have hp := fun w => put_any (un xs[k] : Int) 4 w (Int.natCast_nonneg _) (by have := un_lt xs[k]; omega)
      rw [putI_un] at hp
      have HP := Lib.hid hp
      have HS := Lib.hid (rowL_succ xs k hlt)
      have e0 := un_wrap xs[k]
      have HL := Lib.hid (Crc.put_length (un xs[k]) 4)
      clear hp
      generalize un xs[k] = N at *
      generalize xs[k] = x at *
      go_wp2_with (first
        | (go_at_call 17; refine (HP.out _).mono ?_; rintro e w2 ⟨rfl, hb2⟩; have ho2 := own_below HO.out hb2)
        | (at_builtin; refine append_str w.heap.size rfl _ _ 58 9 5 rfl Try.underlying58 Try.underlying9 Try.info5 (.slice A (4 * k) c) (4 * k) (rowL (xs.take k)) (Crc.put N 4) rfl ho2 rfl (by rw [HL.out]; omega) (by have := HB.out.size; have := hb2.size; omega) ?_))
      intro A1 c1 w3 ho3 hg3
      rw [HL.out, show 4 * k + 4 = 4 * (k + 1) from by omega, ← HS.out] at ho3
      have HO3 := Lib.hid ho3
      have HB3 : Hid (Below w.heap.size w w3) := (HB.out.trans (hb2.mono HB.out.size)).grown hg3 (by have := HB.out.size; have := hb2.size; omega) (own_base HO.out)
      rw [HL.out]
      clear ho3 hg3 ho2 hb2
      go_wp2
      go_roundg (xs.length - (k + 1))
      case measure => omega
      case rel => exact ⟨k + 1, A1, c1, rfl, hlt, by go_num, rfl, HO3.out, HB3.out⟩
    · obtain rfl : k = xs.length := by omega
      have hcv := run_bytes_str (dst := 9) Try.underlying58 Try.underlying5 Try.underlying9 HO.out
      rw [List.take_length] at hcv
      go_wp2
      go_ret
      exact ⟨rfl, HB.out⟩
set_option maxHeartbeats 400000 in
theorem rrow_any (A0 : Option Addr) (n c0 : Nat) (xs : List Int) (w : World) (hx : Reads w A0 n (i32V xs)) (hn : n ≤ 600) (hr : ∀ x ∈ xs, -2147483648 ≤ x ∧ x ≤ 2147483647) :
    Calls Try.prog 25 #[.slice A0 n c0] w fun e w' => e = .returned (.string (str (rowL xs))) ∧ Below w.heap.size w w' := by
  have hxn : xs.length = n := by have := hx.1; simpa [i32V] using this
  subst hxn
  have HX := Lib.hid hx
  clear hx
  go_enter Try.func25, Try.ntmps25
  go_wp2
  go_loopg [3, 4] xs.length (fun gk a b wr => ∃ (k : Nat), gk = xs.length - k ∧ k ≤ xs.length ∧ b = .int .i64 (k : Int) ∧ a = .string (str (rowL (xs.take k))) ∧ Below w.heap.size w wr)
  case atStart => exact ⟨0, rfl, Nat.zero_le _, rfl, rfl, Below.refl _ _⟩
  case round =>
    obtain ⟨k, rfl, hk, rfl, rfl, hbel⟩ := hrel
    have HB := Lib.hid hbel
    clear hbel
    by_cases hlt : k < xs.length
    · obtain ⟨ad, rfl, hce⟩ := (HX.out.below HB.out).at_ k hlt
      rw [show (i32V xs).getD k undef = .int .i32 xs[k] from by simp [i32V, hlt]] at hce
      have hp := fun w => rput_any (un xs[k] : Int) 4 w (Int.natCast_nonneg _) (by have := un_lt xs[k]; omega)
      rw [putI_un] at hp
      have HP := Lib.hid hp
      have hrk := hr xs[k] (List.getElem_mem hlt)
      have had : str (rowL (xs.take k)) ++ str (Crc.put (un xs[k]) 4) = str (rowL (xs.take (k + 1))) := by rw [str_append, rowL_succ xs k hlt]
      have e0 := un_wrap xs[k]
      have z1 : (str (rowL (xs.take k))).size ≤ 2400 := by rw [str_size, rowL_length, List.length_take]; omega
      have z2 : (str (Crc.put (un xs[k]) 4)).size ≤ 4 := by rw [str_size, Crc.put_length]; exact Nat.le_refl _
      have e1 : wrap64 xs[k] = xs[k] := by unfold wrap64; omega
      clear hp
      generalize un xs[k] = N at *
      generalize xs[k] = x at *
      go_wp2_with (go_at_call 28; refine (HP.out _).mono ?_; rintro e w2 ⟨rfl, hb2⟩)
      go_roundg (xs.length - (k + 1))
      case measure => omega
      case rel => exact ⟨k + 1, rfl, hlt, by go_num, rfl, HB.out.trans (hb2.mono HB.out.size)⟩
    · obtain rfl : k = xs.length := by omega
      rw [List.take_length]
      go_wp2
      go_ret
      exact ⟨rfl, HB.out⟩
end Go.Proofs.Ytleljmijkncahaa

/- The walk of the law FieldRows. -/
import Derived.Test.YtleljmijkncahaaColumn
set_option linter.unusedVariables false
set_option linter.unusedSimpArgs false
namespace Go.Proofs.Ytleljmijkncahaa
open Go.RowKit
theorem colL_cons (a l : List UInt8) (m : Nat) (h : a.length = 4) : colL (a ++ l) (m + 1) = sgnI (Crc.value a : Int) 4 :: colL l m := by
  unfold colL
  rw [List.range_succ_eq_map, List.map_cons, List.map_map]
  congr 1
  · rw [Nat.mul_zero, List.drop_zero, List.take_left' h]
  · apply List.map_congr_left
    intro k _
    simp only [Function.comp]
    rw [show 4 * (k + 1) = 4 + 4 * k from by omega, ← List.drop_drop, List.drop_left' h]
theorem row_cons (x : Int) (xs : List Int) : rowL (x :: xs) = Crc.put (un x) 4 ++ rowL xs := rfl
theorem sgn_un (x : Int) (h1 : -2147483648 ≤ x) (h2 : x ≤ 2147483647) : sgnI ((Crc.value (Crc.put (un x) 4) : Nat) : Int) 4 = x := by
  rw [Crc.value_put]
  unfold sgnI un
  rw [if_pos (by decide)]
  simp
  split <;> omega
theorem col_row (xs : List Int) (hr : ∀ x ∈ xs, -2147483648 ≤ x ∧ x ≤ 2147483647) : colL (rowL xs) xs.length = xs := by
  induction xs with
  | nil => rfl
  | cons x xs ih =>
    have hx := hr x (List.mem_cons_self ..)
    rw [row_cons, List.length_cons, colL_cons _ _ _ (Crc.put_length _ _), ih (fun y hy => hr y (List.mem_cons_of_mem _ hy)), sgn_un x hx.1 hx.2]
theorem put_sgn (a : List UInt8) (h : a.length = 4) : Crc.put (un (sgnI (Crc.value a : Int) 4)) 4 = a := by
  have h1 := Crc.value_lt a
  rw [h] at h1
  have h2 : un (sgnI (Crc.value a : Int) 4) % 256 ^ 4 = Crc.value a := by
    unfold sgnI un
    rw [if_pos (by decide)]
    simp at *
    split <;> omega
  rw [← Crc.put_mod, h2, ← h, Crc.put_value]
theorem row_col (m : Nat) (l : List UInt8) (h : l.length = 4 * m) : rowL (colL l m) = l := by
  induction m generalizing l with
  | zero => simp at h; subst h; rfl
  | succ m ih =>
    have e := List.take_append_drop 4 l
    have h4 : (l.take 4).length = 4 := by rw [List.length_take]; omega
    have h5 : (l.drop 4).length = 4 * m := by rw [List.length_drop]; omega
    have : colL l (m + 1) = colL (l.take 4 ++ l.drop 4) (m + 1) := by rw [e]
    rw [this, colL_cons _ _ _ h4, row_cons, ih _ h5, put_sgn _ h4, e]
theorem rows_great (A : Option Addr) (n c : Nat) (s : ByteArray) (w : World) (h : 500 < (n : Int) ∨ 2000 < (s.size : Int)) :
    Calls Try.prog 7 #[.slice A n c, .string s] w fun e w' => e = .returned (.bool true) ∧ Below w.heap.size w w' := by
  by_cases h1 : 500 < (n : Int)
  · clear h
    go_enter Try.func7, Try.ntmps7
    go_wp2_with (go_at_call 16; refine (awake1 _).mono ?_; rintro e w1 ⟨rfl, hb1⟩)
    go_ret
    exact ⟨rfl, hb1⟩
  · have h2 : 2000 < (s.size : Int) := by omega
    clear h
    go_enter Try.func7, Try.ntmps7
    go_wp2_with (go_at_call 16; refine (awake1 _).mono ?_; rintro e w1 ⟨rfl, hb1⟩)
    go_ret
    exact ⟨rfl, hb1⟩
set_option maxHeartbeats 800000 in
theorem rows_law (A : Option Addr) (n c : Nat) (xs : List Int) (s : ByteArray) (w : World) (hx : Reads w A n (i32V xs)) (hr : ∀ x ∈ xs, -2147483648 ≤ x ∧ x ≤ 2147483647) :
    Calls Try.prog 7 #[.slice A n c, .string s] w fun e w' => e = .returned (.bool true) ∧ Below w.heap.size w w' := by
  by_cases h : 500 < (n : Int) ∨ 2000 < (s.size : Int)
  · exact rows_great A n c s w h
  have g1 : ¬ 500 < (n : Int) := by omega
  have g2 : ¬ 2000 < (s.size : Int) := by omega
  clear h
  have hxn : xs.length = n := by have := hx.1; simpa [i32V] using this
  subst hxn
  have zR : (str (rowL xs)).size = 4 * xs.length := by rw [str_size, rowL_length]
  have HR : Hid (∀ w1, Below w.heap.size w w1 → (Calls Try.prog 23 #[.slice A xs.length c] w1 fun e w' => e = .returned (.string (str (rowL xs))) ∧ Below w1.heap.size w1 w')) :=
    fun w1 hb => row_any A _ c xs w1 (hx.below hb) (by omega)
  have HRR : Hid (∀ w1, Below w.heap.size w w1 → (Calls Try.prog 25 #[.slice A xs.length c] w1 fun e w' => e = .returned (.string (str (rowL xs))) ∧ Below w1.heap.size w1 w')) :=
    fun w1 hb => rrow_any A _ c xs w1 (hx.below hb) (by omega) hr
  have HC : Hid (∀ w1, Calls Try.prog 24 #[.string (str (rowL xs))] w1 fun e w' => Below w1.heap.size w1 w' ∧ ∃ B d, e = .returned (.tuple #[.slice B xs.length d, .bool true]) ∧ Reads w' B xs.length (i32V xs)) := fun w1 => by
    have := column_yes (str (rowL xs)) xs.length w1 (by rw [zR]; omega) zR
    unfold ColPost at this
    rwa [str_data, col_row xs hr] at this
  have HX := Lib.hid hx
  generalize hR : str (rowL xs) = R at *
  clear hx hr zR hR
  have SZ : ∃ k : Nat, s.size = k := ⟨_, rfl⟩
  obtain ⟨sz, hsz⟩ := SZ
  by_cases h4 : s.size % 4 = 0
  · have hm : s.data.toList.length = 4 * (s.size / 4) := by simp; omega
    have hm2 : s.size = 4 * (s.size / 4) := by omega
    have hm6 : s.size / 4 ≤ 500 := by omega
    have t4 : ((s.size : Int).tmod 4 == 0) = true := by rw [Int.tmod_eq_emod_of_nonneg (by omega)]; simp; omega
    have t5 : ((s.size : Int) % 4 == 0) = true := by simp; omega
    have HC2 : Hid (∀ w1, Calls Try.prog 24 #[.string s] w1 fun e w' => Below w1.heap.size w1 w' ∧ ∃ B d, e = .returned (.tuple #[.slice B (s.size / 4) d, .bool true]) ∧ Reads w' B (s.size / 4) (i32V (colL s.data.toList (s.size / 4)))) := fun w1 =>
      column_yes s _ w1 (by omega) hm2
    have HR2 : Hid (∀ w1 B d, Reads w1 B (s.size / 4) (i32V (colL s.data.toList (s.size / 4))) → (Calls Try.prog 23 #[.slice B ((s.size / 4 : Nat)) d] w1 fun e w' => e = .returned (.string s) ∧ Below w1.heap.size w1 w')) := fun w1 B d h1 => by
      have := row_any B _ d _ w1 h1 (by omega)
      rwa [row_col _ _ hm, str_list] at this
    clear hm hm2 h4 hsz
    generalize s.size / 4 = q at *
    go_enter Try.func7, Try.ntmps7
    go_wp2_with (first
      | (go_at_call 16; refine (awake1 _).mono ?_; rintro e w1 ⟨rfl, hb1⟩)
      | (go_at_call 23; (with_reducible refine (HR.out _ hb1).mono ?_); rintro e w2 ⟨rfl, hb2'⟩; have hb2 := bel_trans hb1 hb2')
      | (go_at_call 24; (with_reducible refine (HC.out _).mono ?_); rintro e w3 ⟨hb3', B3, d3, rfl, hr3⟩; have hb3 := bel_trans hb2 hb3')
      | (go_at_call 25; refine (HRR.out _ hb3).mono ?_; rintro e w4 ⟨rfl, hb4'⟩; have hb4 := bel_trans hb3 hb4'))
    have HR4 := Lib.hid (hr3.below hb4')
    have HX4 := Lib.hid (HX.out.below hb4)
    have HB4 := Lib.hid hb4
    clear hr3 hb1 hb2 hb2' hb3 hb3' hb4 hb4'
    go_loopg [8] xs.length (fun gk b wr => Below w4.heap.size w4 wr ∧ ∃ k : Nat, gk = xs.length - k ∧ k ≤ xs.length ∧ b = .int .i64 (k : Int))
    case atStart => exact ⟨Below.refl _ _, 0, rfl, Nat.zero_le _, rfl⟩
    case round =>
      obtain ⟨hw, k, rfl, hk, rfl⟩ := hrel
      by_cases hlt : k < xs.length
      · obtain ⟨ad, rfl, hce⟩ := (HR4.out.below hw).at_ k hlt
        obtain ⟨ad', rfl, hce'⟩ := (HX4.out.below hw).at_ k hlt
        rw [show (i32V xs).getD k undef = .int .i32 xs[k] from by simp [i32V, hlt]] at hce hce'
        have hlt' : (k : Int) < (xs.length : Int) := by omega
        generalize xs[k] = x at *
        go_wp2_with (go_quiet (fail))
        go_roundg (xs.length - (k + 1))
        case measure => omega
        case rel => exact ⟨bel_drewN hw _, k + 1, rfl, hlt, by go_num⟩
      · obtain rfl : k = xs.length := by omega
        go_wp2_with (first
          | (go_at_call 24; (with_reducible refine (HC2.out _).mono ?_); rintro e w5 ⟨hb5', B5, d5, rfl, hr5⟩; have hb5 := bel_trans (bel_trans HB4.out hw) hb5')
          | (go_at_call 23; (with_reducible refine (HR2.out _ _ _ hr5).mono ?_); rintro e w6 ⟨rfl, hb6'⟩; have hb6 := bel_trans hb5 hb6'))
        go_ret
        exact ⟨rfl, hb6⟩
  · have t4 : ((s.size : Int).tmod 4 == 0) = false := by rw [Int.tmod_eq_emod_of_nonneg (by omega)]; simp; omega
    have t5 : ((s.size : Int) % 4 == 0) = false := by simp; omega
    have HC2 : Hid (∀ w1, Calls Try.prog 24 #[.string s] w1 fun e w' => e = .returned (.tuple #[.slice none 0 0, .bool false]) ∧ w1 = w') := fun w1 =>
      column_no s w1 (by omega) h4
    clear h4 hsz
    go_enter Try.func7, Try.ntmps7
    go_wp2_with (first
      | (go_at_call 16; refine (awake1 _).mono ?_; rintro e w1 ⟨rfl, hb1⟩)
      | (go_at_call 23; (with_reducible refine (HR.out _ hb1).mono ?_); rintro e w2 ⟨rfl, hb2'⟩; have hb2 := bel_trans hb1 hb2')
      | (go_at_call 24; (with_reducible refine (HC.out _).mono ?_); rintro e w3 ⟨hb3', B3, d3, rfl, hr3⟩; have hb3 := bel_trans hb2 hb3')
      | (go_at_call 25; refine (HRR.out _ hb3).mono ?_; rintro e w4 ⟨rfl, hb4'⟩; have hb4 := bel_trans hb3 hb4'))
    have HR4 := Lib.hid (hr3.below hb4')
    have HX4 := Lib.hid (HX.out.below hb4)
    have HB4 := Lib.hid hb4
    clear hr3 hb1 hb2 hb2' hb3 hb3' hb4 hb4'
    go_loopg [8] xs.length (fun gk b wr => Below w4.heap.size w4 wr ∧ ∃ k : Nat, gk = xs.length - k ∧ k ≤ xs.length ∧ b = .int .i64 (k : Int))
    case atStart => exact ⟨Below.refl _ _, 0, rfl, Nat.zero_le _, rfl⟩
    case round =>
      obtain ⟨hw, k, rfl, hk, rfl⟩ := hrel
      by_cases hlt : k < xs.length
      · obtain ⟨ad, rfl, hce⟩ := (HR4.out.below hw).at_ k hlt
        obtain ⟨ad', rfl, hce'⟩ := (HX4.out.below hw).at_ k hlt
        rw [show (i32V xs).getD k undef = .int .i32 xs[k] from by simp [i32V, hlt]] at hce hce'
        have hlt' : (k : Int) < (xs.length : Int) := by omega
        generalize xs[k] = x at *
        go_wp2_with (go_quiet (fail))
        go_roundg (xs.length - (k + 1))
        case measure => omega
        case rel => exact ⟨bel_drewN hw _, k + 1, rfl, hlt, by go_num⟩
      · obtain rfl : k = xs.length := by omega
        go_wp2_with (go_at_call 24; (with_reducible refine (HC2.out _).mono ?_); rintro e w5 ⟨rfl, rfl⟩)
        go_ret
        exact ⟨rfl, bel_trans HB4.out hw⟩
end Go.Proofs.Ytleljmijkncahaa

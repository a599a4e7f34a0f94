/- The walk of the law SealTurns. -/
import Derived.Test.YtleljmijkncahaaJoinsWalk
import Derived.Test.YtleljmijkncahaaPut
set_option linter.unusedVariables false
set_option linter.unusedSimpArgs false
namespace Go.Proofs.Ytleljmijkncahaa
open Go.RowKit
/-- Three texts put together, i bytes of n. -/
def mixL (s t u : List UInt8) (n i : Nat) : List UInt8 := (List.range n).map fun j => if j < i then s.getD j 0 ^^^ t.getD j 0 ^^^ u.getD j 0 else 0
theorem mixL_zero (s t u : List UInt8) (n : Nat) : bytesV (mixL s t u n 0) = List.replicate n (.int .u8 0) := by
  apply List.ext_getElem
  · simp [bytesV, mixL]
  · intro j h1 h2; simp [bytesV, mixL]
theorem mixL_set (s t u : List UInt8) (n i : Nat) (h : i < n) (c : UInt8) (hc : c = s.getD i 0 ^^^ t.getD i 0 ^^^ u.getD i 0) : (bytesV (mixL s t u n i)).set i (.int .u8 (c.toNat : Int)) = bytesV (mixL s t u n (i + 1)) := by
  subst hc
  apply List.ext_getElem?
  intro j
  rw [List.getElem?_set]
  unfold bytesV mixL
  by_cases hj : i = j
  · subst hj; simp [h]
  · rw [if_neg hj]
    by_cases hjn : j < n
    · simp [hjn, show (j < i + 1) = (j < i) from propext (by omega)]
    · simp [hjn]
theorem mixL_all (s t u : List UInt8) (n : Nat) (h1 : n ≤ s.length) (h2 : n ≤ t.length) (h3 : n ≤ u.length) : mixL s t u n n = Crc.xors (Crc.xors (s.take n) (t.take n)) (u.take n) := by
  apply List.ext_getElem
  · simp [mixL, Crc.xors]; omega
  · intro j h4 h5
    have hj : j < n := by simpa [mixL] using h4
    simp [mixL, Crc.xors, hj, List.getD_eq_getElem?_getD, List.getElem?_eq_getElem (show j < s.length by omega), List.getElem?_eq_getElem (show j < t.length by omega), List.getElem?_eq_getElem (show j < u.length by omega)]
theorem getD_byte (s : ByteArray) (i : Nat) (h : i < s.size) : s.data.toList.getD i 0 = s[i] := by
  rw [List.getD_eq_getElem?_getD, List.getElem?_eq_getElem (by simpa using h)]; rfl
theorem take_extract (s : ByteArray) (n : Nat) : (s.extract 0 n).data.toList = s.data.toList.take n := by simp
theorem turns_eq (s t u : ByteArray) (n : Nat) (h1 : n ≤ s.size) (h2 : n ≤ t.size) (h3 : n ≤ u.size) :
    sumB (str (mixL s.data.toList t.data.toList u.data.toList n n)) = sumB (s.extract 0 n) ^^^ sumB (t.extract 0 n) ^^^ sumB (u.extract 0 n) := by
  have e : ∀ x : ByteArray, x.data.toList.length = x.size := fun x => by simp
  unfold sumB
  rw [str_data, mixL_all _ _ _ _ (by rw [e]; exact h1) (by rw [e]; exact h2) (by rw [e]; exact h3), take_extract, take_extract, take_extract]
  exact Crc.sum_turns _ _ _ (by rw [List.length_take, List.length_take, e, e]; omega) (by rw [List.length_take, List.length_take, e, e]; omega)
def TurnRel (w : World) (B n : Nat) (s t u : ByteArray) (gk : Nat) (b : Value) (wr : World) : Prop :=
  ∃ i, gk = n - i ∧ i ≤ n ∧ b = .int .i64 (i : Int) ∧ wr.ownsRow w.heap.size 5 1 (.slice (some ⟨B, 0, none⟩) n n) n (bytesV (mixL s.data.toList t.data.toList u.data.toList n i)) ∧ Below w.heap.size w wr
set_option maxHeartbeats 400000 in
theorem turns_walk (s t u : ByteArray) (w : World) (hs : s.size ≤ maxLen) (ht : t.size ≤ maxLen) (hu : u.size ≤ maxLen) :
    Calls Try.prog 15 #[.string s, .string t, .string u] w fun e w' => e = .returned (.bool true) ∧ Below w.heap.size w w' := by
  unfold maxLen at hs ht hu
  obtain ⟨n, hn⟩ : ∃ n : Nat, n = min (min (min s.size t.size) u.size) 1000 := ⟨_, rfl⟩
  have hmin : ∀ w, (Builtin.min_ #[3, 3, 3, 3] 3 #[.int .i64 (s.size : Int), .int .i64 (t.size : Int), .int .i64 (u.size : Int), .int .i64 1000]).run Try.prog w = .ok (.int .i64 (n : Int)) w := by
    intro w
    rw [run_min4]
    congr 2; omega
  have g1 : n ≤ s.size := by omega
  have g2 : n ≤ t.size := by omega
  have g3 : n ≤ u.size := by omega
  have g4 : n ≤ 1000 := by omega
  clear hn
  have hmk := run_make_ints 58 5 .u8 1 Try.underlying58 Try.info5 (by decide) n (by omega)
  go_enter Try.func15, Try.ntmps15
  go_wp2_with (first | (go_at_call 31; refine (awake2 _).mono ?_; rintro e w1 ⟨rfl, hb1⟩))
  clear hmin hmk
  go_loopg [9] n (fun gk b wr => TurnRel w w1.heap.size n s t u gk b wr)
  case atStart =>
    refine ⟨0, rfl, Nat.zero_le _, rfl, ?_, hb1.alloc hb1.size _⟩
    rw [mixL_zero]
    exact own_made w1 _ 5 .u8 n hb1.size (by omega)
  case round =>
    obtain ⟨i, rfl, hi, rfl, hown, hbel⟩ := hrel
    by_cases hlt : i < n
    · have l1 : i < s.size := by omega
      have l2 : i < t.size := by omega
      have l3 : i < u.size := by omega
      have e1 : bits .xor .u8 ((s[i].toNat : Nat) : Int) ((t[i].toNat : Nat) : Int) = (((s[i] ^^^ t[i]).toNat : Nat) : Int) := by
        rw [u8_xor_nat _ _ s[i].toNat_lt t[i].toNat_lt, UInt8.toNat_xor]
      have e2 : bits .xor .u8 ((s[i].toNat ^^^ t[i].toNat : Nat) : Int) ((u[i].toNat : Nat) : Int) = (((s[i] ^^^ t[i] ^^^ u[i]).toNat : Nat) : Int) := by
        rw [← UInt8.toNat_xor s[i], u8_xor_nat _ _ (s[i] ^^^ t[i]).toNat_lt u[i].toNat_lt, UInt8.toNat_xor (s[i] ^^^ t[i])]
      obtain ⟨x, hx⟩ : ∃ x : UInt8, s[i] ^^^ t[i] ^^^ u[i] = x := ⟨_, rfl⟩
      rw [hx] at e2
      have HX := Lib.hid (mixL_set s.data.toList t.data.toList u.data.toList n i hlt x (by rw [getD_byte s i l1, getD_byte t i l2, getD_byte u i l3]; exact hx.symm))
      clear hx
      have fr := hown.frozenAt i
      have ce : ∃ v, wr.cell? ⟨w1.heap.size, i, none⟩ = some v := by
        rw [hown.cellAt i (by omega)]
        exact ⟨_, List.getElem?_eq_getElem (by rw [bytesV_length]; simp [mixL]; omega)⟩
      obtain ⟨v0, ce⟩ := ce
      have HO := Lib.hid hown
      have HB := Lib.hid hbel
      clear hown hbel
      go_wp2
      go_region
      go_wp2
      go_roundg (n - (i + 1))
      case measure => omega
      case rel =>
        have hst := (HO.out.stored i (.int .u8 (x.toNat : Int))).1
        rw [HX.out] at hst
        exact ⟨i + 1, rfl, hlt, by go_num, hst.drew, (HB.out.setCell hb1.size _).drew⟩
    · obtain rfl : i = n := by omega
      clear hi hlt
      have f1 := u32_xor_nat _ _ (sumB_lt (s.extract 0 i)) (sumB_lt (t.extract 0 i))
      have f2 := u32_xor_nat _ _ (Nat.xor_lt_two_pow (n := 32) (sumB_lt (s.extract 0 i)) (sumB_lt (t.extract 0 i))) (sumB_lt (u.extract 0 i))
      rw [← turns_eq s t u i g1 g2 g3] at f2
      have HB := Lib.hid hbel
      have hcv : ∀ w', w'.ownsRow w.heap.size 5 1 (.slice (some ⟨w1.heap.size, 0, none⟩) i i) i (bytesV (mixL s.data.toList t.data.toList u.data.toList i i)) →
          (convert 58 9 (.slice (some ⟨w1.heap.size, 0, none⟩) i i)).run Try.prog w' = .ok (.string (str (mixL s.data.toList t.data.toList u.data.toList i i))) w' :=
        fun w' ho => run_bytes_str Try.underlying58 Try.underlying5 Try.underlying9 ho
      have hcv1 := hcv wr.drew hown.drew
      have z1 : (str (mixL s.data.toList t.data.toList u.data.toList i i)).size ≤ maxLen := by rw [str_size]; simp [mixL, maxLen]; omega
      have z2 : ∀ x : ByteArray, i ≤ x.size → (x.extract 0 i).size ≤ maxLen := fun x hx => by rw [ByteArray.size_extract]; simp only [maxLen]; omega
      have Z1 := Lib.hid z1
      have Z2 := Lib.hid z2
      have HC := Lib.hid hcv
      clear z1 z2 hcv hown hbel
      go_wp2
      go_region_with (go_at_call 35; (with_reducible refine (sum_any _ _ (by first | exact Z1.out | exact Z2.out _ (by assumption))).mono ?_); rintro e w2 ⟨rfl, hb2⟩)
      go_wp2
      go_ret
      refine ⟨rfl, HB.out.drew.trans ?_⟩
      refine Below.mono ?_ HB.out.size
      show Below wr.drew.heap.size wr.drew _
      repeat (first | assumption | (refine bel_trans ?_ ‹_›))
end Go.Proofs.Ytleljmijkncahaa

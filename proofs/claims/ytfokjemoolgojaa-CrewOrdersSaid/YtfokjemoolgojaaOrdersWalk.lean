/- The walk of the law CrewOrders. -/
import Derived.Test.YtfokjemoolgojaaOwn
set_option linter.unusedVariables false
set_option linter.unusedSimpArgs false
namespace Go.Proofs.Ytfokjemoolgojaa
open Go.RowKit
theorem orders_out (J N : Int) (A0 : Option Addr) (n c0 : Nat) (w : World) (h : J < 0 ∨ 256 < J ∨ N < 1 ∨ 64 < N ∨ 3000 < (n : Int)) :
    Calls Try.prog 6 #[.int .i64 J, .int .i64 N, .slice A0 n c0] w fun e w' => e = .returned (.bool true) ∧ Below w.heap.size w w' := by
  have hh : J < 0 ∨ (¬ J < 0 ∧ 256 < J) ∨ (¬ J < 0 ∧ ¬ 256 < J ∧ N < 1) ∨ (¬ J < 0 ∧ ¬ 256 < J ∧ ¬ N < 1 ∧ 64 < N) ∨ (¬ J < 0 ∧ ¬ 256 < J ∧ ¬ N < 1 ∧ ¬ 64 < N ∧ 3000 < (n : Int)) := by omega
  clear h
  rcases hh with h | ⟨h1, h2⟩ | ⟨h1, h2, h3⟩ | ⟨h1, h2, h3, h4⟩ | ⟨h1, h2, h3, h4, h5⟩
  all_goals
    go_enter Try.func6, Try.ntmps6
    go_wp2_with (go_at_call 9; refine (awake_any _).mono ?_; rintro e w1 ⟨rfl, hb1⟩)
    go_ret
    exact ⟨rfl, hb1⟩
theorem Try.info4 : (Try.prog.info? 4).map (fun i => (i.zero, i.size, i.bytes)) = some (some (.bool false), 1, 1) := by kernel_rfl
/-- Which were seen. -/
def seenV (o : List Int) (k J : Nat) : List Value := (List.range J).map fun j : Nat => .bool (decide ((j : Int) ∈ o.take k))
theorem seenV_zero (o : List Int) (J : Nat) : seenV o 0 J = List.replicate J (.bool false) := by
  apply List.ext_getElem
  · simp [seenV]
  · intro i h1 h2; simp [seenV]
theorem seenV_at (o : List Int) (k J j : Nat) (h : j < J) : (seenV o k J)[j]? = some (.bool (decide ((j : Int) ∈ o.take k))) := by simp [seenV, h]
theorem seenV_set (o : List Int) (k J j : Nat) (hk : k < o.length) (hj : j < J) (he : o[k] = (j : Int)) : (seenV o k J).set j (.bool true) = seenV o (k + 1) J := by
  apply List.ext_getElem
  · simp [seenV]
  · intro i h1 h2
    have hi : i < J := by simpa [seenV] using h2
    have e1 := seenV_at o (k + 1) J i hi
    have e2 := seenV_at o k J i hi
    rw [List.getElem?_eq_getElem h2] at e1
    rw [List.getElem?_eq_getElem (by simpa [seenV] using hi)] at e2
    injection e1 with e1
    injection e2 with e2
    rw [List.getElem_set, e1, e2, List.take_succ_eq_append_getElem hk, he]
    by_cases hij : j = i
    · subst hij; simp
    · rw [if_neg hij]; congr 1; simp; omega
set_option maxHeartbeats 800000 in
theorem orders_in (J N : Nat) (picks : List Int) (A0 : Option Addr) (n c0 : Nat) (w : World) (hr : Reads w A0 n (intsV picks)) (hp : ∀ p ∈ picks, -9223372036854775808 ≤ p ∧ p ≤ 9223372036854775807) (hJ : J ≤ 256) (hN : 1 ≤ N) (hN2 : N ≤ 64) (hn : n ≤ 3000) :
    Calls Try.prog 6 #[.int .i64 (J : Int), .int .i64 (N : Int), .slice A0 n c0] w fun e w' => e = .returned (.bool true) ∧ Below w.heap.size w w' := by
  have HRUN := Lib.hid (fun w1 (hb : Below w.heap.size w w1) => run_any J N picks A0 n c0 w1 (hr.below hb) hp hJ hN hN2)
  have hlen := (run_trace J N hN picks).length
  have hfin := order_final J N hN picks _ rfl
  have g1 : ¬ (J : Int) < 0 := by omega
  have g2 : ¬ 256 < (J : Int) := by omega
  have g3 : ¬ (N : Int) < 1 := by omega
  have g4 : ¬ 64 < (N : Int) := by omega
  have g5 : ¬ 3000 < (n : Int) := by omega
  have hmk := run_make_row' (P := Try.prog) 36 4 (.bool false) 1 Try.underlying36 Try.info4 rfl .i64 .i64 J (by omega) (by omega)
  clear hr hp
  generalize (runK J N picks (6 * J + N + 2)).ev = E at *
  have hE : E.length ≤ 100000 := by omega
  clear hlen
  obtain ⟨hol, hnd, hmem, hone⟩ := hfin
  have HORD := Lib.hid (fun A c w1 h => order_any E A c w1 h)
  generalize orderL E = o at *
  have HND := Lib.hid hnd
  have HMEM := Lib.hid hmem
  have HONE := Lib.hid hone
  clear hnd hmem hone
  subst hol
  go_enter Try.func6, Try.ntmps6
  go_wp2_with (first
    | (go_at_call 9; refine (awake_any _).mono ?_; rintro e w1 ⟨rfl, hb1⟩)
    | (go_at_call 11; refine (HRUN.out _ hb1).mono ?_; rintro e w2 ⟨hb2, A, c, rfl, ho2⟩)
    | (go_at_call 13; refine (HORD.out _ _ _ (EvAt.of_own ho2 hE)).mono ?_; rintro e w3 ⟨hb3, A1, c1, rfl, ho3⟩))
  have HB3 := Lib.hid (bel_trans hb1 (bel_trans hb2 hb3))
  have HO3 := Lib.hid (own_reads ho3)
  clear hb1 hb2 hb3 ho2 ho3 HRUN HORD hmk
  have hw0 : (w3.alloc (.cells (madeCells #[.bool false] o.length) 4)).ownsRow w3.heap.size 4 1 (.slice (some ⟨w3.heap.size, 0, none⟩) o.length o.length) o.length (seenV o 0 o.length) := by
    have := World.ownsRow_lit (base := w3.heap.size) (e := 4) (size := 1) w3 (madeCells #[.bool false] o.length) o.length (Nat.le_refl _) (by simp only [maxLen]; omega) (by rw [size_madeCells]; simp)
    rw [toList_madeCells_one] at this
    rw [seenV_zero]; exact this
  have HW0 := Lib.hid hw0
  clear hw0
  go_loopg [11] o.length (fun gk b wr => ∃ k : Nat, gk = o.length - k ∧ k ≤ o.length ∧ b = .int .i64 (k : Int) ∧ wr.ownsRow w3.heap.size 4 1 (.slice (some ⟨w3.heap.size, 0, none⟩) o.length o.length) o.length (seenV o k o.length) ∧ Below w3.heap.size w3 wr)
  case atStart => exact ⟨0, rfl, Nat.zero_le _, rfl, HW0.out, (Below.refl _ _).alloc (Nat.le_refl _) _⟩
  case round =>
    clear HW0
    obtain ⟨k, rfl, hk, rfl, hown, hbel⟩ := hrel
    have HB := Lib.hid hbel
    by_cases hlt : k < o.length
    · obtain ⟨ad, hA1, hce⟩ := (HO3.out.below hbel).at_ k hlt
      subst hA1
      rw [show (intsV o).getD k undef = .int .i64 o[k] from by simp [intsV, hlt]] at hce
      have hm := HMEM.out o[k] (List.getElem_mem hlt)
      obtain ⟨j, hj⟩ := Int.eq_ofNat_of_zero_le hm.1
      have hjl : j < o.length := by omega
      have HSET := Lib.hid (seenV_set o k o.length j hlt hjl hj)
      have hnew : decide ((j : Int) ∈ o.take k) = false := by
        simp only [decide_eq_false_iff_not]
        intro hmem
        obtain ⟨i, hi, he⟩ := List.getElem_of_mem hmem
        have hi' : i < k := by simpa using (by rw [List.length_take] at hi; exact Nat.lt_of_lt_of_le hi (Nat.min_le_left _ _))
        rw [List.getElem_take] at he
        have := (List.getElem_inj HND.out (h₀ := by omega) (h₁ := hlt)).1 (he.trans hj.symm)
        omega
      have cs : wr.cell? ⟨w3.heap.size, j, none⟩ = some (.bool false) := by
        have := hown.cellAt j (by omega)
        rw [this, seenV_at _ _ _ _ hjl, hnew]
      have fs : wr.frozen? ⟨w3.heap.size, j, none⟩ = false := hown.frozenAt j
      have h1n : N = 1 → j = k := fun h => by
        have := HONE.out h k hlt
        omega
      have t1 : ((N : Int) == 1 && (j : Int) != (k : Int)) = false := by
        by_cases h : N = 1
        · have := h1n h; subst this; simp
        · simp; omega
      have HO := Lib.hid hown
      rw [hj] at hce
      have hk' : (k : Int) < (o.length : Int) := by omega
      have hj' : (j : Int) < (o.length : Int) := by omega
      have hj0 : ¬ (j : Int) < 0 := by omega
      clear hown hbel hm hj hnew
      by_cases hN1 : N = 1
      · have hjk := h1n hN1
        have hN1' : ((N : Int) == 1) = true := by simp; omega
        subst hjk
        clear h1n t1 hN1
        go_wp2
        go_roundg (o.length - (j + 1))
        case measure => omega
        case rel =>
          have hst := (HO.out.stored j (.bool true)).1
          rw [HSET.out] at hst
          exact ⟨j + 1, rfl, hlt, by go_num, hst, HB.out.setCell (Nat.le_refl _) _⟩
      · have hN1' : ((N : Int) == 1) = false := by simp; omega
        clear h1n t1 hN1
        go_wp2
        go_roundg (o.length - (k + 1))
        case measure => omega
        case rel =>
          have hst := (HO.out.stored j (.bool true)).1
          rw [HSET.out] at hst
          exact ⟨k + 1, rfl, hlt, by go_num, hst, HB.out.setCell (Nat.le_refl _) _⟩
    · obtain rfl : k = o.length := by omega
      go_wp2
      go_ret
      exact ⟨rfl, bel_trans HB3.out hbel⟩
theorem orders_law (J N : Int) (picks : List Int) (A0 : Option Addr) (n c0 : Nat) (w : World) (hr : Reads w A0 n (intsV picks)) (hp : ∀ p ∈ picks, -9223372036854775808 ≤ p ∧ p ≤ 9223372036854775807) :
    Calls Try.prog 6 #[.int .i64 J, .int .i64 N, .slice A0 n c0] w fun e w' => e = .returned (.bool true) ∧ Below w.heap.size w w' := by
  by_cases h : J < 0 ∨ 256 < J ∨ N < 1 ∨ 64 < N ∨ 3000 < (n : Int)
  · exact orders_out J N A0 n c0 w h
  · obtain ⟨j, rfl⟩ := Int.eq_ofNat_of_zero_le (show 0 ≤ J by omega)
    obtain ⟨m, rfl⟩ := Int.eq_ofNat_of_zero_le (show 0 ≤ N by omega)
    exact orders_in j m picks A0 n c0 w hr hp (by omega) (by omega) (by omega) (by omega)
end Go.Proofs.Ytfokjemoolgojaa

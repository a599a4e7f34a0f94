/- Walks of place, ended, can. -/
import Derived.Test.YtladmconpolneaaGreatCrTell
set_option linter.unusedVariables false
set_option linter.unusedSimpArgs false
namespace Go.Proofs.YtladmconpolneaaGreat.Cr
open Go.RowKit
theorem run_max2 {P : Program} (w : World) (ts : Array TypeId) (t : TypeId) (x y : Int) : (Builtin.max_ ts t #[.int .i64 x, .int .i64 y]).run P w = .ok (.int .i64 (max x y)) w := by
  simp only [Int.max_def]
  simp [Builtin.max_, Builtin.max2]
  repeat' split
  all_goals omega
theorem place_lt (p : Int) (n : Nat) (h : 0 < n) : place p n < n := by
  unfold place
  split
  · exact h
  · exact Nat.mod_lt _ h
theorem place_any (p : Int) (n : Nat) (w : World) (hp : -9223372036854775808 ≤ p) (hp2 : p ≤ 9223372036854775807) (hn : 0 < n) (hn2 : n ≤ 1000) :
    Calls Tryz.prog 184 #[.int .i64 p, .int .i64 (n : Int)] w fun e w' => e = .returned (.int .i64 ((place p n : Nat) : Int)) ∧ w = w' := by
  unfold place
  by_cases h : p = -9223372036854775808
  · rw [if_pos h]
    subst h
    go_enter Tryz.func184, Tryz.ntmps184
    go_wp2
    go_ret
    exact ⟨rfl, rfl⟩
  · rw [if_neg h]
    have h0 : (p == -9223372036854775808) = false := by simpa using h
    have hmax : ∀ w, (Builtin.max_ #[3, 3] 3 #[.int .i64 p, .int .i64 (-p)]).run Tryz.prog w = .ok (.int .i64 ((p.natAbs : Nat) : Int)) w := by
      intro w
      rw [run_max2]
      congr 2; omega
    have d1 : ((p.natAbs : Nat) : Int) % (n : Int) = ((p.natAbs % n : Nat) : Int) := rfl
    have d2 : ((p.natAbs : Nat) : Int).tmod (n : Int) = ((p.natAbs % n : Nat) : Int) := by rw [Int.tmod_eq_emod_of_nonneg (by omega)]; rfl
    have e1 : IntKind.i64.wrap (-p) = -p := by simp [IntKind.wrap, IntKind.bits, IntKind.signed]; omega
    have hl : p.natAbs % n < n := Nat.mod_lt _ hn
    have hb : p.natAbs ≤ 9223372036854775807 := by omega
    have hn0 : (0 : Int) < (n : Int) := by omega
    have hnz : ¬ (n : Int) = 0 := by omega
    generalize hm : p.natAbs = m at *
    generalize m % n = r at *
    go_enter Tryz.func184, Tryz.ntmps184
    go_wp2
    go_ret
    exact ⟨rfl, rfl⟩
theorem wcells_at (l : List (Nat × Int)) (k : Nat) (h : k < l.length) : (wcells l)[k * 2]? = some (.int .i64 ((l[k]).1 : Int)) ∧ (wcells l)[k * 2 + 1]? = some (.int .i64 (l[k]).2) := by
  induction l generalizing k with
  | nil => simp at h
  | cons x l ih =>
    have e : wcells (x :: l) = .int .i64 (x.1 : Int) :: .int .i64 x.2 :: wcells l := rfl
    cases k with
    | zero => exact ⟨rfl, rfl⟩
    | succ k =>
      have := ih k (by simpa using h)
      rw [e, show (k + 1) * 2 = k * 2 + 1 + 1 from by omega, show k * 2 + 1 + 1 + 1 = (k * 2 + 1) + 1 + 1 from rfl]
      simpa using this
theorem ended_any (B C Wb : Nat) (s : St) (vch vev : Value) (w : World) (h : CrewAt w B C Wb s vch vev) (hn : s.ws.length ≤ 64) :
    Calls Tryz.prog 208 #[.pointer (some ⟨C, 0, none⟩)] w fun e w' => e = .returned (.bool s.ended) ∧ Below w.heap.size w w' := by
  have c4 : w.cell? ⟨C, 4, none⟩ = some (.slice (some ⟨Wb, 0, none⟩) s.ws.length s.ws.length) := crew_cell h 4
  have H := Lib.hid h
  clear h
  go_enter Tryz.func208, Tryz.ntmps208
  go_wp2
  go_loopg [10] s.ws.length (fun gk b wr => Below w.heap.size w wr ∧ ∃ k : Nat, gk = s.ws.length - k ∧ k ≤ s.ws.length ∧ b = .int .i64 (k : Int) ∧ (s.ws.take k).all (fun x => x.1 == 8) = true)
  case atStart => exact ⟨Below.refl _ _, 0, rfl, Nat.zero_le _, rfl, rfl⟩
  case round =>
    obtain ⟨hbel, k, rfl, hk, rfl, hall⟩ := hrel
    by_cases hlt : k < s.ws.length
    · have hw := (H.out.below hbel).hw
      have c1 : wr.cell? ⟨Wb, k * 2, none⟩ = some (.int .i64 ((s.ws[k]).1 : Int)) := by rw [cell_of_row _ _ _ _ _ _ hw]; have := (wcells_at s.ws k hlt).1; simpa using this
      have c2 : wr.cell? ⟨Wb, k * 2 + 1, none⟩ = some (.int .i64 (s.ws[k]).2) := by rw [cell_of_row _ _ _ _ _ _ hw]; have := (wcells_at s.ws k hlt).2; simpa using this
      have hlt' : (k : Int) < (s.ws.length : Int) := by omega
      have HT : Hid ((s.ws.take (k + 1)).all (fun x => x.1 == 8) = ((s.ws[k]).1 == 8)) := by show _ = _; rw [List.take_succ_eq_append_getElem hlt, List.all_append, hall]; simp
      have HA : Hid (s.ended = true → (s.ws[k]).1 = 8) := fun h => by
        unfold St.ended at h
        rw [List.all_eq_true] at h
        simpa using h _ (List.getElem_mem hlt)
      have HB := Lib.hid hbel
      clear hw hall hbel
      generalize (s.ws[k]).2 = jb at *
      generalize (s.ws[k]).1 = nx at *
      by_cases hx : nx = 8
      · subst hx
        go_wp2
        go_roundg (s.ws.length - (k + 1))
        case measure => omega
        case rel => exact ⟨HB.out.alloc HB.out.size _, k + 1, rfl, hlt, by go_num, by rw [HT.out]; rfl⟩
      · have hx2 : ((nx : Int) != 8) = true := by simp; omega
        have hE : s.ended = false := by
          cases h : s.ended with
          | false => rfl
          | true => exact absurd (HA.out h) hx
        have HE := Lib.hid hE
        clear hx hE
        go_wp2
        go_ret
        exact ⟨by rw [HE.out]; rfl, HB.out.alloc HB.out.size _⟩
    · obtain rfl : k = s.ws.length := by omega
      have hE : s.ended = true := by unfold St.ended; rw [List.take_length] at hall; exact hall
      have HE := Lib.hid hE
      clear hE hall
      go_wp2
      go_ret
      exact ⟨by rw [HE.out]; rfl, hbel⟩
theorem getD_lt {α : Type} (l : List α) (i : Nat) (d : α) (h : i < l.length) : l.getD i d = l[i] := by
  rw [List.getD_eq_getElem?_getD, List.getElem?_eq_getElem h]; rfl
theorem can_zero (B C Wb : Nat) (s : St) (vch vev : Value) (w : World) (h : CrewAt w B C Wb s vch vev) (hn : s.ws.length ≤ 64) (hj : s.jobs ≤ 256) (hs : s.sent ≤ 256) (hc : s.ch.length ≤ 256) :
    Calls Tryz.prog 183 #[.pointer (some ⟨C, 0, none⟩), .int .i64 0] w fun e w' => e = .returned (.bool (s.can 0)) ∧ Below w.heap.size w w' := by
  have c0 : w.cell? ⟨C, 0, none⟩ = some (.int .i64 (s.jobs : Int)) := crew_cell h 0
  have c1 : w.cell? ⟨C, 1, none⟩ = some (.int .i64 (s.sent : Int)) := crew_cell h 1
  have c2 : w.cell? ⟨C, 2, none⟩ = some vch := crew_cell h 2
  have c3 : w.cell? ⟨C, 3, none⟩ = some (.bool s.closed) := crew_cell h 3
  have c4 : w.cell? ⟨C, 4, none⟩ = some (.slice (some ⟨Wb, 0, none⟩) s.ws.length s.ws.length) := crew_cell h 4
  obtain ⟨A, c, rfl⟩ := h.hq.slice
  have HE := Lib.hid (fun w1 hb => ended_any B C Wb s _ vev w1 (h.below hb) hn)
  have HC : Hid (s.can 0 = (if s.sent < s.jobs then decide (s.ch.length < s.ws.length) else !s.closed || s.ended)) := by show _ = _; unfold St.can; rw [if_pos rfl]
  clear h
  generalize s.ch.length = cl at *
  generalize s.ws.length = wl at *
  generalize s.sent = st at *
  generalize s.jobs = jb at *
  by_cases h1 : st < jb
  · rw [if_pos h1] at HC
    have h1' : (st : Int) < (jb : Int) := by omega
    go_enter Tryz.func183, Tryz.ntmps183
    go_wp2_with (go_quiet (fail))
    go_ret
    refine ⟨?_, bel_drewN (bel_drewN (Below.refl _ _) _) _⟩
    rw [HC.out]
    simp
  · rw [if_neg h1] at HC
    have h1' : ¬ (st : Int) < (jb : Int) := by omega
    cases hcl : s.closed with
    | false =>
      rw [hcl] at c3 HC
      go_enter Tryz.func183, Tryz.ntmps183
      go_wp2_with (go_quiet (fail))
      go_ret
      exact ⟨by rw [HC.out]; simp, bel_drewN (Below.refl _ _) _⟩
    | true =>
      rw [hcl] at c3 HC
      go_enter Tryz.func183, Tryz.ntmps183
      go_wp2_with (first
        | go_quiet (fail)
        | (go_at_call 208; refine (HE.out _ (bel_drewN (Below.refl _ _) _)).mono ?_; rintro e w2 ⟨rfl, hb2⟩))
      go_ret
      exact ⟨by rw [HC.out]; simp, (bel_drewN (Below.refl _ _) _).trans hb2⟩
theorem can_pos (B C Wb : Nat) (s : St) (vch vev : Value) (a : Nat) (w : World) (h : CrewAt w B C Wb s vch vev) (hn : s.ws.length ≤ 64) (hc : s.ch.length ≤ 256) (ha : 0 < a) (ha2 : a ≤ s.ws.length) (hlk : -1 ≤ s.locked ∧ s.locked ≤ 64) (hw8 : (s.w a).1 ≤ 8) :
    Calls Tryz.prog 183 #[.pointer (some ⟨C, 0, none⟩), .int .i64 (a : Int)] w fun e w' => e = .returned (.bool (s.can a)) ∧ Below w.heap.size w w' := by
  have c2 : w.cell? ⟨C, 2, none⟩ = some vch := crew_cell h 2
  have c3 : w.cell? ⟨C, 3, none⟩ = some (.bool s.closed) := crew_cell h 3
  have c4 : w.cell? ⟨C, 4, none⟩ = some (.slice (some ⟨Wb, 0, none⟩) s.ws.length s.ws.length) := crew_cell h 4
  have c5 : w.cell? ⟨C, 5, none⟩ = some (.int .i64 s.locked) := crew_cell h 5
  obtain ⟨A, c, rfl⟩ := h.hq.slice
  obtain ⟨b, rfl⟩ : ∃ b, a = b + 1 := ⟨a - 1, by omega⟩
  have hb : b < s.ws.length := by omega
  have ew : s.w (b + 1) = s.ws[b] := by unfold St.w; exact getD_lt _ _ _ hb
  have c6 : w.cell? ⟨Wb, b * 2, none⟩ = some (.int .i64 ((s.ws[b]).1 : Int)) := by rw [cell_of_row _ _ _ _ _ _ h.hw]; have := (wcells_at s.ws b hb).1; simpa using this
  have HC : Hid (s.can (b + 1) = if (s.w (b + 1)).1 = 3 then s.closed || decide (0 < s.ch.length) else if (s.w (b + 1)).1 = 5 then s.locked == -1 else if (s.w (b + 1)).1 = 8 then false else true) := by show _ = _; unfold St.can; rw [if_neg (by omega)]
  rw [ew] at HC hw8
  have eb : ((b + 1 : Nat) : Int) - 1 = (b : Int) := by omega
  clear h ew ha
  generalize (s.ws[b]).1 = nx at *
  generalize s.ch.length = cl at *
  generalize s.ws.length = wl at *
  generalize s.closed = cd at *
  generalize s.locked = lk at *
  have hb' : (b : Int) < (wl : Int) := by omega
  by_cases h3 : nx = 3
  · subst h3
    rw [if_pos rfl] at HC
    cases cd
    all_goals
      go_enter Tryz.func183, Tryz.ntmps183
      go_wp2
      go_ret
      exact ⟨by rw [HC.out]; simp, Below.refl _ _⟩
  · by_cases h5 : nx = 5
    · subst h5
      rw [if_neg (by decide), if_pos rfl] at HC
      go_enter Tryz.func183, Tryz.ntmps183
      go_wp2
      go_ret
      exact ⟨by rw [HC.out]; simp, Below.refl _ _⟩
    · by_cases h8 : nx = 8
      · subst h8
        rw [if_neg (by decide), if_neg (by decide), if_pos rfl] at HC
        go_enter Tryz.func183, Tryz.ntmps183
        go_wp2
        go_ret
        exact ⟨by rw [HC.out]; simp, Below.refl _ _⟩
      · rw [if_neg h3, if_neg h5, if_neg h8] at HC
        have t3 : ((nx : Int) == 3) = false := by simp; omega
        have t5 : ((nx : Int) == 5) = false := by simp; omega
        have t8 : ((nx : Int) == 8) = false := by simp; omega
        go_enter Tryz.func183, Tryz.ntmps183
        go_wp2
        go_ret
        exact ⟨by rw [HC.out]; simp, Below.refl _ _⟩
end Go.Proofs.YtladmconpolneaaGreat.Cr

/- The walk of work: the other steps. -/
import Derived.Test.YtladmconpolneaaGreatCrWork
set_option linter.unusedVariables false
set_option linter.unusedSimpArgs false
namespace Go.Proofs.YtladmconpolneaaGreat.Cr
open Go.RowKit
theorem own_wb_far {w : World} {b c i : Nat} {v u : Value} {t t' : TypeId} {cs : Array Value} (h : w.heap[b]? = some (.cells #[u] t (0, 0))) (hc : w.heap[c]? = some (.cells cs t' (0, 0))) (ht : t ≠ t') : (w.setCell ⟨c, i, none⟩ v).cell? ⟨b, 0, none⟩ = some u := cell_of_one (box_far h hc ht)
/-- A field of the crew, or one of a worker, written in the midst of a step. -/
theorem StepAt.lock {w W : World} {B C Wb i a b1 b2 b3 : Nat} {s : St} {vch vev : Value} (H : StepAt w W B C Wb i a b1 b2 b3 s vch vev) (n : Int) :
    StepAt w (W.setCell ⟨C, 5, none⟩ (.int .i64 n)) B C Wb i a b1 b2 b3 { s with locked := n } vch vev :=
  ⟨H.crew.set 5 (.int .i64 n) _ _ _ rfl rfl H.crew.hq H.crew.he, box_far H.h1 H.crew.hc (by decide), box_far H.h2 H.crew.hc (by decide), box_far H.h3 H.crew.hc (by decide), H.bel.setCell H.crew.hBC _, by have := H.size; simpa [World.setCell] using this⟩
theorem StepAt.next {w W : World} {B C Wb i a b1 b2 b3 n nx : Nat} {j : Int} {s : St} {vch vev : Value} (H : StepAt w W B C Wb i a b1 b2 b3 s vch vev) (hi : i < s.ws.length) (hw : s.ws[i] = (nx, j)) :
    StepAt w (W.setCell ⟨Wb, i * 2, none⟩ (.int .i64 (n : Int))) B C Wb i a b1 b2 b3 (s.setW i n j) vch vev :=
  ⟨H.crew.setWs (i * 2) (.int .i64 (n : Int)) (s.ws.set i (n, j)) (by simp) (by have := wcells_set1 s.ws i n hi; rw [hw] at this; exact this), box_far H.h1 H.crew.hw (by decide), box_far H.h2 H.crew.hw (by decide), box_far H.h3 H.crew.hw (by decide), H.bel.setCell H.crew.hBW _, by have := H.size; simpa [World.setCell] using this⟩
set_option maxHeartbeats 800000 in
theorem work_build (B C Wb : Nat) (s : St) (vch vev : Value) (i a : Nat) (jb : Int) (w : World) (h : CrewAt w B C Wb s vch vev) (hB : B ≤ w.heap.size) (hl : s.ev.length ≤ 100000) (hi : i < s.ws.length) (ha : a = i + 1) (hn : s.ws.length ≤ 64)
    (hw : s.ws[i] = (4, jb)) :
    Calls Tryz.prog 185 #[.pointer (some ⟨C, 0, none⟩), .int .i64 (a : Int)] w (ThenPost B C Wb ((s.setW i 5 jb).tell a 4 jb) w) := by
  have es : (a : Int) - 1 = (i : Int) := by omega
  have ha64 : a ≤ 64 := by omega
  have c4 : ∀ o1 o2, ((w.alloc o1).alloc o2).cell? ⟨C, 4, none⟩ = some (.slice (some ⟨Wb, 0, none⟩) s.ws.length s.ws.length) := fun o1 o2 => by
    have hb : Below w.heap.size w ((w.alloc o1).alloc o2) := ((Below.refl _ _).alloc (Nat.le_refl _) _).alloc (by simp) _
    exact crew_cell (h.below hb) 4
  have c4' : ∀ o1 o2 o3, (((w.alloc o1).alloc o2).alloc o3).cell? ⟨C, 4, none⟩ = some (.slice (some ⟨Wb, 0, none⟩) s.ws.length s.ws.length) := fun o1 o2 o3 => by
    have hb : Below w.heap.size w (((w.alloc o1).alloc o2).alloc o3) := (((Below.refl _ _).alloc (Nat.le_refl _) _).alloc (by simp) _).alloc (by simp; omega) _
    exact crew_cell (h.below hb) 4
  have HA := Lib.hid (step_at (i := i) (a := a) h hB)
  have hi' : (i : Int) < (s.ws.length : Int) := by omega
  clear h ha
  go_enter Tryz.func185, Tryz.ntmps185
  go_wp2
  go_region
  clear c4 c4'
  generalize ((((w.alloc (.cells #[.pointer (some ⟨C, 0, none⟩)] 300)).alloc (.cells #[.int .i64 (a : Int)] 3)).alloc (.cells #[.pointer (some ⟨Wb, i * 2, none⟩)] 327)).drew) = W at *
  generalize w.heap.size + 1 + 1 = b3 at *
  generalize w.heap.size + 1 = b2 at *
  generalize w.heap.size = b1 at *
  all_goals
    have cb1 := cell_of_one HA.out.h1
    have cb2 := cell_of_one HA.out.h2
    have cb3 := cell_of_one HA.out.h3
    obtain ⟨k4, k5⟩ := worker_cells HA.out.crew i hi
    rw [hw] at k4 k5
    have HW := Lib.hid hw
    clear hw
    have HT := Lib.hid (then_any B C Wb b1 b2 b3 s vch vev a i 5 4 jb W HA.out.crew HA.out.size hl HA.out.h1 HA.out.h2 HA.out.h3 hi HW.out)
    go_wp2_with (go_at_call 209; refine (HT.out).mono ?_; rintro e w2 ⟨rfl, hb2, v1, v2, h2⟩)
    go_end0
    exact ⟨rfl, HA.out.bel.trans hb2, v1, v2, h2⟩
set_option maxHeartbeats 800000 in
theorem work_put (B C Wb : Nat) (s : St) (vch vev : Value) (i a : Nat) (jb : Int) (w : World) (h : CrewAt w B C Wb s vch vev) (hB : B ≤ w.heap.size) (hl : s.ev.length ≤ 100000) (hi : i < s.ws.length) (ha : a = i + 1) (hn : s.ws.length ≤ 64)
    (hw : s.ws[i] = (6, jb)) :
    Calls Tryz.prog 185 #[.pointer (some ⟨C, 0, none⟩), .int .i64 (a : Int)] w (ThenPost B C Wb ((s.setW i 7 jb).tell a 6 jb) w) := by
  have es : (a : Int) - 1 = (i : Int) := by omega
  have ha64 : a ≤ 64 := by omega
  have c4 : ∀ o1 o2, ((w.alloc o1).alloc o2).cell? ⟨C, 4, none⟩ = some (.slice (some ⟨Wb, 0, none⟩) s.ws.length s.ws.length) := fun o1 o2 => by
    have hb : Below w.heap.size w ((w.alloc o1).alloc o2) := ((Below.refl _ _).alloc (Nat.le_refl _) _).alloc (by simp) _
    exact crew_cell (h.below hb) 4
  have c4' : ∀ o1 o2 o3, (((w.alloc o1).alloc o2).alloc o3).cell? ⟨C, 4, none⟩ = some (.slice (some ⟨Wb, 0, none⟩) s.ws.length s.ws.length) := fun o1 o2 o3 => by
    have hb : Below w.heap.size w (((w.alloc o1).alloc o2).alloc o3) := (((Below.refl _ _).alloc (Nat.le_refl _) _).alloc (by simp) _).alloc (by simp; omega) _
    exact crew_cell (h.below hb) 4
  have HA := Lib.hid (step_at (i := i) (a := a) h hB)
  have hi' : (i : Int) < (s.ws.length : Int) := by omega
  clear h ha
  go_enter Tryz.func185, Tryz.ntmps185
  go_wp2
  go_region
  clear c4 c4'
  generalize ((((w.alloc (.cells #[.pointer (some ⟨C, 0, none⟩)] 300)).alloc (.cells #[.int .i64 (a : Int)] 3)).alloc (.cells #[.pointer (some ⟨Wb, i * 2, none⟩)] 327)).drew) = W at *
  generalize w.heap.size + 1 + 1 = b3 at *
  generalize w.heap.size + 1 = b2 at *
  generalize w.heap.size = b1 at *
  all_goals
    have cb1 := cell_of_one HA.out.h1
    have cb2 := cell_of_one HA.out.h2
    have cb3 := cell_of_one HA.out.h3
    obtain ⟨k4, k5⟩ := worker_cells HA.out.crew i hi
    rw [hw] at k4 k5
    have HW := Lib.hid hw
    clear hw
    have HT := Lib.hid (then_any B C Wb b1 b2 b3 s vch vev a i 7 6 jb W HA.out.crew HA.out.size hl HA.out.h1 HA.out.h2 HA.out.h3 hi HW.out)
    go_wp2_with (go_at_call 209; refine (HT.out).mono ?_; rintro e w2 ⟨rfl, hb2, v1, v2, h2⟩)
    go_end0
    exact ⟨rfl, HA.out.bel.trans hb2, v1, v2, h2⟩
set_option maxHeartbeats 800000 in
theorem work_lock (B C Wb : Nat) (s : St) (vch vev : Value) (i a : Nat) (jb : Int) (w : World) (h : CrewAt w B C Wb s vch vev) (hB : B ≤ w.heap.size) (hl : s.ev.length ≤ 100000) (hi : i < s.ws.length) (ha : a = i + 1) (hn : s.ws.length ≤ 64)
    (hw : s.ws[i] = (5, jb)) :
    Calls Tryz.prog 185 #[.pointer (some ⟨C, 0, none⟩), .int .i64 (a : Int)] w (ThenPost B C Wb { (s.setW i 6 jb).tell a 5 jb with locked := (a : Int) } w) := by
  have es : (a : Int) - 1 = (i : Int) := by omega
  have ha64 : a ≤ 64 := by omega
  have c4 : ∀ o1 o2, ((w.alloc o1).alloc o2).cell? ⟨C, 4, none⟩ = some (.slice (some ⟨Wb, 0, none⟩) s.ws.length s.ws.length) := fun o1 o2 => by
    have hb : Below w.heap.size w ((w.alloc o1).alloc o2) := ((Below.refl _ _).alloc (Nat.le_refl _) _).alloc (by simp) _
    exact crew_cell (h.below hb) 4
  have c4' : ∀ o1 o2 o3, (((w.alloc o1).alloc o2).alloc o3).cell? ⟨C, 4, none⟩ = some (.slice (some ⟨Wb, 0, none⟩) s.ws.length s.ws.length) := fun o1 o2 o3 => by
    have hb : Below w.heap.size w (((w.alloc o1).alloc o2).alloc o3) := (((Below.refl _ _).alloc (Nat.le_refl _) _).alloc (by simp) _).alloc (by simp; omega) _
    exact crew_cell (h.below hb) 4
  have HA := Lib.hid (step_at (i := i) (a := a) h hB)
  have hi' : (i : Int) < (s.ws.length : Int) := by omega
  clear h ha
  go_enter Tryz.func185, Tryz.ntmps185
  go_wp2
  go_region
  clear c4 c4'
  generalize ((((w.alloc (.cells #[.pointer (some ⟨C, 0, none⟩)] 300)).alloc (.cells #[.int .i64 (a : Int)] 3)).alloc (.cells #[.pointer (some ⟨Wb, i * 2, none⟩)] 327)).drew) = W at *
  generalize w.heap.size + 1 + 1 = b3 at *
  generalize w.heap.size + 1 = b2 at *
  generalize w.heap.size = b1 at *
  all_goals
    have cb1 := cell_of_one HA.out.h1
    have cb2 := cell_of_one HA.out.h2
    have cb3 := cell_of_one HA.out.h3
    obtain ⟨k4, k5⟩ := worker_cells HA.out.crew i hi
    rw [hw] at k4 k5
    have HW := Lib.hid hw
    clear hw
    have f5 : W.frozen? ⟨C, 5, none⟩ = false := frozen_of_row _ _ _ _ _ HA.out.crew.hc
    have c5 : W.cell? ⟨C, 5, none⟩ = some (.int .i64 s.locked) := crew_cell HA.out.crew 5
    have HL := Lib.hid (HA.out.lock (a : Int))
    have HT := Lib.hid (then_any B C Wb b1 b2 b3 { s with locked := (a : Int) } vch vev a i 6 5 jb _ HL.out.crew HL.out.size hl HL.out.h1 HL.out.h2 HL.out.h3 hi HW.out)
    go_wp2_with (go_at_call 209; refine (HT.out).mono ?_; rintro e w2 ⟨rfl, hb2, v1, v2, h2⟩)
    go_end0
    exact ⟨rfl, HL.out.bel.trans hb2, v1, v2, h2⟩
set_option maxHeartbeats 800000 in
theorem work_unlock (B C Wb : Nat) (s : St) (vch vev : Value) (i a : Nat) (jb : Int) (w : World) (h : CrewAt w B C Wb s vch vev) (hB : B ≤ w.heap.size) (hl : s.ev.length ≤ 100000) (hi : i < s.ws.length) (ha : a = i + 1) (hn : s.ws.length ≤ 64)
    (hw : s.ws[i] = (7, jb)) :
    Calls Tryz.prog 185 #[.pointer (some ⟨C, 0, none⟩), .int .i64 (a : Int)] w (ThenPost B C Wb { (s.setW i 3 jb).tell a 7 jb with locked := -1 } w) := by
  have es : (a : Int) - 1 = (i : Int) := by omega
  have ha64 : a ≤ 64 := by omega
  have c4 : ∀ o1 o2, ((w.alloc o1).alloc o2).cell? ⟨C, 4, none⟩ = some (.slice (some ⟨Wb, 0, none⟩) s.ws.length s.ws.length) := fun o1 o2 => by
    have hb : Below w.heap.size w ((w.alloc o1).alloc o2) := ((Below.refl _ _).alloc (Nat.le_refl _) _).alloc (by simp) _
    exact crew_cell (h.below hb) 4
  have c4' : ∀ o1 o2 o3, (((w.alloc o1).alloc o2).alloc o3).cell? ⟨C, 4, none⟩ = some (.slice (some ⟨Wb, 0, none⟩) s.ws.length s.ws.length) := fun o1 o2 o3 => by
    have hb : Below w.heap.size w (((w.alloc o1).alloc o2).alloc o3) := (((Below.refl _ _).alloc (Nat.le_refl _) _).alloc (by simp) _).alloc (by simp; omega) _
    exact crew_cell (h.below hb) 4
  have HA := Lib.hid (step_at (i := i) (a := a) h hB)
  have hi' : (i : Int) < (s.ws.length : Int) := by omega
  clear h ha
  go_enter Tryz.func185, Tryz.ntmps185
  go_wp2
  go_region
  clear c4 c4'
  generalize ((((w.alloc (.cells #[.pointer (some ⟨C, 0, none⟩)] 300)).alloc (.cells #[.int .i64 (a : Int)] 3)).alloc (.cells #[.pointer (some ⟨Wb, i * 2, none⟩)] 327)).drew) = W at *
  generalize w.heap.size + 1 + 1 = b3 at *
  generalize w.heap.size + 1 = b2 at *
  generalize w.heap.size = b1 at *
  all_goals
    have cb1 := cell_of_one HA.out.h1
    have cb2 := cell_of_one HA.out.h2
    have cb3 := cell_of_one HA.out.h3
    obtain ⟨k4, k5⟩ := worker_cells HA.out.crew i hi
    rw [hw] at k4 k5
    have HW := Lib.hid hw
    clear hw
    have f5 : W.frozen? ⟨C, 5, none⟩ = false := frozen_of_row _ _ _ _ _ HA.out.crew.hc
    have c5 : W.cell? ⟨C, 5, none⟩ = some (.int .i64 s.locked) := crew_cell HA.out.crew 5
    have HL := Lib.hid (HA.out.lock (-1))
    have HT := Lib.hid (then_any B C Wb b1 b2 b3 { s with locked := (-1) } vch vev a i 3 7 jb _ HL.out.crew HL.out.size hl HL.out.h1 HL.out.h2 HL.out.h3 hi HW.out)
    go_wp2_with (go_at_call 209; refine (HT.out).mono ?_; rintro e w2 ⟨rfl, hb2, v1, v2, h2⟩)
    go_end0
    exact ⟨rfl, HL.out.bel.trans hb2, v1, v2, h2⟩
set_option maxHeartbeats 800000 in
theorem work_end (B C Wb : Nat) (s : St) (vch vev : Value) (i a : Nat) (jb : Int) (w : World) (h : CrewAt w B C Wb s vch vev) (hB : B ≤ w.heap.size) (hl : s.ev.length ≤ 100000) (hi : i < s.ws.length) (ha : a = i + 1) (hn : s.ws.length ≤ 64) (hq : s.ch = [])
    (hw : s.ws[i] = (3, jb)) :
    Calls Tryz.prog 185 #[.pointer (some ⟨C, 0, none⟩), .int .i64 (a : Int)] w (ThenPost B C Wb ((s.setW i 8 jb).tell a 8 (-1)) w) := by
  have es : (a : Int) - 1 = (i : Int) := by omega
  have ha64 : a ≤ 64 := by omega
  have c4 : ∀ o1 o2, ((w.alloc o1).alloc o2).cell? ⟨C, 4, none⟩ = some (.slice (some ⟨Wb, 0, none⟩) s.ws.length s.ws.length) := fun o1 o2 => by
    have hb : Below w.heap.size w ((w.alloc o1).alloc o2) := ((Below.refl _ _).alloc (Nat.le_refl _) _).alloc (by simp) _
    exact crew_cell (h.below hb) 4
  have c4' : ∀ o1 o2 o3, (((w.alloc o1).alloc o2).alloc o3).cell? ⟨C, 4, none⟩ = some (.slice (some ⟨Wb, 0, none⟩) s.ws.length s.ws.length) := fun o1 o2 o3 => by
    have hb : Below w.heap.size w (((w.alloc o1).alloc o2).alloc o3) := (((Below.refl _ _).alloc (Nat.le_refl _) _).alloc (by simp) _).alloc (by simp; omega) _
    exact crew_cell (h.below hb) 4
  have HA := Lib.hid (step_at (i := i) (a := a) h hB)
  have hi' : (i : Int) < (s.ws.length : Int) := by omega
  obtain ⟨A0, c0, rfl⟩ : ∃ A0 c0, vch = .slice A0 0 c0 := by
    obtain ⟨A, c, hv⟩ := h.hq.slice
    exact ⟨A, c, by rw [hv, hq]; rfl⟩
  clear h ha
  go_enter Tryz.func185, Tryz.ntmps185
  go_wp2
  go_region
  clear c4 c4'
  generalize ((((w.alloc (.cells #[.pointer (some ⟨C, 0, none⟩)] 300)).alloc (.cells #[.int .i64 (a : Int)] 3)).alloc (.cells #[.pointer (some ⟨Wb, i * 2, none⟩)] 327)).drew) = W at *
  generalize w.heap.size + 1 + 1 = b3 at *
  generalize w.heap.size + 1 = b2 at *
  generalize w.heap.size = b1 at *
  all_goals
    have cb1 := cell_of_one HA.out.h1
    have cb2 := cell_of_one HA.out.h2
    have cb3 := cell_of_one HA.out.h3
    obtain ⟨k4, k5⟩ := worker_cells HA.out.crew i hi
    rw [hw] at k4 k5
    have HW := Lib.hid hw
    clear hw
    have c2 : W.cell? ⟨C, 2, none⟩ = some (.slice A0 0 c0) := crew_cell HA.out.crew 2
    have f5 : W.frozen? ⟨Wb, i * 2, none⟩ = false := frozen_of_row _ _ _ _ _ HA.out.crew.hw
    have HL := Lib.hid (HA.out.next (n := 8) hi HW.out)
    have sb1 : (W.setCell ⟨Wb, i * 2, none⟩ (.int .i64 8)).cell? ⟨b1, 0, none⟩ = some (.pointer (some ⟨C, 0, none⟩)) := cell_of_one HL.out.h1
    have sb2 : (W.setCell ⟨Wb, i * 2, none⟩ (.int .i64 8)).cell? ⟨b2, 0, none⟩ = some (.int .i64 (a : Int)) := cell_of_one HL.out.h2
    have HT := Lib.hid (tell_any B C Wb (s.setW i 8 jb) _ vev a 8 (-1) _ HL.out.crew HL.out.size hl)
    go_wp2_with (go_at_call 210; refine (HT.out).mono ?_; rintro e w2 ⟨rfl, v2, h2, hb2, hk2⟩)
    go_end0
    exact ⟨rfl, HL.out.bel.trans hb2, _, v2, h2⟩
end Go.Proofs.YtladmconpolneaaGreat.Cr

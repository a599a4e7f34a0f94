/- The walk of work. -/
import Derived.Test.YtladmconpolneaaGreatCrLead
import Derived.StillTailTactics
set_option linter.unusedVariables false
set_option linter.unusedSimpArgs false
namespace Go.Proofs.YtladmconpolneaaGreat.Cr
open Go.RowKit
theorem wcells_length (l : List (Nat × Int)) : (wcells l).length = l.length * 2 := by
  induction l with
  | nil => rfl
  | cons x l ih =>
    have e : wcells (x :: l) = .int .i64 (x.1 : Int) :: .int .i64 x.2 :: wcells l := rfl
    rw [e, List.length_cons, List.length_cons, ih, List.length_cons]; omega
theorem wcells_set1 (l : List (Nat × Int)) (i n : Nat) (h : i < l.length) : (wcells l).set (i * 2) (.int .i64 (n : Int)) = wcells (l.set i (n, (l[i]).2)) := by
  induction l generalizing i with
  | nil => simp at h
  | cons x l ih =>
    have e : wcells (x :: l) = .int .i64 (x.1 : Int) :: .int .i64 x.2 :: wcells l := rfl
    cases i with
    | zero => rfl
    | succ i =>
      have := ih i (by simpa using h)
      rw [e, show (i + 1) * 2 = i * 2 + 1 + 1 from by omega, List.set_cons_succ, List.set_cons_succ, this]
      rfl
theorem wcells_set2 (l : List (Nat × Int)) (i : Nat) (j : Int) (h : i < l.length) : (wcells l).set (i * 2 + 1) (.int .i64 j) = wcells (l.set i ((l[i]).1, j)) := by
  induction l generalizing i with
  | nil => simp at h
  | cons x l ih =>
    have e : wcells (x :: l) = .int .i64 (x.1 : Int) :: .int .i64 x.2 :: wcells l := rfl
    cases i with
    | zero => rfl
    | succ i =>
      have := ih i (by simpa using h)
      rw [e, show (i + 1) * 2 + 1 = i * 2 + 1 + 1 + 1 from by omega, List.set_cons_succ, List.set_cons_succ, this]
      rfl
theorem CrewAt.setWs {w : World} {B C Wb : Nat} {s : St} {vch vev : Value} (h : CrewAt w B C Wb s vch vev) (i : Nat) (v : Value) (ws' : List (Nat × Int)) (hl : ws'.length = s.ws.length) (hv : (wcells s.ws).set i v = wcells ws') :
    CrewAt (w.setCell ⟨Wb, i, none⟩ v) B C Wb { s with ws := ws' } vch vev := by
  refine ⟨h.hBC, h.hBW, ?_, ?_, ?_, ?_⟩
  · rw [heap_setCell_other _ _ _ _ (crew_ne h).symm, h.hc]
    unfold crewV
    rw [hl]
  · rw [heap_setCell_same _ _ _ _ _ _ h.hw]
    have : (wcells s.ws).toArray.setIfInBounds i v = (wcells ws').toArray := by rw [← hv]; simp
    rw [this]
  · refine h.hq.kept fun g hg => ?_
    rw [heap_setCell_other _ _ _ _ (by rintro rfl; exact q_far h.hq h.hw (by decide) hg.symm)]
  · exact ownsRow_setCell_other h.he (a := ⟨Wb, i, none⟩) (fun e => own_far h.he h.hw (by decide) e.symm) v
theorem worker_cells {w : World} {B C Wb : Nat} {s : St} {vch vev : Value} (h : CrewAt w B C Wb s vch vev) (i : Nat) (hi : i < s.ws.length) :
    w.cell? ⟨Wb, i * 2, none⟩ = some (.int .i64 ((s.ws[i]).1 : Int)) ∧ w.cell? ⟨Wb, i * 2 + 1, none⟩ = some (.int .i64 (s.ws[i]).2) := by
  rw [cell_of_row _ _ _ _ _ _ h.hw, cell_of_row _ _ _ _ _ _ h.hw]
  have := wcells_at s.ws i hi
  simpa using this
/-- What a worker's step tells. -/
def ThenPost (B C Wb : Nat) (s' : St) (w : World) (e : Ending) (w' : World) : Prop := e = .returned (.tuple #[]) ∧ Below B w w' ∧ ∃ vch' vev', CrewAt w' B C Wb s' vch' vev'
set_option maxRecDepth 100000 in
set_option maxHeartbeats 1600000 in
theorem then_any (B C Wb b1 b2 b3 : Nat) (s : St) (vch vev : Value) (a i n nx : Nat) (j : Int) (w : World) (h : CrewAt w B C Wb s vch vev) (hB : B ≤ w.heap.size) (hl : s.ev.length ≤ 100000)
    (h1 : w.heap[b1]? = some (.cells #[.pointer (some ⟨C, 0, none⟩)] 300 (0, 0))) (h2 : w.heap[b2]? = some (.cells #[.int .i64 (a : Int)] 3 (0, 0))) (h3 : w.heap[b3]? = some (.cells #[.pointer (some ⟨Wb, i * 2, none⟩)] 327 (0, 0)))
    (hi : i < s.ws.length) (hw : s.ws[i] = (nx, j)) :
    Calls Tryz.prog 209 #[.int .i64 (n : Int), .pointer (some ⟨b1, 0, none⟩), .pointer (some ⟨b2, 0, none⟩), .pointer (some ⟨b3, 0, none⟩)] w (ThenPost B C Wb ((s.setW i n j).tell a nx j) w) := by
  have k1 := cell_of_one h1
  have k2 := cell_of_one h2
  have k3 := cell_of_one h3
  obtain ⟨k4, k5⟩ := worker_cells h i hi
  rw [hw] at k4 k5
  have HT := Lib.hid (fun w1 (hb : Below w.heap.size w w1) => tell_any B C Wb s vch vev a nx j w1 (h.below hb) (Nat.le_trans hB hb.size) hl)
  have H3 := Lib.hid h3
  have HW := Lib.hid hw
  have HB := Lib.hid hB
  clear h h1 h2 h3 hw hB
  go_enter Tryz.func209, Tryz.ntmps209
  go_wp2
  go_still_tail 10, (by kernel_rfl)
  change wpList _ _ _ _ _ w.drew
  go_wp2_with (go_at_call 210; refine (HT.out _ ((Below.refl _ _).drew)).mono ?_; rintro e w2 ⟨rfl, vev2, h2, hb2, hk2⟩; have m3 : w2.cell? ⟨b3, 0, none⟩ = some (.pointer (some ⟨Wb, i * 2, none⟩)) := (cell_of_one (v := .pointer (some ⟨Wb, i * 2, none⟩)) (t := 327) (by rw [hk2 b3 _ 327 H3.out (by decide)]; exact H3.out)); have m4 := (worker_cells h2 i hi).1; have m5 : w2.frozen? ⟨Wb, i * 2, none⟩ = false := frozen_of_row _ _ _ _ _ h2.hw; have H2 := Lib.hid h2; clear h2)
  go_end0
  refine ⟨rfl, (((Below.refl B w).drew).trans hb2).setCell H2.out.hBW _, vch, vev2, ?_⟩
  exact H2.out.setWs (i * 2) (.int .i64 (n : Int)) (s.ws.set i (n, j)) (by simp [St.tell]) (by
    have := wcells_set1 s.ws i n hi
    rw [HW.out] at this
    exact this)
/-- The crew, and the boxes of a step. -/
structure StepAt (w W : World) (B C Wb i a b1 b2 b3 : Nat) (s : St) (vch vev : Value) : Prop where
  crew : CrewAt W B C Wb s vch vev
  h1 : W.heap[b1]? = some (.cells #[.pointer (some ⟨C, 0, none⟩)] 300 (0, 0))
  h2 : W.heap[b2]? = some (.cells #[.int .i64 (a : Int)] 3 (0, 0))
  h3 : W.heap[b3]? = some (.cells #[.pointer (some ⟨Wb, i * 2, none⟩)] 327 (0, 0))
  bel : Below B w W
  size : B ≤ W.heap.size
theorem step_at {w : World} {B C Wb i a : Nat} {s : St} {vch vev : Value} (h : CrewAt w B C Wb s vch vev) (hB : B ≤ w.heap.size) :
    StepAt w ((((w.alloc (.cells #[.pointer (some ⟨C, 0, none⟩)] 300)).alloc (.cells #[.int .i64 (a : Int)] 3)).alloc (.cells #[.pointer (some ⟨Wb, i * 2, none⟩)] 327)).drew) B C Wb i a w.heap.size (w.heap.size + 1) (w.heap.size + 1 + 1) s vch vev := by
  have hb : Below w.heap.size w ((((w.alloc (.cells #[.pointer (some ⟨C, 0, none⟩)] 300)).alloc (.cells #[.int .i64 (a : Int)] 3)).alloc (.cells #[.pointer (some ⟨Wb, i * 2, none⟩)] 327)).drew) := ((((Below.refl _ _).alloc (Nat.le_refl _) _).alloc (by simp) _).alloc (by simp; omega) _).drew
  refine ⟨h.below hb, ?_, ?_, ?_, hb.mono hB, Nat.le_trans hB hb.size⟩
  · show ((((w.alloc _).alloc _).alloc _)).heap[w.heap.size]? = _
    rw [Below.heap_alloc _ _ _ (by simp; omega), Below.heap_alloc _ _ _ (by simp), heap_alloc_new]
  · show ((((w.alloc _).alloc _).alloc _)).heap[w.heap.size + 1]? = _
    rw [Below.heap_alloc _ _ _ (by simp)]
    have := heap_alloc_new (w.alloc (.cells #[.pointer (some ⟨C, 0, none⟩)] 300)) (.cells #[.int .i64 (a : Int)] 3)
    simpa using this
  · show ((((w.alloc _).alloc _).alloc _)).heap[w.heap.size + 1 + 1]? = _
    have := heap_alloc_new ((w.alloc (.cells #[.pointer (some ⟨C, 0, none⟩)] 300)).alloc (.cells #[.int .i64 (a : Int)] 3)) (.cells #[.pointer (some ⟨Wb, i * 2, none⟩)] 327)
    simpa using this
theorem q_pop {w : World} {B g o m cap : Nat} {x : Value} {xs : List Value} (h : QOwn w B 3 (.slice (some ⟨g, o, none⟩) (m + 1) cap) (m + 1) (x :: xs)) :
    QOwn w B 3 (.slice (if cap = 1 then some ⟨g, o, none⟩ else some ⟨g, o + 1, none⟩) m (cap - 1)) m xs := by
  have hl : xs.length = m := by have := h.1; simpa using this
  rcases h.2 with ⟨h0, _⟩ | ⟨g', o', cap', cur, hv, hb, hg, hn, hm, hs, ht⟩
  · cases h0
  · simp only [Value.slice.injEq, Option.some.injEq, Addr.mk.injEq] at hv
    obtain ⟨⟨rfl, rfl, -⟩, -, rfl⟩ := hv
    have hd : (cur.toList.drop (o + 1)).take m = xs := by
      have h1 : ((cur.toList.drop o).take (m + 1)).drop 1 = xs := by rw [ht]; rfl
      rw [List.drop_take, List.drop_drop, Nat.add_sub_cancel] at h1
      exact h1
    refine ⟨hl, .inr ?_⟩
    by_cases h1 : cap = 1
    · rw [if_pos h1]
      have hm0 : m = 0 := by omega
      subst hm0
      exact ⟨g, o, cap - 1, cur, rfl, hb, hg, by omega, by omega, by omega, by simp; exact List.eq_nil_of_length_eq_zero hl⟩
    · rw [if_neg h1]
      exact ⟨g, o + 1, cap - 1, cur, rfl, hb, hg, by omega, by omega, by omega, hd⟩
theorem box_far {w : World} {b c i : Nat} {v u : Value} {t t' : TypeId} {cs : Array Value} (h : w.heap[b]? = some (.cells #[u] t (0, 0))) (hc : w.heap[c]? = some (.cells cs t' (0, 0))) (ht : t ≠ t') : (w.setCell ⟨c, i, none⟩ v).heap[b]? = some (.cells #[u] t (0, 0)) := by
  rw [heap_setCell_other _ _ _ _ (by
    rintro rfl
    rw [h] at hc
    injection hc with hc
    injection hc with _ h2
    exact ht h2)]
  exact h
theorem took {w W : World} {B C Wb i a b1 b2 b3 m : Nat} {s : St} {vch vev V : Value} {jb : Int} {j : Nat} {r : List Nat} (H : StepAt w W B C Wb i a b1 b2 b3 s vch vev) (hV : QOwn W B 3 V m (jobsV r)) (hi : i < s.ws.length) (hw : s.ws[i] = (3, jb)) (hm : m = r.length) :
    StepAt w (((W.setCell ⟨Wb, i * 2 + 1, none⟩ (.int .i64 (j : Int))).setCell ⟨C, 2, none⟩ V).drew) B C Wb i a b1 b2 b3 { s with ws := s.ws.set i (3, (j : Int)), ch := r } V vev := by
  have hset : (wcells s.ws).set (i * 2 + 1) (.int .i64 (j : Int)) = wcells (s.ws.set i (3, (j : Int))) := by have := wcells_set2 s.ws i (j : Int) hi; rw [hw] at this; exact this
  have h1 := H.crew.setWs (i * 2 + 1) (.int .i64 (j : Int)) (s.ws.set i (3, (j : Int))) (by simp) hset
  have hV1 : QOwn (W.setCell ⟨Wb, i * 2 + 1, none⟩ (.int .i64 (j : Int))) B 3 V m (jobsV r) := hV.kept fun g hg => by
    rw [heap_setCell_other _ _ _ _ (by rintro rfl; exact q_far hV H.crew.hw (by decide) hg.symm)]
  have h2 := h1.set 2 V { s with ws := s.ws.set i (3, (j : Int)), ch := r } V vev rfl rfl (by rw [← hm]; exact hV1) h1.he
  refine ⟨h2.below ((Below.refl _ _).drew), ?_, ?_, ?_, ?_, ?_⟩
  · exact box_far (box_far H.h1 H.crew.hw (by decide)) h1.hc (by decide)
  · exact box_far (box_far H.h2 H.crew.hw (by decide)) h1.hc (by decide)
  · exact box_far (box_far H.h3 H.crew.hw (by decide)) h1.hc (by decide)
  · exact ((H.bel.setCell H.crew.hBW _).setCell H.crew.hBC _).drew
  · have := H.size
    simpa [World.setCell] using this
theorem take_state (s : St) (i a j : Nat) (r : List Nat) : (({ s with ws := s.ws.set i (3, (j : Int)), ch := r } : St).setW i 4 j).tell a 3 j = { (s.setW i 4 j).tell a 3 j with ch := r } := by
  simp [St.setW, St.tell]
set_option maxHeartbeats 800000 in
theorem work_take (B C Wb : Nat) (s : St) (vch vev : Value) (i a : Nat) (jb : Int) (j : Nat) (r : List Nat) (w : World) (h : CrewAt w B C Wb s vch vev) (hB : B ≤ w.heap.size) (hl : s.ev.length ≤ 100000) (hi : i < s.ws.length) (ha : a = i + 1) (hn : s.ws.length ≤ 64) (hch : s.ch.length ≤ 1000)
    (hw : s.ws[i] = (3, jb)) (hq : s.ch = j :: r) :
    Calls Tryz.prog 185 #[.pointer (some ⟨C, 0, none⟩), .int .i64 (a : Int)] w (ThenPost B C Wb { (s.setW i 4 j).tell a 3 j with ch := r } w) := by
  have es : (a : Int) - 1 = (i : Int) := by omega
  have ha64 : a ≤ 64 := by omega
  have c4 : ∀ o1 o2, ((w.alloc o1).alloc o2).cell? ⟨C, 4, none⟩ = some (.slice (some ⟨Wb, 0, none⟩) s.ws.length s.ws.length) := fun o1 o2 => by
    have hb : Below w.heap.size w ((w.alloc o1).alloc o2) := ((Below.refl _ _).alloc (Nat.le_refl _) _).alloc (by simp) _
    exact crew_cell (h.below hb) 4
  have c4' : ∀ o1 o2 o3, (((w.alloc o1).alloc o2).alloc o3).cell? ⟨C, 4, none⟩ = some (.slice (some ⟨Wb, 0, none⟩) s.ws.length s.ws.length) := fun o1 o2 o3 => by
    have hb : Below w.heap.size w (((w.alloc o1).alloc o2).alloc o3) := (((Below.refl _ _).alloc (Nat.le_refl _) _).alloc (by simp) _).alloc (by simp; omega) _
    exact crew_cell (h.below hb) 4
  have HA := Lib.hid (step_at (i := i) (a := a) h hB)
  have hi' : (i : Int) < (s.ws.length : Int) := by omega
  obtain ⟨g, o, cap, rfl, hn1, hcm⟩ : ∃ g o cap, vch = .slice (some ⟨g, o, none⟩) (r.length + 1) cap ∧ r.length + 1 ≤ cap ∧ cap ≤ maxLen := by
    rcases h.hq.2 with ⟨_, h0⟩ | ⟨g, o, cap, cur, hv, r1, r2, r3, r4, r5, r6⟩
    · rw [hq] at h0; simp at h0
    · exact ⟨g, o, cap, by rw [hv, hq]; rfl, by rw [hq] at r3; exact r3, r4⟩
  have hch1 : r.length + 1 ≤ 1000 := by rw [hq] at hch; exact hch
  simp only [maxLen] at hcm
  clear h ha
  go_enter Tryz.func185, Tryz.ntmps185
  go_wp2
  go_region
  clear c4 c4'
  generalize ((((w.alloc (.cells #[.pointer (some ⟨C, 0, none⟩)] 300)).alloc (.cells #[.int .i64 (a : Int)] 3)).alloc (.cells #[.pointer (some ⟨Wb, i * 2, none⟩)] 327)).drew) = W at *
  generalize w.heap.size + 1 + 1 = b3 at *
  generalize w.heap.size + 1 = b2 at *
  generalize w.heap.size = b1 at *
  all_goals
    have cb1 := cell_of_one HA.out.h1
    have cb2 := cell_of_one HA.out.h2
    have cb3 := cell_of_one HA.out.h3
    have c2 : W.cell? ⟨C, 2, none⟩ = some (.slice (some ⟨g, o, none⟩) (r.length + 1) cap) := crew_cell HA.out.crew 2
    obtain ⟨k4, k5⟩ := worker_cells HA.out.crew i hi
    rw [hw] at k4 k5
    have f5 : W.frozen? ⟨Wb, i * 2 + 1, none⟩ = false := frozen_of_row _ _ _ _ _ HA.out.crew.hw
    have f2 : W.frozen? ⟨C, 2, none⟩ = false := frozen_of_row _ _ _ _ _ HA.out.crew.hc
    have cq : W.cell? ⟨g, o, none⟩ = some (.int .i64 (j : Int)) := by
      rcases HA.out.crew.hq.2 with ⟨h0, _⟩ | ⟨g', o', cap', cur', hv, q1, q2, q3, q4, q5, q6⟩
      · cases h0
      · simp only [Value.slice.injEq, Option.some.injEq, Addr.mk.injEq] at hv
        obtain ⟨⟨rfl, rfl, -⟩, -, rfl⟩ := hv
        rw [cell_of_row _ _ _ _ _ _ q2]
        have e1 : (jobsV s.ch)[0]? = some (.int .i64 (j : Int)) := by rw [hq]; rfl
        rw [← q6, List.getElem?_take, if_pos (by rw [hq]; simp), List.getElem?_drop] at e1
        simpa using e1
    have HQ := Lib.hid hq
    have HW := Lib.hid hw
    have HM : Hid (∀ m, r.length = m → m = r.length) := fun m h => h.symm
    clear hq hw hch
    generalize hm : r.length = m at *
    have nW1 : Wb ≠ b1 := fun e => by have h1 := HA.out.h1; rw [← e, HA.out.crew.hw] at h1; injection h1 with h1; injection h1 with _ h2; exact absurd h2 (by decide)
    have sb1 : ∀ v, (W.setCell ⟨Wb, i * 2 + 1, none⟩ v).cell? ⟨b1, 0, none⟩ = some (.pointer (some ⟨C, 0, none⟩)) := fun v => by rw [World.cell?_setCell_other _ _ _ _ (by intro e; injection e with e1; exact nW1 e1)]; exact cb1
    have nWC : Wb ≠ C := crew_ne HA.out.crew
    have sc2 : ∀ v, (W.setCell ⟨Wb, i * 2 + 1, none⟩ v).cell? ⟨C, 2, none⟩ = some (.slice (some ⟨g, o, none⟩) (m + 1) cap) := fun v => by rw [World.cell?_setCell_other _ _ _ _ (by intro e; injection e with e1; exact nWC e1)]; exact c2
    have sf2 : ∀ v, (W.setCell ⟨Wb, i * 2 + 1, none⟩ v).frozen? ⟨C, 2, none⟩ = false := fun v => by
      unfold World.frozen?
      rw [heap_setCell_other _ _ _ _ (show C ≠ Wb from nWC.symm)]
      exact f2
    go_wp2
    go_region
    clear sb1 sc2 sf2 f5 f2 cq c2 k4 k5 cb1 cb2 cb3
    have HV := Lib.hid (q_pop (x := .int .i64 (j : Int)) (xs := jobsV r) (by have := HA.out.crew.hq; rw [HQ.out, List.length_cons, hm] at this; exact this))
    generalize hVV : Value.slice (if cap = 1 then some ⟨g, o, none⟩ else some ⟨g, o + 1, none⟩) m (cap - 1) = V at *
    have HS := Lib.hid (took (j := j) HA.out HV.out hi HW.out hm.symm)
    clear HA HV HQ HW HM nW1 nWC hVV
    generalize ((W.setCell ⟨Wb, i * 2 + 1, none⟩ (.int .i64 (j : Int))).setCell ⟨C, 2, none⟩ V).drew = W2 at *
    have HT := Lib.hid (then_any B C Wb b1 b2 b3 { s with ws := s.ws.set i (3, (j : Int)), ch := r } V vev a i 4 3 (j : Int) W2 HS.out.crew HS.out.size hl HS.out.h1 HS.out.h2 HS.out.h3 (by simpa using hi) (by simp))
    go_wp2_with (go_at_call 209; refine (HT.out).mono ?_; rintro e w2 ⟨rfl, hb2, v1, v2, h2⟩)
    go_end0
    exact ⟨rfl, HS.out.bel.trans hb2, v1, v2, by rw [← take_state]; exact h2⟩
end Go.Proofs.YtladmconpolneaaGreat.Cr

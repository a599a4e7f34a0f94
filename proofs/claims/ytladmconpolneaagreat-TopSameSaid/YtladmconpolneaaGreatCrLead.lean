/- The walk of lead. -/
import Derived.Test.YtladmconpolneaaGreatCrCan
set_option linter.unusedVariables false
set_option linter.unusedSimpArgs false
namespace Go.Proofs.YtladmconpolneaaGreat.Cr
open Go.RowKit
section
variable {P : Program} {ops : Array Oper} {rest : List Oper} {o : Oper} {a : Act} {Q : Exit → Act → World → Prop}
/-- 'append(q, x)' as a step of a region that draws its order: the box of x lies in block D. -/
theorem step_append_queue {w : World} {K : Act → World → Prop} {E : Prop} (base : Nat) (hgd : o.guard = none) (s x : Operand) (t e : TypeId) (z : Value) (bytes : Nat)
    (ho : o.op = .call { callee := .builtin .append, args := #[s, x], argTypes := #[t, t] })
    (ht : P.underlying t = some (.slice e)) (hinfo : (P.info? e).map (fun i => (i.zero, i.size, i.bytes)) = some (some z, 1, bytes)) (hz : z.cells.size = 1) (hb0 : 0 < bytes)
    (v : Value) (k : Nat) (xs : List Value) (D : Nat) (y : Value) (hs : a.eval s = v) (hx : a.eval x = .slice (some ⟨D, 0, none⟩) 1 1) (hbox : w.heap[D]? = some (.cells #[y] e (0, 0))) (h1 : y.oneCell' = true)
    (HO : QOwn w base e v k xs) (hbase : base ≤ w.heap.size) (hl : (k + 1) * bytes ≤ 140737488355328)
    (h : ∀ A1 c1 w1, QOwn w1 base e (.slice A1 (k + 1) c1) (k + 1) (xs ++ [y]) → w.grownBy w1 v.ownBlock → K (a.put o.dst (.slice A1 (k + 1) c1)) w1) :
    if Region.wanted o (yielded ops a.tmps) = true then Oper.wp P o a w K Q else E := by
  obtain ⟨i0, hi, hz0, hz1, hz2⟩ := info_parts hinfo
  have hlen : k + 1 ≤ 140737488355328 := Nat.le_trans (Nat.le_mul_of_pos_right _ hb0) hl
  have hw : Region.wanted o (yielded ops a.tmps) = true := by simp [Region.wanted, hgd]
  rw [if_pos hw]
  obtain ⟨A1, c1, w', hr, h2, h3, _⟩ := run_append_queue (P := P) w base t o.type e i0 z bytes ht hi hz0 hz1 hz2 hz v k xs HO ⟨D, 0, none⟩ 1 y (cell_of_one hbox) h1 hl (by simp only [maxLen]; omega) hbase
  unfold Oper.wp execOp
  simp only [ho, resolve, invoke, builtin, Sem.run_bind, Sem.run_pure, Result.andThen_ok, List.map_toArray, List.map_cons, List.map_nil, hs, hx, hr]
  exact h A1 c1 w' h2 h3
end
theorem Tryz.info3 : (Tryz.prog.info? 3).map (fun i => (i.zero, i.size, i.bytes)) = some (some (.int .i64 0), 1, 8) := by kernel_rfl
theorem crew_ne {w : World} {B C Wb : Nat} {s : St} {vch vev : Value} (h : CrewAt w B C Wb s vch vev) : Wb ≠ C := fun e => by
  have h1 := h.hw
  rw [e, h.hc] at h1
  injection h1 with h1
  injection h1 with _ h2
  exact absurd h2 (by decide)
theorem CrewAt.set {w : World} {B C Wb : Nat} {s : St} {vch vev : Value} (h : CrewAt w B C Wb s vch vev) (i : Nat) (v : Value) (s' : St) (vch' vev' : Value)
    (hcv : (crewV s vch vev Wb).setIfInBounds i v = crewV s' vch' vev' Wb) (hws : s'.ws = s.ws) (hq : QOwn w B 3 vch' s'.ch.length (jobsV s'.ch)) (he : w.ownsRow B 244 3 vev' s'.ev.length (evV s'.ev)) :
    CrewAt (w.setCell ⟨C, i, none⟩ v) B C Wb s' vch' vev' := by
  refine ⟨h.hBC, h.hBW, ?_, ?_, ?_, ?_⟩
  · rw [← hcv]; exact heap_setCell_same _ _ _ _ _ _ h.hc
  · rw [heap_setCell_other _ _ _ _ (crew_ne h), hws]; exact h.hw
  · refine hq.kept fun g hg => ?_
    rw [heap_setCell_other _ _ _ _ (by rintro rfl; exact q_far hq h.hc (by decide) hg.symm)]
  · exact ownsRow_setCell_other he (a := ⟨C, i, none⟩) (fun e => own_far he h.hc (by decide) e.symm) v
/-- Behind an append onto the channel. -/
theorem CrewAt.pushed {w w1 : World} {B C Wb : Nat} {s : St} {vch vev : Value} (h : CrewAt w B C Wb s vch vev) (hg : w.grownBy w1 vch.ownBlock) : w1.heap[C]? = w.heap[C]? ∧ w1.heap[Wb]? = w.heap[Wb]? ∧ w1.ownsRow B 244 3 vev s.ev.length (evV s.ev) := by
  refine ⟨hg.block C (lt_of_block h.hc) (q_far h.hq h.hc (by decide)), hg.block Wb (lt_of_block h.hw) (q_far h.hq h.hw (by decide)), h.he.kept hg ?_⟩
  rcases h.he.2 with ⟨hv, _⟩ | ⟨g, cap, cur, hv, _, hgg, _⟩
  · left; rw [hv]; rfl
  · right
    rw [hv]
    exact q_far h.hq hgg (by decide)
theorem pushed_set {w w1 : World} {B C Wb : Nat} {s : St} {vch vev : Value} (h : CrewAt w B C Wb s vch vev) (hg : w.grownBy w1 vch.ownBlock) {A1 : Option Addr} {c1 : Nat}
    (hq : QOwn w1 B 3 (.slice A1 (s.ch.length + 1) c1) (s.ch.length + 1) (jobsV s.ch ++ [.int .i64 (s.sent : Int)])) :
    CrewAt (w1.setCell ⟨C, 2, none⟩ (.slice A1 (s.ch.length + 1) c1)) B C Wb { s with ch := s.ch ++ [s.sent] } (.slice A1 (s.ch.length + 1) c1) vev := by
  obtain ⟨h1, h2, h3⟩ := h.pushed hg
  have hc1 : w1.heap[C]? = some (.cells (crewV s vch vev Wb) 303 (0, 0)) := h1.trans h.hc
  have e1 : jobsV (s.ch ++ [s.sent]) = jobsV s.ch ++ [.int .i64 (s.sent : Int)] := by simp [jobsV]
  refine ⟨h.hBC, h.hBW, ?_, ?_, ?_, ?_⟩
  · exact heap_setCell_same _ _ _ _ _ _ hc1
  · rw [heap_setCell_other _ _ _ _ (crew_ne h)]; exact h2.trans h.hw
  · rw [e1, show (s.ch ++ [s.sent]).length = s.ch.length + 1 from by simp]
    refine hq.kept fun g hg => ?_
    rw [heap_setCell_other _ _ _ _ (by rintro rfl; exact q_far hq hc1 (by decide) hg.symm)]
  · exact ownsRow_setCell_other h3 (a := ⟨C, 2, none⟩) (fun e => own_far h3 hc1 (by decide) e.symm) _
theorem setSent (s : St) (vch vev : Value) (Wb n : Nat) : (crewV s vch vev Wb).setIfInBounds 1 (.int .i64 (n : Int)) = crewV { s with sent := n } vch vev Wb := rfl
theorem setCh (s : St) (vch vev v : Value) (Wb : Nat) (l : List Nat) : (crewV s vch vev Wb).setIfInBounds 2 v = crewV { s with ch := l } v vev Wb := rfl
theorem setClosed (s : St) (vch vev : Value) (Wb : Nat) (b : Bool) : (crewV s vch vev Wb).setIfInBounds 3 (.bool b) = crewV { s with closed := b } vch vev Wb := rfl
theorem setLocked (s : St) (vch vev : Value) (Wb : Nat) (n : Int) : (crewV s vch vev Wb).setIfInBounds 5 (.int .i64 n) = crewV { s with locked := n } vch vev Wb := rfl
def LeadPost (B C Wb : Nat) (s : St) (r : Bool) (w : World) (e : Ending) (w' : World) : Prop := e = .returned (.bool r) ∧ Below B w w' ∧ ∃ vch' vev', CrewAt w' B C Wb s vch' vev'
set_option maxHeartbeats 400000 in
theorem lead_send (B C Wb : Nat) (s : St) (vch vev : Value) (w : World) (h : CrewAt w B C Wb s vch vev) (hB : B ≤ w.heap.size) (hl : s.ev.length ≤ 100000) (hch : s.ch.length ≤ 1000) (hj : s.jobs ≤ 256) (hs : s.sent < s.jobs) :
    Calls Tryz.prog 186 #[.pointer (some ⟨C, 0, none⟩)] w (LeadPost B C Wb s.send false w) := by
  have c0 : w.cell? ⟨C, 0, none⟩ = some (.int .i64 (s.jobs : Int)) := crew_cell h 0
  have c1 : w.cell? ⟨C, 1, none⟩ = some (.int .i64 (s.sent : Int)) := crew_cell h 1
  have c2 : w.cell? ⟨C, 2, none⟩ = some vch := crew_cell h 2
  have H := Lib.hid h
  have h1' : (s.sent : Int) < (s.jobs : Int) := by omega
  clear h
  go_enter Tryz.func186, Tryz.ntmps186
  go_wp2_with (go_quiet (fail))
  have HB0 : Hid (Below w.heap.size w (w.drewN nq)) := bel_drewN (Below.refl _ _) _
  have H0 := Lib.hid (H.out.below HB0.out)
  have hB0 : B ≤ (w.drewN nq).heap.size := Nat.le_trans hB HB0.out.size
  have d1 : (w.drewN nq).cell? ⟨C, 1, none⟩ = some (.int .i64 (s.sent : Int)) := crew_cell H0.out 1
  have d2 : (w.drewN nq).cell? ⟨C, 2, none⟩ = some vch := crew_cell H0.out 2
  have HB1 : Hid (Below B w (w.drewN nq)) := HB0.out.mono hB
  clear c0 c1 c2 H HB0
  generalize w.drewN nq = W0 at *
  have HA : Hid (CrewAt (W0.alloc (.cells #[.int .i64 (s.sent : Int)] 3)).drew B C Wb s vch vev) := H0.out.below (((Below.refl _ _).alloc (Nat.le_refl _) _).drew)
  have hsA : B ≤ (W0.alloc (.cells #[.int .i64 (s.sent : Int)] 3)).drew.heap.size := by simp; omega
  have HBA : Hid (Below B w (W0.alloc (.cells #[.int .i64 (s.sent : Int)] 3)).drew) := (HB1.out.alloc hB0 _).drew
  have d2' : ∀ o, (W0.alloc o).cell? ⟨C, 2, none⟩ = some vch := fun o => (World.cell?_alloc_lt W0 o ⟨C, 2, none⟩ (lt_of_block H0.out.hc)).trans d2
  go_region_law (refine step_append_queue B rfl _ _ 66 3 (.int .i64 0) 8 rfl Tryz.underlying66 Tryz.info3 rfl (by decide) vch s.ch.length (jobsV s.ch) W0.heap.size (.int .i64 (s.sent : Int)) rfl rfl (heap_alloc_new W0 _) rfl HA.out.hq hsA (by omega) ?_; intro A1 c1 w1 hq1 hg1; have e1 : w1.cell? ⟨C, 2, none⟩ = some vch := (by rw [cell_of_row _ _ _ _ _ _ ((HA.out.pushed hg1).1.trans HA.out.hc)]; rfl); have e2 : w1.frozen? ⟨C, 2, none⟩ = false := frozen_of_row _ _ _ _ _ ((HA.out.pushed hg1).1.trans HA.out.hc))
  all_goals
    have hp := HA.out.pushed hg1
    have HA1 : CrewAt w1 B C Wb s vch vev ∨ True := .inr trivial
    have HS : Hid (CrewAt (w1.setCell ⟨C, 2, none⟩ (.slice A1 (s.ch.length + 1) c1)) B C Wb { s with ch := s.ch ++ [s.sent] } (.slice A1 (s.ch.length + 1) c1) vev) :=
      pushed_set HA.out hg1 hq1
    have HB2 : Hid (Below B w (w1.setCell ⟨C, 2, none⟩ (.slice A1 (s.ch.length + 1) c1))) := (HBA.out.grown hg1 hsA (fun k hk => (HA.out.hq.lt hk).1)).setCell H0.out.hBC _
    clear HA hq1 hg1 hp e1 e2 HBA hsA d1 d2 d2' H0 HA1
    generalize w1.setCell ⟨C, 2, none⟩ (.slice A1 (s.ch.length + 1) c1) = W1 at *
    have g1 : W1.cell? ⟨C, 1, none⟩ = some (.int .i64 (s.sent : Int)) := crew_cell HS.out 1
    have HT := Lib.hid (tell_any B C Wb _ _ vev 0 0 (s.sent : Int) W1 HS.out (Nat.le_trans hB HB2.out.size) hl)
    go_wp2_with (go_at_call 210; refine (HT.out).mono ?_; rintro e w2 ⟨rfl, vev2, h2, hb2, hk2⟩; have g2 : w2.cell? ⟨C, 1, none⟩ = some (.int .i64 (s.sent : Int)) := crew_cell h2 1; have g3 := frozen_of_row w2 C 1 _ _ h2.hc; have H2 := Lib.hid h2; clear h2)
    go_ret
    refine ⟨rfl, ?_, _, _, H2.out.set 1 (.int .i64 (((s.sent + 1 : Nat)) : Int)) s.send _ _ rfl rfl H2.out.hq H2.out.he⟩
    exact (HB2.out.trans hb2).setCell H2.out.hBC _
set_option maxHeartbeats 400000 in
theorem lead_close (B C Wb : Nat) (s : St) (vch vev : Value) (w : World) (h : CrewAt w B C Wb s vch vev) (hB : B ≤ w.heap.size) (hl : s.ev.length ≤ 100000) (hj : s.jobs ≤ 256) (hs : ¬ s.sent < s.jobs) (hs2 : s.sent ≤ 256) (hc : s.closed = false) :
    Calls Tryz.prog 186 #[.pointer (some ⟨C, 0, none⟩)] w (LeadPost B C Wb s.close false w) := by
  have c0 : w.cell? ⟨C, 0, none⟩ = some (.int .i64 (s.jobs : Int)) := crew_cell h 0
  have c1 : w.cell? ⟨C, 1, none⟩ = some (.int .i64 (s.sent : Int)) := crew_cell h 1
  have c3 : w.cell? ⟨C, 3, none⟩ = some (.bool false) := by rw [← hc]; exact crew_cell h 3
  have H := Lib.hid h
  have h1' : ¬ (s.sent : Int) < (s.jobs : Int) := by omega
  clear h
  have f3 : w.frozen? ⟨C, 3, none⟩ = false := frozen_of_row _ _ _ _ _ H.out.hc
  have HB0 : Hid (∀ n, Below w.heap.size w (w.drewN n)) := fun n => bel_drewN (Below.refl _ _) _
  have HS : Hid (∀ n, CrewAt ((w.drewN n).setCell ⟨C, 3, none⟩ (.bool true)) B C Wb { s with closed := true } vch vev) := fun n =>
    (H.out.below (HB0.out n)).set 3 (.bool true) _ _ _ rfl rfl H.out.hq (H.out.below (HB0.out n)).he
  have HBS : Hid (∀ n, Below B w ((w.drewN n).setCell ⟨C, 3, none⟩ (.bool true))) := fun n => ((HB0.out n).mono hB).setCell H.out.hBC _
  go_enter Tryz.func186, Tryz.ntmps186
  go_wp2_with (first
    | go_quiet (fail)
    | (go_at_call 210; refine (tell_any B C Wb _ vch vev 0 1 (-1) _ (HS.out nq) (Nat.le_trans hB (HBS.out nq).size) hl).mono ?_; rintro e w2 ⟨rfl, vev2, h2, hb2, hk2⟩))
  go_ret
  exact ⟨rfl, (HBS.out nq).trans hb2, _, _, h2⟩
theorem lead_done (B C Wb : Nat) (s : St) (vch vev : Value) (w : World) (h : CrewAt w B C Wb s vch vev) (hB : B ≤ w.heap.size) (hl : s.ev.length ≤ 100000) (hj : s.jobs ≤ 256) (hs : ¬ s.sent < s.jobs) (hs2 : s.sent ≤ 256) (hc : s.closed = true) :
    Calls Tryz.prog 186 #[.pointer (some ⟨C, 0, none⟩)] w (LeadPost B C Wb s.done true w) := by
  have c0 : w.cell? ⟨C, 0, none⟩ = some (.int .i64 (s.jobs : Int)) := crew_cell h 0
  have c1 : w.cell? ⟨C, 1, none⟩ = some (.int .i64 (s.sent : Int)) := crew_cell h 1
  have c3 : w.cell? ⟨C, 3, none⟩ = some (.bool true) := by rw [← hc]; exact crew_cell h 3
  have H := Lib.hid h
  have h1' : ¬ (s.sent : Int) < (s.jobs : Int) := by omega
  clear h
  have HB0 : Hid (∀ n, Below w.heap.size w (w.drewN n)) := fun n => bel_drewN (Below.refl _ _) _
  go_enter Tryz.func186, Tryz.ntmps186
  go_wp2_with (first
    | go_quiet (fail)
    | (go_at_call 210; refine (tell_any B C Wb s vch vev 0 2 (-1) _ (H.out.below (HB0.out nq)) (Nat.le_trans hB (HB0.out nq).size) hl).mono ?_; rintro e w2 ⟨rfl, vev2, h2, hb2, hk2⟩))
  go_ret
  exact ⟨rfl, ((HB0.out nq).mono hB).trans hb2, _, _, h2⟩
theorem lead_any (B C Wb : Nat) (s : St) (vch vev : Value) (w : World) (h : CrewAt w B C Wb s vch vev) (hB : B ≤ w.heap.size) (hl : s.ev.length ≤ 100000) (hch : s.ch.length ≤ 1000) (hj : s.jobs ≤ 256) (hs : s.sent ≤ 256) :
    Calls Tryz.prog 186 #[.pointer (some ⟨C, 0, none⟩)] w (LeadPost B C Wb s.lead s.over w) := by
  unfold St.lead St.over
  by_cases h1 : s.sent < s.jobs
  · rw [if_pos h1, decide_eq_true h1]
    exact lead_send B C Wb s vch vev w h hB hl hch hj h1
  · rw [if_neg h1, decide_eq_false h1]
    cases hc : s.closed with
    | false => rw [if_pos rfl]; exact lead_close B C Wb s vch vev w h hB hl hj h1 hs hc
    | true => rw [if_neg (by decide)]; exact lead_done B C Wb s vch vev w h hB hl hj h1 hs hc
end Go.Proofs.YtladmconpolneaaGreat.Cr

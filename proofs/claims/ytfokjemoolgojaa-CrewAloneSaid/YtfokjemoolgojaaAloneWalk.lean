/- The walk of the law CrewAlone. -/
import Derived.Test.YtfokjemoolgojaaOwn
set_option linter.unusedVariables false
set_option linter.unusedSimpArgs false
namespace Go.Proofs.Ytfokjemoolgojaa
open Go.RowKit
theorem alone_out (J N : Int) (A0 : Option Addr) (n c0 : Nat) (w : World) (h : J < 0 ∨ 256 < J ∨ N < 1 ∨ 64 < N ∨ 3000 < (n : Int)) :
    Calls Try.prog 7 #[.int .i64 J, .int .i64 N, .slice A0 n c0] w fun e w' => e = .returned (.bool true) ∧ Below w.heap.size w w' := by
  have hh : J < 0 ∨ (¬ J < 0 ∧ 256 < J) ∨ (¬ J < 0 ∧ ¬ 256 < J ∧ N < 1) ∨ (¬ J < 0 ∧ ¬ 256 < J ∧ ¬ N < 1 ∧ 64 < N) ∨ (¬ J < 0 ∧ ¬ 256 < J ∧ ¬ N < 1 ∧ ¬ 64 < N ∧ 3000 < (n : Int)) := by omega
  clear h
  rcases hh with h | ⟨h1, h2⟩ | ⟨h1, h2, h3⟩ | ⟨h1, h2, h3, h4⟩ | ⟨h1, h2, h3, h4, h5⟩
  all_goals
    go_enter Try.func7, Try.ntmps7
    go_wp2_with (go_at_call 9; refine (awake_any _).mono ?_; rintro e w1 ⟨rfl, hb1⟩)
    go_ret
    exact ⟨rfl, hb1⟩
theorem own_drewN {w : World} {base : Nat} {e : TypeId} {size n : Nat} {v : Value} {xs : List Value} (h : w.ownsRow base e size v n xs) (q : Nat) : (w.drewN q).ownsRow base e size v n xs :=
  own_below h (bel_drewN (Below.refl _ _) q)
/-- What an actor does, as the law writes it. -/
def val (w : Nat × Int) : Int := if w.1 = 3 then 0 else if w.1 = 8 then -1 else w.2 + 1
def busyOf (s : St) : List Int := 0 :: s.ws.map val
def AloneStep (bs : List Int) (cl : Bool) (x : Ev) (bs' : List Int) (cl' : Bool) : Prop :=
  (x.what = 0 ∧ cl = false ∧ x.actor = 0 ∧ bs' = bs ∧ cl' = cl) ∨
  (x.what = 1 ∧ bs' = bs ∧ cl' = true) ∨
  (x.what = 2 ∧ bs' = bs ∧ cl' = cl) ∨
  (x.what = 3 ∧ x.actor < bs.length ∧ bs.getD x.actor 0 = 0 ∧ 0 ≤ x.job ∧ x.job ≤ 256 ∧ bs' = bs.set x.actor (x.job + 1) ∧ cl' = cl) ∨
  ((x.what = 4 ∨ x.what = 5 ∨ x.what = 6) ∧ x.actor < bs.length ∧ bs.getD x.actor 0 = x.job + 1 ∧ 0 ≤ x.job ∧ x.job ≤ 256 ∧ bs' = bs ∧ cl' = cl) ∨
  (x.what = 7 ∧ x.actor < bs.length ∧ bs.getD x.actor 0 = x.job + 1 ∧ 0 ≤ x.job ∧ x.job ≤ 256 ∧ bs' = bs.set x.actor 0 ∧ cl' = cl) ∨
  (x.what = 8 ∧ x.actor < bs.length ∧ cl = true ∧ bs.getD x.actor 0 = 0 ∧ bs' = bs.set x.actor (-1) ∧ cl' = cl)
theorem busyOf_set (s s' : St) (i : Nat) (w : Nat × Int) (h : s'.ws = s.ws.set i w) : busyOf s' = (busyOf s).set (i + 1) (val w) := by
  unfold busyOf
  rw [h, List.map_set]; rfl
theorem busyOf_at (s : St) (i : Nat) (h : i < s.ws.length) (w : Nat × Int) (hw : s.ws[i] = w) : i + 1 < (busyOf s).length ∧ (busyOf s).getD (i + 1) 0 = val w := by
  refine ⟨by simp [busyOf]; exact h, ?_⟩
  rw [getD_lt _ _ _ (by simp [busyOf]; exact h)]
  simp [busyOf, hw]
theorem busyOf_same (s s' : St) (i : Nat) (h : i < s.ws.length) (w w' : Nat × Int) (hw : s.ws[i] = w) (hs : s'.ws = s.ws.set i w') (hv : val w' = val w) : busyOf s' = busyOf s := by
  rw [busyOf_set s s' i w' hs, hv]
  obtain ⟨h1, h2⟩ := busyOf_at s i h w hw
  rw [getD_lt _ _ _ h1] at h2
  rw [← h2]
  exact List.set_getElem_self h1
theorem alone_step {J N : Nat} {s s' : St} {x : Ev} (hJ : J ≤ 256) (hi : Inv J N s) (ho : Own s) (hk : Kind s s' x) : AloneStep (busyOf s) s.closed x (busyOf s') s'.closed := by
  unfold AloneStep
  have hsent := hi.sent
  have htk : s.taken ≤ 256 := by unfold St.taken; omega
  cases hk with
  | send hx hs hc he =>
    subst hx he
    refine .inl ⟨rfl, ?_, rfl, rfl, rfl⟩
    cases hcl : s.closed with
    | false => rfl
    | true => have := hi.closed hcl; have := hi.jobs; omega
  | close hx hs hc he => subst hx he; exact .inr (.inl ⟨rfl, rfl, rfl⟩)
  | done hx hs hc hd he => subst hx he; exact .inr (.inr (.inl ⟨rfl, rfl, rfl⟩))
  | take i j r jb hi' hx hw hq he =>
    obtain ⟨hj, hr⟩ := head_taken hi hq
    obtain ⟨b1, b2⟩ := busyOf_at s i hi' _ hw
    subst hx he
    refine .inr (.inr (.inr (.inl ⟨rfl, b1, b2, by simp, ?_, busyOf_set s _ i (4, (j : Int)) rfl, rfl⟩)))
    have := hi.sq
    rw [hq] at this
    rw [List.length_cons] at this
    show (j : Int) ≤ 256
    omega
  | ended i jb hi' hx hw hq hc he =>
    obtain ⟨b1, b2⟩ := busyOf_at s i hi' _ hw
    subst hx he
    exact .inr (.inr (.inr (.inr (.inr (.inr ⟨rfl, b1, hc, b2, busyOf_set s _ i (8, jb) rfl, rfl⟩)))))
  | build i jb hi' hx hw he =>
    obtain ⟨b1, b2⟩ := busyOf_at s i hi' _ hw
    obtain ⟨q, e1, e2⟩ := ho.job i hi' (by rw [hw]; simp) (by rw [hw]; simp)
    rw [hw] at e1
    simp only at e1
    subst hx he
    exact .inr (.inr (.inr (.inr (.inl ⟨.inl rfl, b1, b2, by simp; omega, by simp; omega, busyOf_same s _ i hi' _ (5, jb) hw rfl rfl, rfl⟩))))
  | lock i jb hi' hx hw hl he =>
    obtain ⟨b1, b2⟩ := busyOf_at s i hi' _ hw
    obtain ⟨q, e1, e2⟩ := ho.job i hi' (by rw [hw]; simp) (by rw [hw]; simp)
    rw [hw] at e1
    simp only at e1
    subst hx he
    exact .inr (.inr (.inr (.inr (.inl ⟨.inr (.inl rfl), b1, b2, by simp; omega, by simp; omega, busyOf_same s _ i hi' _ (6, jb) hw rfl rfl, rfl⟩))))
  | put i jb hi' hx hw hl he =>
    obtain ⟨b1, b2⟩ := busyOf_at s i hi' _ hw
    obtain ⟨q, e1, e2⟩ := ho.job i hi' (by rw [hw]; simp) (by rw [hw]; simp)
    rw [hw] at e1
    simp only at e1
    subst hx he
    exact .inr (.inr (.inr (.inr (.inl ⟨.inr (.inr rfl), b1, b2, by simp; omega, by simp; omega, busyOf_same s _ i hi' _ (7, jb) hw rfl rfl, rfl⟩))))
  | unlock i jb hi' hx hw hl he =>
    obtain ⟨b1, b2⟩ := busyOf_at s i hi' _ hw
    obtain ⟨q, e1, e2⟩ := ho.job i hi' (by rw [hw]; simp) (by rw [hw]; simp)
    rw [hw] at e1
    simp only at e1
    subst hx he
    exact .inr (.inr (.inr (.inr (.inr (.inl ⟨rfl, b1, b2, by simp; omega, by simp; omega, busyOf_set s _ i (3, jb) rfl, rfl⟩)))))
structure AloneRun (N : Nat) (E : List Ev) (bs : Nat → List Int) (cl : Nat → Bool) : Prop where
  start : bs 0 = List.replicate (N + 1) 0 ∧ cl 0 = false
  step : ∀ k (h : k < E.length), AloneStep (bs k) (cl k) E[k] (bs (k + 1)) (cl (k + 1))
  len : ∀ k, k ≤ E.length → (bs k).length = N + 1
  last : cl E.length = true
theorem alone_run (J N : Nat) (hJ : J ≤ 256) (hN : 1 ≤ N) (picks : List Int) : AloneRun N (runK J N picks (6 * J + N + 2)).ev (fun k => busyOf (runK J N picks k)) (fun k => (runK J N picks k).closed) := by
  have ht := run_trace J N hN picks
  have hf := run_final J N hN picks
  refine ⟨⟨?_, rfl⟩, fun k hk => ?_, fun k hk => ?_, ?_⟩
  · simp [busyOf, runK, start, val, List.replicate_succ]
  · have hk2 := hk
    rw [ht.length] at hk2
    exact alone_step hJ (run_inv J N hN picks k hk2).1 (run_own J N hN picks k (by omega)) (ht.kind k hk)
  · rw [ht.length] at hk
    rcases Nat.lt_or_ge k (6 * J + N + 2) with h | h
    · have := (run_inv J N hN picks k h).1.len
      simp [busyOf, this]
    · obtain rfl : k = 6 * J + N + 2 := by omega
      have := hf.len
      simp [busyOf, this]
  · rw [ht.length]; exact hf.closed
set_option maxRecDepth 100000 in
set_option maxHeartbeats 1600000 in
theorem alone_in (J N : Nat) (picks : List Int) (A0 : Option Addr) (n c0 : Nat) (w : World) (hr : Reads w A0 n (intsV picks)) (hp : ∀ p ∈ picks, -9223372036854775808 ≤ p ∧ p ≤ 9223372036854775807) (hJ : J ≤ 256) (hN : 1 ≤ N) (hN2 : N ≤ 64) (hn : n ≤ 3000) :
    Calls Try.prog 7 #[.int .i64 (J : Int), .int .i64 (N : Int), .slice A0 n c0] w fun e w' => e = .returned (.bool true) ∧ Below w.heap.size w w' := by
  have HRUN := Lib.hid (fun w1 (hb : Below w.heap.size w w1) => run_any J N picks A0 n c0 w1 (hr.below hb) hp hJ hN hN2)
  have hlr := alone_run J N hJ hN picks
  have hlen := (run_trace J N hN picks).length
  have g1 : ¬ (J : Int) < 0 := by omega
  have g2 : ¬ 256 < (J : Int) := by omega
  have g3 : ¬ (N : Int) < 1 := by omega
  have g4 : ¬ 64 < (N : Int) := by omega
  have g5 : ¬ 3000 < (n : Int) := by omega
  have hmk := run_make_row' (P := Try.prog) 22 3 (.int .i64 0) 8 Try.underlying22 Try.info3 rfl .i64 .i64 (N + 1) (by omega) (by omega)
  rw [show ((N + 1 : Nat) : Int) = (N : Int) + 1 from rfl] at hmk
  clear hr hp
  generalize (runK J N picks (6 * J + N + 2)).ev = E at *
  generalize (fun k => busyOf (runK J N picks k)) = bs at *
  generalize (fun k => (runK J N picks k).closed) = cl at *
  have HL := Lib.hid hlr
  have hE : E.length ≤ 100000 := by omega
  clear hlr hlen
  go_enter Try.func7, Try.ntmps7
  go_wp2_with (first
    | (go_at_call 9; refine (awake_any _).mono ?_; rintro e w1 ⟨rfl, hb1⟩)
    | (go_at_call 11; refine (HRUN.out _ hb1).mono ?_; rintro e w2 ⟨hb2, A, c, rfl, ho2⟩))
  have HEV := Lib.hid (EvAt.of_own ho2 hE)
  have HB2 := Lib.hid (bel_trans hb1 hb2)
  have hw0 : (w2.alloc (.cells (madeCells #[.int .i64 0] (N + 1)) 3)).ownsRow w2.heap.size 3 1 (.slice (some ⟨w2.heap.size, 0, none⟩) (N + 1) (N + 1)) (N + 1) (intsV (bs 0)) := by
    have := World.ownsRow_lit (base := w2.heap.size) (e := 3) (size := 1) w2 (madeCells #[.int .i64 0] (N + 1)) (N + 1) (Nat.le_refl _) (by simp only [maxLen]; omega) (by rw [size_madeCells]; simp)
    rw [toList_madeCells_one] at this
    rw [HL.out.start.1]
    simpa [intsV] using this
  have HW0 := Lib.hid hw0
  clear hb1 hb2 ho2 HRUN hw0 hmk
  go_loopg [10, 11] E.length (fun gk a b wr => ∃ k : Nat, gk = E.length - k ∧ k ≤ E.length ∧ b = .int .i64 (k : Int) ∧ a = .bool (cl k) ∧ wr.ownsRow w2.heap.size 3 1 (.slice (some ⟨w2.heap.size, 0, none⟩) (N + 1) (N + 1)) (N + 1) (intsV (bs k)) ∧ Below w2.heap.size w2 wr)
  case atStart => exact ⟨0, rfl, Nat.zero_le _, rfl, by rw [HL.out.start.2], HW0.out, (Below.refl _ _).alloc (Nat.le_refl _) _⟩
  case round =>
    clear HW0
    obtain ⟨k, rfl, hk, rfl, rfl, hown, hbel⟩ := hrel
    have HB := Lib.hid hbel
    by_cases hlt : k < E.length
    · obtain ⟨g, rfl, hg, e1, e2, e3⟩ := (HEV.out.below hbel).2 k hlt
      have hlt' : (k : Int) < (E.length : Int) := by omega
      have hst := HL.out.step k hlt
      have hbl := HL.out.len k hk
      have HO := Lib.hid (fun o => hown.alloc o)
      have HBA := Lib.hid (fun o => hbel.alloc hbel.size o)
      have hcell : (E[k]).actor < N + 1 → ∀ o, (wr.alloc o).cell? ⟨w2.heap.size, (E[k]).actor, none⟩ = some (.int .i64 ((bs k).getD (E[k]).actor 0)) := fun h o => by
        have := (HO.out o).cellAt (E[k]).actor (by omega)
        rw [this, getD_lt _ _ _ (by omega)]
        simp [intsV, show (E[k]).actor < (bs k).length by omega]
      have hfr : ∀ o, (wr.alloc o).frozen? ⟨w2.heap.size, (E[k]).actor, none⟩ = false := fun o => (HO.out o).frozenAt _
      have hsto : ∀ o, ∀ v : Int, ((wr.alloc o).setCell ⟨w2.heap.size, (E[k]).actor, none⟩ (.int .i64 v)).ownsRow w2.heap.size 3 1 (.slice (some ⟨w2.heap.size, 0, none⟩) (N + 1) (N + 1)) (N + 1) (intsV ((bs k).set (E[k]).actor v)) := fun o v => by
        have := ((HO.out o).stored (E[k]).actor (.int .i64 v)).1
        simpa [intsV, List.map_set] using this
      have HST := Lib.hid hsto
      have HSN : Hid (∀ o q, ∀ v : Int, (((wr.alloc o).drewN q).setCell ⟨w2.heap.size, (E[k]).actor, none⟩ (.int .i64 v)).ownsRow w2.heap.size 3 1 (.slice (some ⟨w2.heap.size, 0, none⟩) (N + 1) (N + 1)) (N + 1) (intsV ((bs k).set (E[k]).actor v))) := fun o q v => by
        have := ((own_drewN (HO.out o) q).stored (E[k]).actor (.int .i64 v)).1
        simpa [intsV, List.map_set] using this
      obtain ⟨bs1, hb1⟩ : ∃ v, bs (k + 1) = v := ⟨_, rfl⟩
      obtain ⟨cl1, hc1⟩ : ∃ v, cl (k + 1) = v := ⟨_, rfl⟩
      rw [hb1, hc1] at hst
      have HBS := Lib.hid hb1
      have HCL := Lib.hid hc1
      clear hbel hown hb1 hc1 hsto
      unfold AloneStep at hst
      generalize (E[k]).what = wt at *
      generalize (E[k]).job = jb at *
      generalize (E[k]).actor = ac at *
      generalize cl k = cl0 at *
      generalize bs k = bs0 at *
      rcases hst with ⟨rfl, rfl, rfl, rfl, rfl⟩ | ⟨rfl, rfl, rfl⟩ | ⟨rfl, rfl, rfl⟩ | ⟨rfl, ha, hv, j0, j1, rfl, rfl⟩ | ⟨(rfl | rfl | rfl), ha, hv, j0, j1, rfl, rfl⟩ | ⟨rfl, ha, hv, j0, j1, rfl, rfl⟩ | ⟨rfl, ha, rfl, hv, rfl, rfl⟩
      · clear hcell hfr
        go_wp2
        go_roundg (E.length - (k + 1))
        case measure => omega
        case rel => exact ⟨k + 1, rfl, hlt, by go_num, by rw [HCL.out], by rw [HBS.out]; exact HO.out _, HBA.out _⟩
      · clear hcell hfr
        go_wp2
        go_roundg (E.length - (k + 1))
        case measure => omega
        case rel => exact ⟨k + 1, rfl, hlt, by go_num, by rw [HCL.out], by rw [HBS.out]; exact HO.out _, HBA.out _⟩
      · clear hcell hfr
        go_wp2
        go_roundg (E.length - (k + 1))
        case measure => omega
        case rel => exact ⟨k + 1, rfl, hlt, by go_num, by rw [HCL.out], by rw [HBS.out]; exact HO.out _, HBA.out _⟩
      · have ha' : (ac : Int) < (N : Int) + 1 := by omega
        have hc := hcell (by omega)
        rw [hv] at hc
        clear hcell hv ha
        go_wp2_with (go_quiet (fail))
        go_roundg (E.length - (k + 1))
        case measure => omega
        case rel => exact ⟨k + 1, rfl, hlt, by go_num, by rw [HCL.out], by rw [HBS.out]; exact HST.out _ _, (HBA.out _).setCell (Nat.le_refl _) _⟩
      · have ha' : (ac : Int) < (N : Int) + 1 := by omega
        have hc := hcell (by omega)
        rw [hv] at hc
        clear hcell hv ha
        go_wp2_with (go_quiet (fail))
        go_roundg (E.length - (k + 1))
        case measure => omega
        case rel => exact ⟨k + 1, rfl, hlt, by go_num, by rw [HCL.out], by rw [HBS.out]; exact own_drewN (HO.out _) _, bel_drewN (HBA.out _) _⟩
      · have ha' : (ac : Int) < (N : Int) + 1 := by omega
        have hc := hcell (by omega)
        rw [hv] at hc
        clear hcell hv ha
        go_wp2_with (go_quiet (fail))
        go_roundg (E.length - (k + 1))
        case measure => omega
        case rel => exact ⟨k + 1, rfl, hlt, by go_num, by rw [HCL.out], by rw [HBS.out]; exact own_drewN (HO.out _) _, bel_drewN (HBA.out _) _⟩
      · have ha' : (ac : Int) < (N : Int) + 1 := by omega
        have hc := hcell (by omega)
        rw [hv] at hc
        clear hcell hv ha
        go_wp2_with (go_quiet (fail))
        go_roundg (E.length - (k + 1))
        case measure => omega
        case rel => exact ⟨k + 1, rfl, hlt, by go_num, by rw [HCL.out], by rw [HBS.out]; exact own_drewN (HO.out _) _, bel_drewN (HBA.out _) _⟩
      · have ha' : (ac : Int) < (N : Int) + 1 := by omega
        have hc := hcell (by omega)
        rw [hv] at hc
        clear hcell hv ha
        go_wp2_with (go_quiet (fail))
        go_roundg (E.length - (k + 1))
        case measure => omega
        case rel => exact ⟨k + 1, rfl, hlt, by go_num, by rw [HCL.out], by rw [HBS.out]; exact HSN.out _ _ _, (bel_drewN (HBA.out _) _).setCell (Nat.le_refl _) _⟩
      · have ha' : (ac : Int) < (N : Int) + 1 := by omega
        have hc := hcell (by omega)
        rw [hv] at hc
        clear hcell hv ha
        go_wp2_with (go_quiet (fail))
        go_roundg (E.length - (k + 1))
        case measure => omega
        case rel => exact ⟨k + 1, rfl, hlt, by go_num, by rw [HCL.out], by rw [HBS.out]; exact HST.out _ _, (HBA.out _).setCell (Nat.le_refl _) _⟩
    · obtain rfl : k = E.length := by omega
      rw [HL.out.last]
      go_wp2
      go_ret
      exact ⟨rfl, bel_trans HB2.out hbel⟩
theorem alone_law (J N : Int) (picks : List Int) (A0 : Option Addr) (n c0 : Nat) (w : World) (hr : Reads w A0 n (intsV picks)) (hp : ∀ p ∈ picks, -9223372036854775808 ≤ p ∧ p ≤ 9223372036854775807) :
    Calls Try.prog 7 #[.int .i64 J, .int .i64 N, .slice A0 n c0] w fun e w' => e = .returned (.bool true) ∧ Below w.heap.size w w' := by
  by_cases h : J < 0 ∨ 256 < J ∨ N < 1 ∨ 64 < N ∨ 3000 < (n : Int)
  · exact alone_out J N A0 n c0 w h
  · obtain ⟨j, rfl⟩ := Int.eq_ofNat_of_zero_le (show 0 ≤ J by omega)
    obtain ⟨m, rfl⟩ := Int.eq_ofNat_of_zero_le (show 0 ≤ N by omega)
    exact alone_in j m picks A0 n c0 w hr hp (by omega) (by omega) (by omega) (by omega)
end Go.Proofs.Ytfokjemoolgojaa

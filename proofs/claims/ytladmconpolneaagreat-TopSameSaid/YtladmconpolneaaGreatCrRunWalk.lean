/- The walk of crew.Run. -/
import Derived.Test.YtladmconpolneaaGreatCrRun
set_option linter.unusedVariables false
set_option linter.unusedSimpArgs false
namespace Go.Proofs.YtladmconpolneaaGreat.Cr
open Go.RowKit
def startK (J N k : Nat) : St := { start J N with ws := List.replicate k (3, -1) ++ List.replicate (N - k) (0, 0) }
theorem startK_all (J N : Nat) : startK J N N = start J N := by simp [startK, start]
theorem made_workers (N : Nat) : (madeCells #[.int .i64 0, .int .i64 0] (N * 2)) = (wcells (List.replicate N (0, 0))).toArray := by
  apply Array.ext'
  unfold madeCells
  simp only [Array.toList_map, Array.toList_range]
  induction N with
  | zero => rfl
  | succ N ih =>
    have e : wcells (List.replicate (N + 1) (0, 0)) = wcells (List.replicate N (0, 0)) ++ [.int .i64 0, .int .i64 0] := by
      rw [List.replicate_succ']; simp [wcells]
    rw [e, ← ih, show (N + 1) * 2 = N * 2 + 1 + 1 from by omega, List.range_succ, List.range_succ, List.map_append, List.map_append]
    simp
theorem run_make_workers (N : Nat) (hN : N ≤ 64) : ∀ w : World, (Instr.makeSlice 301 (.int .i64 (N : Int)) (.int .i64 (N : Int))).run Tryz.prog w = .ok (.slice (some ⟨w.heap.size, 0, none⟩) N N) (w.alloc (.cells (wcells (List.replicate N (0, 0))).toArray 305)) := by
  intro w
  obtain ⟨i0, hi, hz0, hz1, hz2⟩ := info_parts Tryz.info305
  have hr := run_make (P := Tryz.prog) w 301 305 i0 _ Tryz.underlying301 hi hz0 .i64 .i64 N N (by omega) (Int.le_refl _) (by rw [hz2]; omega) (by omega)
  simp only [Int.toNat_natCast, hz1] at hr
  rw [hr, ← made_workers]
  rfl
def RunPost (w : World) (l : List Ev) (e : Ending) (w' : World) : Prop := Below w.heap.size w w' ∧ ∃ A c, e = .returned (.tuple #[.slice A l.length c, .int .i64 0]) ∧ w'.ownsRow w.heap.size 244 3 (.slice A l.length c) l.length (evV l)
theorem start_at (w : World) (J N : Nat) : CrewAt ((w.alloc (.cells (wcells (List.replicate N (0, 0))).toArray 305)).alloc (.cells #[.int .i64 (J : Int), .int .i64 0, .slice none 0 0, .bool false, .slice (some ⟨w.heap.size, 0, none⟩) N N, .int .i64 (-1), .slice none 0 0] 303)) w.heap.size (w.heap.size + 1) w.heap.size (startK J N 0) (.slice none 0 0) (.slice none 0 0) := by
  refine ⟨Nat.le_succ _, Nat.le_refl _, ?_, ?_, QOwn.nil _ _ _, World.ownsRow_nil _ _ _ _⟩
  · have := heap_alloc_new (w.alloc (.cells (wcells (List.replicate N (0, 0))).toArray 305)) (.cells #[.int .i64 (J : Int), .int .i64 0, .slice none 0 0, .bool false, .slice (some ⟨w.heap.size, 0, none⟩) N N, .int .i64 (-1), .slice none 0 0] 303)
    simpa [crewV, startK, start] using this
  · rw [Below.heap_alloc _ _ _ (by simp), heap_alloc_new]
    simp [startK]
def ableTo (s : St) (m : Nat) : List Nat := (List.range m).filter s.can
theorem ableTo_succ (s : St) (m : Nat) : ableTo s (m + 1) = ableTo s m ++ (if s.can m then [m] else []) := by
  unfold ableTo
  rw [List.range_succ, List.filter_append]
  congr 1
  cases h : s.can m <;> simp [h]
theorem ableTo_all (s : St) : ableTo s (s.ws.length + 1) = s.able := rfl
theorem ableTo_le (s : St) (m : Nat) : (ableTo s m).length ≤ m := by
  unfold ableTo
  have := List.length_filter_le s.can (List.range m)
  simpa using this
theorem next_lt {J N : Nat} {s : St} (h : Inv J N s) (hN : 1 ≤ N) (picks : List Int) (k T : Nat) (hk : s.ev.length = k) (hT : T = 6 * J + N + 2) (hov : s.next picks = 0 → s.over = false) : k + 1 < T := by
  have hm := mem_able.1 (next_able h hN picks)
  have h1 := inv_step h _ (by rw [h.len] at hm; exact hm.1) hm.2 hov
  have h2 := h1.left
  rw [step_ev _ _ (fun h0 => ?_), List.length_append, hk, List.length_singleton] at h2
  · omega
  · obtain ⟨i, hi⟩ : ∃ i, s.next picks = i + 1 := ⟨_, (Nat.succ_pred_eq_of_ne_zero h0).symm⟩
    rw [hi] at hm ⊢
    rw [w_eq _ i (by omega)]
    exact work_ok h i (by omega) hm.2
theorem addr_zero (a : Addr) : a.add 0 = a := by unfold Addr.add; split <;> simp_all
theorem startK_step {w : World} {B C Wb J N k : Nat} {vch vev : Value} (h : CrewAt w B C Wb (startK J N k) vch vev) (hk : k < N) :
    CrewAt ((w.setCell ⟨Wb, k * 2, none⟩ (.int .i64 3)).setCell ⟨Wb, k * 2 + 1, none⟩ (.int .i64 (-1))) B C Wb (startK J N (k + 1)) vch vev := by
  have hl : k < (startK J N k).ws.length := by simp [startK]; omega
  have h1 := h.setWs (k * 2) (.int .i64 ((3 : Nat) : Int)) ((startK J N k).ws.set k (3, ((startK J N k).ws[k]).2)) (by simp) (wcells_set1 _ _ _ hl)
  have hl2 : k < ((startK J N k).ws.set k (3, ((startK J N k).ws[k]).2)).length := by simpa using hl
  have h2 := h1.setWs (k * 2 + 1) (.int .i64 (-1)) (((startK J N k).ws.set k (3, ((startK J N k).ws[k]).2)).set k (3, -1)) (by simp) (by
    have := wcells_set2 ((startK J N k).ws.set k (3, ((startK J N k).ws[k]).2)) k (-1) hl2
    rw [this]; simp)
  have e : ((startK J N k).ws.set k (3, ((startK J N k).ws[k]).2)).set k (3, (-1 : Int)) = (startK J N (k + 1)).ws := by
    rw [List.set_set]
    show (List.replicate k ((3 : Nat), (-1 : Int)) ++ List.replicate (N - k) ((0 : Nat), (0 : Int))).set k (3, -1) = List.replicate (k + 1) (3, -1) ++ List.replicate (N - (k + 1)) (0, 0)
    rw [List.set_append_right _ _ (by simp), List.length_replicate, Nat.sub_self, show N - k = N - (k + 1) + 1 from by omega, List.replicate_succ, List.set_cons_zero, List.replicate_succ' (n := k)]
    simp
  rw [e] at h2
  exact h2
set_option maxHeartbeats 1600000 in
theorem run_any (J N : Nat) (picks : List Int) (A0 : Option Addr) (n c0 : Nat) (w : World) (hr : Reads w A0 n (intsV picks)) (hp : ∀ p ∈ picks, -9223372036854775808 ≤ p ∧ p ≤ 9223372036854775807) (hJ : J ≤ 256) (hN : 1 ≤ N) (hN2 : N ≤ 64) :
    Calls Tryz.prog 144 #[.int .i64 (J : Int), .int .i64 (N : Int), .slice A0 n c0] w (RunPost w (runK J N picks (6 * J + N + 2)).ev) := by
  have g1 : ¬ (J : Int) < 0 := by omega
  have g2 : ¬ 256 < (J : Int) := by omega
  have g3 : ¬ (N : Int) < 1 := by omega
  have g4 : ¬ 64 < (N : Int) := by omega
  have hmk := run_make_workers N hN2
  have HR := Lib.hid hr
  have HP := Lib.hid hp
  have HS := Lib.hid (start_at w J N)
  have HB0 : Hid (Below w.heap.size w ((w.alloc (.cells (wcells (List.replicate N (0, 0))).toArray 305)).alloc (.cells #[.int .i64 (J : Int), .int .i64 0, .slice none 0 0, .bool false, .slice (some ⟨w.heap.size, 0, none⟩) N N, .int .i64 (-1), .slice none 0 0] 303))) := ((Below.refl _ _).alloc (Nat.le_refl _) _).alloc (by simp) _
  have HC4 : Hid (∀ wr k vch vev, CrewAt wr w.heap.size (w.heap.size + 1) w.heap.size (startK J N k) vch vev → k ≤ N → wr.cell? ⟨w.heap.size + 1, 4, none⟩ = some (.slice (some ⟨w.heap.size, 0, none⟩) N N)) := fun wr k vch vev h hk => by
    have := crew_cell h 4
    rw [this]
    have e : (startK J N k).ws.length = N := by simp [startK]; omega
    show some (Value.slice _ (startK J N k).ws.length (startK J N k).ws.length) = _
    rw [e]
  clear hr hp
  go_enter Tryz.func144, Tryz.ntmps144
  go_wp2
  generalize hBB : w.heap.size = B at *
  generalize hCC : B + 1 = C at *
  go_loopg [39] N (fun gk b wr => ∃ k : Nat, gk = N - k ∧ k ≤ N ∧ b = .int .i64 (k : Int) ∧ CrewAt wr B C B (startK J N k) (.slice none 0 0) (.slice none 0 0) ∧ Below B w wr)
  case atStart => exact ⟨0, rfl, Nat.zero_le _, rfl, HS.out, HB0.out⟩
  case round =>
    obtain ⟨k, rfl, hk, rfl, hcr, hbel⟩ := hrel
    have c4 := HC4.out wr k _ _ hcr hk
    have HCR := Lib.hid hcr
    have HBE := Lib.hid hbel
    by_cases hlt : k < N
    · have hlt' : (k : Int) < (N : Int) := by omega
      obtain ⟨k4, k5⟩ := worker_cells hcr k (by simp [startK]; omega)
      have f4 : wr.frozen? ⟨B, k * 2, none⟩ = false := frozen_of_row _ _ _ _ _ hcr.hw
      have f5 : wr.frozen? ⟨B, k * 2 + 1, none⟩ = false := frozen_of_row _ _ _ _ _ hcr.hw
      have k5' : ∀ v, (wr.setCell ⟨B, k * 2, none⟩ v).cell? ⟨B, k * 2 + 1, none⟩ = some (.int .i64 ((startK J N k).ws[k]'(by simp [startK]; omega)).2) := fun v => by
        rw [World.cell?_setCell_other _ _ _ _ (by intro e; injection e with _ e2; omega)]; exact k5
      have f5' : ∀ v, (wr.setCell ⟨B, k * 2, none⟩ v).frozen? ⟨B, k * 2 + 1, none⟩ = false := fun v => frozen_of_row _ _ _ _ _ (heap_setCell_same _ _ _ _ _ _ hcr.hw)
      clear hcr hbel
      go_wp2
      go_roundg (N - (k + 1))
      case measure => omega
      case rel => exact ⟨k + 1, rfl, hlt, by go_num, startK_step HCR.out hlt, (HBE.out.setCell (Nat.le_refl _) _).setCell (Nat.le_refl _) _⟩
    · obtain rfl : N = k := by omega
      rw [startK_all] at HCR
      clear hcr hbel HS HB0 HC4 hmk
      go_wp2
      have hT : ∃ T, T = 6 * J + N + 2 := ⟨_, rfl⟩
      obtain ⟨T, hT⟩ := hT
      have HI := Lib.hid (run_inv J N hN picks)
      rw [← hT] at HI
      have HRP : Hid (∀ e w', RunPost w (runK J N picks T).ev e w' → RunPost w (runK J N picks (6 * J + N + 2)).ev e w') := fun e w' h => by rw [← hT]; exact h
      clear c4 hk hlt
      go_loopg [10] T (fun gk b wr => ∃ (k : Nat) (vch vev : Value), gk = T - k ∧ k < T ∧ b = .int .i64 (k : Int) ∧ CrewAt wr B C B (runK J N picks k) vch vev ∧ Below B w wr)
      case atStart => exact ⟨0, _, _, rfl, by omega, rfl, HCR.out, HBE.out⟩
      case round =>
        clear HCR HBE
        obtain ⟨k, vch, vev, rfl, hk, rfl, hcr, hbel⟩ := hrel
        obtain ⟨hinv, hevl⟩ := HI.out k hk
        have HINV := Lib.hid hinv
        have HCR := Lib.hid hcr
        have HB := Lib.hid hbel
        have HEV := Lib.hid hevl
        have hsz : B ≤ wr.heap.size := by have := hbel.size; omega
        have h1 := hinv.len
        have h2 := hinv.sent
        have h3 := hinv.chle
        have h4 := hinv.jobs
        have h5 := hinv.sq
        have h6 : -1 ≤ (runK J N picks k).locked ∧ (runK J N picks k).locked ≤ 64 := by
          rcases hinv.held with h | ⟨i, hi, h⟩
          · omega
          · omega
        have HCAN : Hid (∀ (m : Nat) (wi : World), m ≤ N → Below wr.heap.size wr wi → (Calls Tryz.prog 183 #[.pointer (some ⟨C, 0, none⟩), .int .i64 (m : Int)] wi fun e w' => e = .returned (.bool ((runK J N picks k).can m)) ∧ Below wi.heap.size wi w')) := by
          intro m wi hm hb
          cases m with
          | zero => exact can_zero B C B _ vch vev wi (hcr.below hb) (by omega) (by omega) (by omega) (by omega)
          | succ m => exact can_pos B C B _ vch vev (m + 1) wi (hcr.below hb) (by omega) (by omega) (by omega) (by omega) h6 (by
              rw [w_eq _ m (by omega)]; exact (hinv.nx m (by omega)).2)
        clear hcr hbel hinv hevl
        go_wp2
        have HNEXT : Hid (runK J N picks (k + 1) = (runK J N picks k).step ((runK J N picks k).next picks)) := rfl
        have HLT := Lib.hid (next_lt HINV.out hN picks k T HEV.out hT)
        have HMEM := Lib.hid (mem_able.1 (next_able HINV.out hN picks))
        have HPOS := Lib.hid (able_ne HINV.out hN)
        generalize runK J N picks k = s at *
        generalize wr = W0 at *
        go_loopg [11, 54] (N + 1) (fun gk a b wi => ∃ (m : Nat) (A : Option Addr) (c : Nat), gk = N + 1 - m ∧ m ≤ N + 1 ∧ b = .int .i64 (m : Int) ∧ a = .slice A (ableTo s m).length c ∧ wi.ownsRow W0.heap.size 3 1 (.slice A (ableTo s m).length c) (ableTo s m).length (jobsV (ableTo s m)) ∧ Below W0.heap.size W0 wi)
        case atStart => exact ⟨0, none, 0, rfl, Nat.zero_le _, rfl, rfl, World.ownsRow_nil _ _ _ _, Below.refl _ _⟩
        case round =>
          obtain ⟨m, A, c, rfl, hm, rfl, rfl, hown, hbe⟩ := hrel
          have HO := Lib.hid hown
          have HBI := Lib.hid hbe
          have hal := ableTo_le s m
          by_cases hlt : m < N + 1
          · have hlt' : (m : Int) < (N : Int) + 1 := by omega
            have HCM := Lib.hid (HCAN.out m _ (by omega) hbe)
            have HSU := Lib.hid (ableTo_succ s m)
            clear hown hbe
            generalize hL : (ableTo s m).length = L at *
            cases hcan : s.can m with
            | false =>
              rw [hcan] at HCM HSU
              have HSU2 : Hid (ableTo s (m + 1) = ableTo s m) := by show _ = _; rw [HSU.out]; simp
              clear hcan HSU
              go_wp2_with (go_at_call 183; refine (HCM.out).mono ?_; rintro e w2 ⟨rfl, hb2⟩)
              go_roundg (N + 1 - (m + 1))
              case measure => omega
              case rel =>
                refine ⟨m + 1, A, c, rfl, hlt, by go_num, by rw [HSU2.out, hL], ?_, HBI.out.trans (hb2.mono HBI.out.size)⟩
                rw [HSU2.out, hL]
                exact own_below HO.out hb2
            | true =>
              rw [hcan] at HCM HSU
              have HSU2 : Hid (ableTo s (m + 1) = ableTo s m ++ [m]) := by show _ = _; rw [HSU.out]; simp
              clear hcan HSU
              go_wp2_with (first
                | (go_at_call 183; refine (HCM.out).mono ?_; rintro e w2 ⟨rfl, hb2⟩; have HB2 := Lib.hid (bel_trans HBI.out hb2); have HO2 := Lib.hid (own_below HO.out hb2))
                | (at_builtin; refine append_one W0.heap.size rfl _ _ 66 3 (.int .i64 0) 8 rfl Tryz.underlying66 Tryz.info3 rfl (by decide) (.slice A L c) L (jobsV (ableTo s m)) (.int .i64 (m : Int)) rfl rfl rfl HO2.out HB2.out.size (by omega) ?_))
              intro A1 c1 w3 ho3 hg3 hat3 hsz3
              have e5 : jobsV (ableTo s m) ++ [.int .i64 (m : Int)] = jobsV (ableTo s (m + 1)) := by rw [HSU2.out]; simp [jobsV]
              have e6 : (ableTo s (m + 1)).length = L + 1 := by rw [HSU2.out, List.length_append, hL]; rfl
              rw [e5] at ho3
              have HO3 := Lib.hid ho3
              have HE6 := Lib.hid e6
              have HB3 : Hid (Below W0.heap.size W0 w3) := HB2.out.grown hg3 HB2.out.size (own_base HO2.out)
              clear ho3 hg3 hat3 hsz3 e5 e6 hb2
              go_wp2
              go_roundg (N + 1 - (m + 1))
              case measure => omega
              case rel => exact ⟨m + 1, A1, c1, rfl, hlt, by go_num, by rw [HE6.out], by rw [HE6.out]; exact HO3.out, HB3.out⟩
          · obtain rfl : m = N + 1 := by omega
            have hge : ¬ (((N + 1 : Nat) : Int) < (N : Int) + 1) := by omega
            have eA : ableTo s (N + 1) = s.able := by rw [← h1]; rfl
            rw [eA] at HO hal ⊢
            have hBW : Below B w wr := HB.out.trans (HBI.out.mono hsz)
            have HBW := Lib.hid hBW
            have HCW := Lib.hid (HCR.out.below HBI.out)
            have hszW : B ≤ wr.heap.size := Nat.le_trans hsz HBI.out.size
            have hx : pickAt picks k s.able.length < s.able.length := pick_lt _ _ _ HPOS.out
            have hnext : s.next picks = s.able[pickAt picks k s.able.length] := by
              unfold St.next
              rw [HEV.out, getD_lt _ _ _ hx]
            obtain ⟨ad, hA, hce⟩ := (own_reads HO.out).at_ _ hx
            subst hA
            rw [show (jobsV s.able).getD (pickAt picks k s.able.length) undef = .int .i64 ((s.next picks : Nat) : Int) from by rw [hnext]; simp [jobsV, hx]] at hce
            have hpl : picks.length = n := by have := HR.out.1; simpa [intsV] using this
            have hmem := HMEM.out
            have hpos := HPOS.out
            have HPK : Hid (∀ h : k < n, pickAt picks k s.able.length = place (picks.getD k 0) s.able.length) := fun h => by
              unfold pickAt
              rw [if_pos (by omega)]
            have HPN : Hid (¬ k < n → pickAt picks k s.able.length = 0) := fun h => by
              unfold pickAt
              rw [if_neg (by omega)]
            have HCE : Hid (∀ h : k < n, ∃ ad', A0 = some ad' ∧ wr.cell? (ad'.add k) = some (.int .i64 (picks.getD k 0))) := fun h => by
              obtain ⟨ad', e1, e2⟩ := (HR.out.below (by rw [hBB]; exact hBW)).at_ k h
              refine ⟨ad', e1, ?_⟩
              rw [e2]
              have hk' : k < picks.length := by omega
              simp [intsV, hk', List.getD_eq_getElem?_getD]
            have HPA : Hid (∀ (h : k < n) w1, Calls Tryz.prog 184 #[.int .i64 (picks.getD k 0), .int .i64 ((s.able.length : Nat) : Int)] w1 fun e w' => e = .returned (.int .i64 ((pickAt picks k s.able.length : Nat) : Int)) ∧ w1 = w') := fun h w1 => by
              rw [HPK.out h]
              have hk' : k < picks.length := by omega
              rw [getD_lt _ _ _ hk']
              have := HP.out picks[k] (List.getElem_mem hk')
              exact place_any _ _ w1 this.1 this.2 hpos (by omega)
            have hev : s.ev.length ≤ 100000 := by rw [HEV.out]; omega
            have HWORK : Hid (∀ i, s.next picks = i + 1 → (Calls Tryz.prog 185 #[.pointer (some ⟨C, 0, none⟩), .int .i64 ((s.next picks : Nat) : Int)] wr (ThenPost B C B (runK J N picks (k + 1)) wr)) ∧ k + 1 < T) := fun i hi => by
              have hi' : i < s.ws.length := by rw [hi] at hmem; omega
              have e1 : runK J N picks (k + 1) = s.work (s.next picks) := by
                rw [HNEXT.out]
                unfold St.step
                rw [if_neg (by omega)]
              refine ⟨?_, HLT.out (fun h0 => by omega)⟩
              rw [e1]
              exact work_any B C B s vch vev i _ wr HCW.out hszW hev hi' hi (by omega) (by omega) (work_ok HINV.out i hi' (by rw [← hi]; exact hmem.2))
            have HLEAD : Hid (s.next picks = 0 → (Calls Tryz.prog 186 #[.pointer (some ⟨C, 0, none⟩)] wr (LeadPost B C B (runK J N picks (k + 1)) s.over wr)) ∧ (s.over = false → k + 1 < T) ∧ (s.over = true → k + 1 = T)) := fun h0 => by
              have e1 : runK J N picks (k + 1) = s.lead := by
                rw [HNEXT.out, h0]
                unfold St.step
                rw [if_pos rfl]
              refine ⟨?_, fun ho => HLT.out (fun _ => ho), fun ho => ?_⟩
              · rw [e1]
                exact lead_any B C B s vch vev wr HCW.out hszW hev (by omega) (by omega) (by omega)
              · have := over_left HINV.out hN ho (by rw [← h0]; exact hmem.2)
                rw [HEV.out] at this
                omega
            have HEQ := Lib.hid hBB
            clear hnext hBW hpl hmem HR HP HINV HEV HNEXT HLT HMEM HPOS HI eA HCAN HPK h1 h2 h3 h4 h5 h6
            generalize pickAt picks k s.able.length = x at *
            generalize s.next picks = nx at *
            generalize s.able.length = pl at *
            generalize s.over = ov at *
            by_cases hkn : k < n
            · have hkn' : (k : Int) < (n : Int) := by omega
              obtain ⟨ad', rfl, hce'⟩ := HCE.out hkn
              have HPX := Lib.hid (HPA.out hkn)
              clear HCE HPA HPN hkn
              generalize picks.getD k 0 = pk at *
              by_cases h0 : nx = 0
              · subst h0
                obtain ⟨hl1, hl2, hl3⟩ := HLEAD.out rfl
                have HL2 := Lib.hid hl1
                clear hl1
                cases ov with
                | false =>
                  have HKT := Lib.hid (hl2 rfl)
                  clear HLEAD HWORK hl2 hl3
                  go_wp2_with (first
                  | (go_at_call 184; refine (HPX.out _).mono ?_; rintro e w2 ⟨rfl, rfl⟩)
                  | (go_at_call 186; refine (HL2.out).mono ?_; rintro e w3 ⟨rfl, hb3, v1, v2, hc3⟩))
                  go_roundg (T - (k + 1))
                  case measure => omega
                  case rel => exact ⟨k + 1, v1, v2, rfl, HKT.out, by go_num, hc3, HBW.out.trans hb3⟩
                | true =>
                  have HKT := Lib.hid (hl3 rfl)
                  clear HLEAD HWORK hl2 hl3
                  go_wp2_with (first
                    | (go_at_call 184; refine (HPX.out _).mono ?_; rintro e w2 ⟨rfl, rfl⟩)
                    | (go_at_call 186; refine (HL2.out).mono ?_; rintro e w3 ⟨rfl, hb3, v1, v2, hc3⟩; have c6 : w3.cell? ⟨C, 6, none⟩ = some v2 := crew_cell hc3 6; have HC3 := Lib.hid hc3; clear hc3))
                  go_ret2
                  refine HRP.out _ _ ?_
                  have hb := HBW.out.trans hb3
                  obtain ⟨A6, c6', hv⟩ := own_slice HC3.out.he
                  rw [← HKT.out]
                  subst hv
                  exact ⟨by rw [HEQ.out]; exact hb, A6, c6', rfl, by rw [HEQ.out]; exact HC3.out.he⟩
              · obtain ⟨i, hi⟩ : ∃ i, nx = i + 1 := ⟨nx - 1, by omega⟩
                obtain ⟨hw2, hkt⟩ := HWORK.out i hi
                have HW2 := Lib.hid hw2
                have HKT := Lib.hid hkt
                have hnx : (0 : Int) < (nx : Int) := by omega
                clear HLEAD HWORK hw2 hkt hi h0
                go_wp2_with (first
                  | (go_at_call 184; refine (HPX.out _).mono ?_; rintro e w2 ⟨rfl, rfl⟩)
                  | (go_at_call 185; refine (HW2.out).mono ?_; rintro e w3 ⟨rfl, hb3, v1, v2, hc3⟩))
                go_roundg (T - (k + 1))
                case measure => omega
                case rel => exact ⟨k + 1, v1, v2, rfl, HKT.out, by go_num, hc3, HBW.out.trans hb3⟩
            · have hkn' : ¬ (k : Int) < (n : Int) := by omega
              have hx0 := HPN.out hkn
              subst hx0
              rw [addr_zero] at hce
              clear HCE HPA HPN hkn
              by_cases h0 : nx = 0
              · subst h0
                obtain ⟨hl1, hl2, hl3⟩ := HLEAD.out rfl
                have HL2 := Lib.hid hl1
                clear hl1
                cases ov with
                | false =>
                  have HKT := Lib.hid (hl2 rfl)
                  clear HLEAD HWORK hl2 hl3
                  go_wp2_with (first
                  | (go_at_call 186; refine (HL2.out).mono ?_; rintro e w3 ⟨rfl, hb3, v1, v2, hc3⟩))
                  go_roundg (T - (k + 1))
                  case measure => omega
                  case rel => exact ⟨k + 1, v1, v2, rfl, HKT.out, by go_num, hc3, HBW.out.trans hb3⟩
                | true =>
                  have HKT := Lib.hid (hl3 rfl)
                  clear HLEAD HWORK hl2 hl3
                  go_wp2_with (first
                    | (go_at_call 186; refine (HL2.out).mono ?_; rintro e w3 ⟨rfl, hb3, v1, v2, hc3⟩; have c6 : w3.cell? ⟨C, 6, none⟩ = some v2 := crew_cell hc3 6; have HC3 := Lib.hid hc3; clear hc3))
                  go_ret2
                  refine HRP.out _ _ ?_
                  have hb := HBW.out.trans hb3
                  obtain ⟨A6, c6', hv⟩ := own_slice HC3.out.he
                  rw [← HKT.out]
                  subst hv
                  exact ⟨by rw [HEQ.out]; exact hb, A6, c6', rfl, by rw [HEQ.out]; exact HC3.out.he⟩
              · obtain ⟨i, hi⟩ : ∃ i, nx = i + 1 := ⟨nx - 1, by omega⟩
                obtain ⟨hw2, hkt⟩ := HWORK.out i hi
                have HW2 := Lib.hid hw2
                have HKT := Lib.hid hkt
                have hnx : (0 : Int) < (nx : Int) := by omega
                clear HLEAD HWORK hw2 hkt hi h0
                go_wp2_with (first
                  | (go_at_call 185; refine (HW2.out).mono ?_; rintro e w3 ⟨rfl, hb3, v1, v2, hc3⟩))
                go_roundg (T - (k + 1))
                case measure => omega
                case rel => exact ⟨k + 1, v1, v2, rfl, HKT.out, by go_num, hc3, HBW.out.trans hb3⟩
end Go.Proofs.YtladmconpolneaaGreat.Cr

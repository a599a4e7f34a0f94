/- The walk of the law CrewEnds. -/
import Derived.Test.YtfokjemoolgojaaEnds
set_option linter.unusedVariables false
set_option linter.unusedSimpArgs false
namespace Go.Proofs.Ytfokjemoolgojaa
open Go.RowKit
set_option maxRecDepth 100000 in
theorem ends_out (J N : Int) (A0 : Option Addr) (n c0 : Nat) (w : World) (h : J < 0 ∨ 256 < J ∨ N < 1 ∨ 64 < N ∨ 3000 < (n : Int)) :
    Calls Try.prog 4 #[.int .i64 J, .int .i64 N, .slice A0 n c0] w fun e w' => e = .returned (.bool true) ∧ Below w.heap.size w w' := by
  have hh : J < 0 ∨ (¬ J < 0 ∧ 256 < J) ∨ (¬ J < 0 ∧ ¬ 256 < J ∧ N < 1) ∨ (¬ J < 0 ∧ ¬ 256 < J ∧ ¬ N < 1 ∧ 64 < N) ∨ (¬ J < 0 ∧ ¬ 256 < J ∧ ¬ N < 1 ∧ ¬ 64 < N ∧ 3000 < (n : Int)) := by omega
  clear h
  rcases hh with h | ⟨h1, h2⟩ | ⟨h1, h2, h3⟩ | ⟨h1, h2, h3, h4⟩ | ⟨h1, h2, h3, h4, h5⟩
  all_goals
    go_enter Try.func4, Try.ntmps4
    go_wp2_with (go_at_call 9; refine (awake_any _).mono ?_; rintro e w1 ⟨rfl, hb1⟩)
    go_ret
    exact ⟨rfl, hb1⟩
theorem own_drewN {w : World} {base : Nat} {e : TypeId} {size n : Nat} {v : Value} {xs : List Value} (h : w.ownsRow base e size v n xs) (q : Nat) : (w.drewN q).ownsRow base e size v n xs :=
  own_below h (bel_drewN (Below.refl _ _) q)
theorem own_zeros (w : World) (J : Nat) (hJ : J ≤ 256) : (w.alloc (.cells (madeCells #[.int .i64 0] J) 3)).ownsRow w.heap.size 3 1 (.slice (some ⟨w.heap.size, 0, none⟩) J J) J (intsV (List.replicate J 0)) := by
  have := World.ownsRow_lit (base := w.heap.size) (e := 3) (size := 1) w (madeCells #[.int .i64 0] J) J (Nat.le_refl _) (by simp only [maxLen]; omega) (by rw [size_madeCells]; simp)
  rw [toList_madeCells_one] at this
  simpa [intsV] using this
theorem own_mono {w : World} {base base' : Nat} {e : TypeId} {size : Nat} {v : Value} {n : Nat} {xs : List Value} (h : w.ownsRow base e size v n xs) (hb : base' ≤ base) : w.ownsRow base' e size v n xs :=
  ⟨h.1, h.2.imp id fun ⟨g, cap, cur, h1, h2, h3⟩ => ⟨g, cap, cur, h1, Nat.le_trans hb h2, h3⟩⟩
/-- The law's two rows. -/
structure TwoAt (B : Nat) (J : Nat) (w : World) (wh nx : List Int) : Prop where
  who : w.ownsRow B 3 1 (.slice (some ⟨B, 0, none⟩) J J) J (intsV wh)
  next : w.ownsRow B 3 1 (.slice (some ⟨B + 1, 0, none⟩) J J) J (intsV nx)
  room : B + 1 < w.heap.size
theorem TwoAt.below {B J : Nat} {w w' : World} {wh nx : List Int} (h : TwoAt B J w wh nx) (hb : Below w.heap.size w w') : TwoAt B J w' wh nx :=
  ⟨own_below h.who hb, own_below h.next hb, Nat.lt_of_lt_of_le h.room hb.size⟩
theorem two_start (w : World) (J : Nat) (hJ : J ≤ 256) : TwoAt w.heap.size J ((w.alloc (.cells (madeCells #[.int .i64 0] J) 3)).alloc (.cells (madeCells #[.int .i64 0] J) 3)) (List.replicate J 0) (List.replicate J 0) := by
  refine ⟨(own_zeros w J hJ).alloc _, ?_, by simp⟩
  have := own_zeros (w.alloc (.cells (madeCells #[.int .i64 0] J) 3)) J hJ
  have h2 := own_mono this (base' := w.heap.size) (by simp)
  simpa using h2
theorem two_set {B J : Nat} {w : World} {wh nx : List Int} (h : TwoAt B J w wh nx) (k : Nat) (a q : Int) :
    TwoAt B J ((w.setCell ⟨B, k, none⟩ (.int .i64 a)).setCell ⟨B + 1, k, none⟩ (.int .i64 q)) (wh.set k a) (nx.set k q) := by
  have h1 := (h.who.stored k (.int .i64 a)).1
  have h2 := ownsRow_setCell_other h.next (a := ⟨B, k, none⟩) (by intro e; injection e with e; change B + 1 = B at e; omega) (.int .i64 a)
  have h3 := (h2.stored k (.int .i64 q)).1
  have h4 := ownsRow_setCell_other h1 (a := ⟨B + 1, k, none⟩) (by intro e; injection e with e; change B = B + 1 at e; omega) (.int .i64 q)
  refine ⟨?_, ?_, by simpa [World.setCell] using h.room⟩
  · simpa [intsV, List.map_set] using h4
  · simpa [intsV, List.map_set] using h3
theorem two_cells {B J : Nat} {w : World} {wh nx : List Int} (h : TwoAt B J w wh nx) (hw : wh.length = J) (hn : nx.length = J) (k : Nat) (hk : k < J) :
    w.cell? ⟨B, k, none⟩ = some (.int .i64 (wh.getD k 0)) ∧ w.cell? ⟨B + 1, k, none⟩ = some (.int .i64 (nx.getD k 0)) ∧ w.frozen? ⟨B, k, none⟩ = false ∧ w.frozen? ⟨B + 1, k, none⟩ = false := by
  refine ⟨?_, ?_, h.who.frozenAt k, h.next.frozenAt k⟩
  · rw [h.who.cellAt k (by omega), getD_lt _ _ _ (by omega)]
    simp [intsV, show k < wh.length by omega]
  · rw [h.next.cellAt k (by omega), getD_lt _ _ _ (by omega)]
    simp [intsV, show k < nx.length by omega]
set_option maxRecDepth 100000 in
set_option maxHeartbeats 3200000 in
theorem ends_in (J N : Nat) (picks : List Int) (A0 : Option Addr) (n c0 : Nat) (w : World) (hr : Reads w A0 n (intsV picks)) (hp : ∀ p ∈ picks, -9223372036854775808 ≤ p ∧ p ≤ 9223372036854775807) (hJ : J ≤ 256) (hN : 1 ≤ N) (hN2 : N ≤ 64) (hn : n ≤ 3000) :
    Calls Try.prog 4 #[.int .i64 (J : Int), .int .i64 (N : Int), .slice A0 n c0] w fun e w' => e = .returned (.bool true) ∧ Below w.heap.size w w' := by
  have HRUN := Lib.hid (fun w1 (hb : Below w.heap.size w w1) => run_any J N picks A0 n c0 w1 (hr.below hb) hp hJ hN hN2)
  have hlr := ends_run J N hN picks
  have hlen := (run_trace J N hN picks).length
  have g1 : ¬ (J : Int) < 0 := by omega
  have g2 : ¬ 256 < (J : Int) := by omega
  have g3 : ¬ (N : Int) < 1 := by omega
  have g4 : ¬ 64 < (N : Int) := by omega
  have g5 : ¬ 3000 < (n : Int) := by omega
  have hmk := run_make_row' (P := Try.prog) 22 3 (.int .i64 0) 8 Try.underlying22 Try.info3 rfl .i64 .i64 J (by omega) (by omega)
  clear hr hp
  generalize (runK J N picks (6 * J + N + 2)).ev = E at *
  have HL := Lib.hid hlr
  have hE : E.length ≤ 100000 := by omega
  obtain ⟨L, hL⟩ : ∃ L, E.length = L + 1 := ⟨E.length - 1, by omega⟩
  have hLv : (6 : Int) * (J : Int) + (N : Int) + 2 = (L : Int) + 1 := by omega
  have hlast : ∃ h : L < E.length, E[L] = ⟨0, 2, -1⟩ := by
    have := hlr.end_
    refine ⟨by omega, ?_⟩
    rw [List.getLast?_eq_getElem?, hL, Nat.add_sub_cancel, List.getElem?_eq_getElem (by omega)] at this
    injection this
  have HLAST := Lib.hid hlast
  have HLEN := Lib.hid hL
  have HRUN2 : Hid (∀ w1, Below w.heap.size w w1 → (Calls Try.prog 11 #[.int .i64 (J : Int), .int .i64 (N : Int), .slice A0 n c0] w1 fun e w' => Below w1.heap.size w1 w' ∧ ∃ g c, e = .returned (.tuple #[.slice (some ⟨g, 0, none⟩) (L + 1) c, .int .i64 0]) ∧ EvAt w' (some ⟨g, 0, none⟩) E)) := fun w1 hb => by
    refine (HRUN.out w1 hb).mono ?_
    rintro e w2 ⟨hb2, A, c, rfl, ho2⟩
    have h := EvAt.of_own ho2 hE
    obtain ⟨g, rfl, _⟩ := h.2 0 (by omega)
    exact ⟨hb2, g, c, by rw [hL], h⟩
  clear hlr hlen HRUN hlast hL
  go_enter Try.func4, Try.ntmps4
  go_wp2_with (first
    | (go_at_call 9; refine (awake_any _).mono ?_; rintro e w1 ⟨rfl, hb1⟩)
    | (go_at_call 11; refine (HRUN2.out _ hb1).mono ?_; rintro e w2 ⟨hb2, g, c, rfl, hev⟩; have HEV := Lib.hid hev; have HB2 := Lib.hid (bel_trans hb1 hb2); have hcl : w2.cell? ⟨g, L * 3, none⟩ = some (.int .i64 0) ∧ w2.cell? ⟨g, L * 3 + 1, none⟩ = some (.int .i64 2) ∧ w2.cell? ⟨g, L * 3 + 2, none⟩ = some (.int .i64 (-1)) := (by obtain ⟨hlt, he⟩ := HLAST.out; obtain ⟨g', e', _, k1, k2, k3⟩ := hev.2 L hlt; cases e'; rw [he] at k1 k2 k3; exact ⟨k1, k2, k3⟩); obtain ⟨q1, q2, q3⟩ := hcl; clear hev))
  clear q1 q2 q3 hb1 hb2 HRUN2 HLAST hmk hLv
  have HT0 := Lib.hid (two_start w2 J hJ)
  go_loopg [11, 12] (L + 1) (fun gk a b wr => ∃ k : Nat, gk = L + 1 - k ∧ k ≤ L + 1 ∧ b = .int .i64 (k : Int) ∧ a = .int .i64 (enK E k) ∧ TwoAt w2.heap.size J wr (whK J E k) (nxK J E k) ∧ Below w2.heap.size w2 wr)
  case atStart => exact ⟨0, rfl, Nat.zero_le _, rfl, rfl, HT0.out, ((Below.refl _ _).alloc (Nat.le_refl _) _).alloc (by simp) _⟩
  case round =>
    clear HT0
    obtain ⟨k, rfl, hk, rfl, rfl, htwo, hbel⟩ := hrel
    have hll := HL.out.len k (by rw [HLEN.out]; exact hk)
    obtain ⟨hwl, hnl, hen0, henN⟩ := hll
    by_cases hlt : k < L + 1
    · have hlt2 : k < E.length := by rw [HLEN.out]; exact hlt
      obtain ⟨g', e', hg, e1, e2, e3⟩ := (HEV.out.below hbel).2 k hlt2
      cases e'
      have hlt' : (k : Int) < (L : Int) + 1 := by omega
      have hok := HL.out.ok k hlt2
      have HWS : Hid (whK J E (k + 1) = whS (whK J E k) E[k]) := by show whS _ (E.getD k _) = _; rw [getD_lt _ _ _ hlt2]
      have HNS : Hid (nxK J E (k + 1) = nxS (nxK J E k) E[k]) := by show nxS _ (E.getD k _) = _; rw [getD_lt _ _ _ hlt2]
      have HES : Hid (enK E (k + 1) = enS (enK E k) E[k]) := by show enS _ (E.getD k _) = _; rw [getD_lt _ _ _ hlt2]
      generalize E[k] = x at *
      have HB := Lib.hid hbel
      have HT := Lib.hid htwo
      generalize enK E k = en at *
      rcases hok with ⟨hj, hw3⟩ | ⟨kk, q, hj, hkJ, hac, hq, hq6, hwt, hwho, hz, hnz⟩
      · have HE2 : Hid (whS (whK J E k) x = whK J E k ∧ nxS (nxK J E k) x = nxK J E k) := by
          constructor
          · unfold whS; rw [if_pos (by omega)]
          · unfold nxS; rw [if_pos (by omega)]
        have HE3 : Hid (enS en x = if x.what = 8 then en + 1 else en) := rfl
        rw [hj] at e3
        clear hj htwo hbel
        generalize x.actor = ac at *
        generalize x.what = wt at *
        rcases hw3 with rfl | rfl | rfl
        all_goals
          go_wp2
          go_roundg (L + 1 - (k + 1))
          case measure => omega
          case rel => exact ⟨k + 1, rfl, hlt, by go_num, by rw [HES.out, HE3.out]; simp, by rw [HWS.out, HNS.out, HE2.out.1, HE2.out.2]; exact HT.out.below ((Below.refl _ _).alloc (Nat.le_refl _) _), HB.out.alloc HB.out.size _⟩
      · have hb2 : ∀ o1 o2, Below wr.heap.size wr ((wr.alloc o1).alloc o2) := fun o1 o2 => ((Below.refl _ _).alloc (Nat.le_refl _) _).alloc (by simp) _
        have hTA : ∀ o1 o2 z, TwoAt w2.heap.size J (((wr.alloc o1).alloc o2).drewN z) (whK J E k) (nxK J E k) := fun o1 o2 z => (htwo.below (hb2 o1 o2)).below (bel_drewN (Below.refl _ _) _)
        have hTB : ∀ o1 o2, TwoAt w2.heap.size J ((wr.alloc o1).alloc o2) (whK J E k) (nxK J E k) := fun o1 o2 => htwo.below (hb2 o1 o2)
        have cwh : ∀ o1 o2, ((wr.alloc o1).alloc o2).cell? ⟨w2.heap.size, kk, none⟩ = some (.int .i64 ((whK J E k).getD kk 0)) := fun o1 o2 => (two_cells (hTB o1 o2) hwl hnl kk hkJ).1
        have cnx : ∀ o1 o2, ((wr.alloc o1).alloc o2).cell? ⟨w2.heap.size + 1, kk, none⟩ = some (.int .i64 (q : Int)) := fun o1 o2 => by rw [← hq]; exact (two_cells (hTB o1 o2) hwl hnl kk hkJ).2.1
        have fwh : ∀ o1 o2, ((wr.alloc o1).alloc o2).frozen? ⟨w2.heap.size, kk, none⟩ = false := fun o1 o2 => (two_cells (hTB o1 o2) hwl hnl kk hkJ).2.2.1
        have cnx2 : ∀ o1 o2 z v, ((((wr.alloc o1).alloc o2).drewN z).setCell ⟨w2.heap.size, kk, none⟩ v).cell? ⟨w2.heap.size + 1, kk, none⟩ = some (.int .i64 (q : Int)) := fun o1 o2 z v => by
          rw [World.cell?_setCell_other _ _ _ _ (by intro e; injection e with e; omega), ← hq]
          exact (two_cells (hTA o1 o2 z) hwl hnl kk hkJ).2.1
        have fnx2 : ∀ o1 o2 z v, ((((wr.alloc o1).alloc o2).drewN z).setCell ⟨w2.heap.size, kk, none⟩ v).frozen? ⟨w2.heap.size + 1, kk, none⟩ = false := fun o1 o2 z v => by
          have := (two_cells (hTA o1 o2 z) hwl hnl kk hkJ).2.2.2
          unfold World.frozen? at this ⊢
          rw [heap_setCell_other _ _ _ _ (show w2.heap.size + 1 ≠ w2.heap.size by omega)]
          exact this
        have HTS : Hid (∀ o1 o2 z, TwoAt w2.heap.size J (((((wr.alloc o1).alloc o2).drewN z).setCell ⟨w2.heap.size, kk, none⟩ (.int .i64 (x.actor : Int))).setCell ⟨w2.heap.size + 1, kk, none⟩ (.int .i64 ((q : Int) + 1))) (whK J E (k + 1)) (nxK J E (k + 1))) := fun o1 o2 z => by
          rw [HWS.out, HNS.out, whS_job _ _ _ hj, nxS_job _ _ _ hj, hq]
          exact two_set (hTA o1 o2 z) kk _ _
        have HBS : Hid (∀ o1 o2 z v u, Below w2.heap.size w2 (((((wr.alloc o1).alloc o2).drewN z).setCell ⟨w2.heap.size, kk, none⟩ v).setCell ⟨w2.heap.size + 1, kk, none⟩ u)) := fun o1 o2 z v u =>
          (((hbel.trans ((hb2 o1 o2).mono hbel.size)).trans (bel_drewN (Below.refl _ _) z)).setCell (Nat.le_refl _) v).setCell (Nat.le_succ _) u
        have HE3 : Hid (enS en x = if x.what = 8 then en + 1 else en) := rfl
        have hjk : (kk : Int) < (J : Int) := by omega
        have hacN : (x.actor : Int) ≤ (N : Int) := by omega
        have hz' : q = 0 → ((x.actor : Int) == 0) = true := fun h => by simp; have := hz h; omega
        have hnz' : q ≠ 0 → ((x.actor : Int) == 0) = false := fun h => by simp; have := hnz h; omega
        rw [hj] at e3
        clear hb2 hTA hTB htwo hbel hz hnz hac hkJ hq hj HT HB
        generalize (whK J E k).getD kk 0 = wk at *
        generalize x.actor = ac at *
        generalize x.what = wt at *
        rcases (show q = 0 ∨ q = 1 ∨ q = 2 ∨ q = 3 ∨ q = 4 ∨ q = 5 from by omega) with rfl | rfl | rfl | rfl | rfl | rfl
        · have hwt2 : wt = 0 := hwt
          subst hwt2
          have hac0 := hz' rfl
          clear hwho hz' hnz' hq6 hwt
          go_wp2_with (go_quiet (fail))
          go_roundg (L + 1 - (k + 1))
          case measure => omega
          case rel => exact ⟨k + 1, rfl, hlt, by go_num, by rw [HES.out, HE3.out]; simp, HTS.out _ _ _, HBS.out _ _ _ _ _⟩
        · have hwt2 : wt = 3 := hwt
          subst hwt2
          have hac0 := hnz' (by decide)
          clear hwho hz' hnz' hq6 hwt
          go_wp2_with (go_quiet (fail))
          go_roundg (L + 1 - (k + 1))
          case measure => omega
          case rel => exact ⟨k + 1, rfl, hlt, by go_num, by rw [HES.out, HE3.out]; simp, HTS.out _ _ _, HBS.out _ _ _ _ _⟩
        · have hwt2 : wt = 4 := hwt
          subst hwt2
          have hwk := hwho (by decide)
          subst hwk
          have hac0 := hnz' (by decide)
          clear hwho hz' hnz' hq6 hwt
          go_wp2_with (go_quiet (fail))
          go_roundg (L + 1 - (k + 1))
          case measure => omega
          case rel => exact ⟨k + 1, rfl, hlt, by go_num, by rw [HES.out, HE3.out]; simp, HTS.out _ _ _, HBS.out _ _ _ _ _⟩
        · have hwt2 : wt = 5 := hwt
          subst hwt2
          have hwk := hwho (by decide)
          subst hwk
          have hac0 := hnz' (by decide)
          clear hwho hz' hnz' hq6 hwt
          go_wp2_with (go_quiet (fail))
          go_roundg (L + 1 - (k + 1))
          case measure => omega
          case rel => exact ⟨k + 1, rfl, hlt, by go_num, by rw [HES.out, HE3.out]; simp, HTS.out _ _ _, HBS.out _ _ _ _ _⟩
        · have hwt2 : wt = 6 := hwt
          subst hwt2
          have hwk := hwho (by decide)
          subst hwk
          have hac0 := hnz' (by decide)
          clear hwho hz' hnz' hq6 hwt
          go_wp2_with (go_quiet (fail))
          go_roundg (L + 1 - (k + 1))
          case measure => omega
          case rel => exact ⟨k + 1, rfl, hlt, by go_num, by rw [HES.out, HE3.out]; simp, HTS.out _ _ _, HBS.out _ _ _ _ _⟩
        · have hwt2 : wt = 7 := hwt
          subst hwt2
          have hwk := hwho (by decide)
          subst hwk
          have hac0 := hnz' (by decide)
          clear hwho hz' hnz' hq6 hwt
          go_wp2_with (go_quiet (fail))
          go_roundg (L + 1 - (k + 1))
          case measure => omega
          case rel => exact ⟨k + 1, rfl, hlt, by go_num, by rw [HES.out, HE3.out]; simp, HTS.out _ _ _, HBS.out _ _ _ _ _⟩
    · obtain rfl : k = L + 1 := by omega
      have hl1 := HL.out.last
      rw [HLEN.out] at hl1
      obtain ⟨hl6, hle⟩ := hl1
      rw [hle]
      have HB := Lib.hid hbel
      have HT := Lib.hid htwo
      have HL6 := Lib.hid hl6
      clear hl6 hle hen0 henN htwo hbel
      generalize whK J E (L + 1) = whF at *
      generalize nxK J E (L + 1) = nxF at *
      go_wp2
      go_loopg [16] J (fun gk b ww => ww = wr ∧ ∃ k : Nat, gk = J - k ∧ k ≤ J ∧ b = .int .i64 (k : Int))
      case atStart => exact ⟨rfl, 0, rfl, Nat.zero_le _, rfl⟩
      case round =>
        obtain ⟨rfl, k, rfl, hk2, rfl⟩ := hrel
        by_cases hlt2 : k < J
        · have hc := (two_cells HT.out hwl hnl k hlt2).2.1
          rw [HL6.out k hlt2] at hc
          have hlt3 : (k : Int) < (J : Int) := by omega
          go_wp2
          go_roundg (J - (k + 1))
          case measure => omega
          case rel => exact ⟨rfl, k + 1, rfl, hlt2, by go_num⟩
        · obtain rfl : k = J := by omega
          go_wp2
          go_ret
          exact ⟨rfl, bel_trans HB2.out HB.out⟩
theorem ends_law (J N : Int) (picks : List Int) (A0 : Option Addr) (n c0 : Nat) (w : World) (hr : Reads w A0 n (intsV picks)) (hp : ∀ p ∈ picks, -9223372036854775808 ≤ p ∧ p ≤ 9223372036854775807) :
    Calls Try.prog 4 #[.int .i64 J, .int .i64 N, .slice A0 n c0] w fun e w' => e = .returned (.bool true) ∧ Below w.heap.size w w' := by
  by_cases h : J < 0 ∨ 256 < J ∨ N < 1 ∨ 64 < N ∨ 3000 < (n : Int)
  · exact ends_out J N A0 n c0 w h
  · obtain ⟨j, rfl⟩ := Int.eq_ofNat_of_zero_le (show 0 ≤ J by omega)
    obtain ⟨m, rfl⟩ := Int.eq_ofNat_of_zero_le (show 0 ≤ N by omega)
    exact ends_in j m picks A0 n c0 w hr hp (by omega) (by omega) (by omega) (by omega)
end Go.Proofs.Ytfokjemoolgojaa

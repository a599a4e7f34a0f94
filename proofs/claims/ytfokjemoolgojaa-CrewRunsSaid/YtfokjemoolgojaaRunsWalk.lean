/- The walk of the law CrewRuns. -/
import Derived.Test.YtfokjemoolgojaaRefPure
import Derived.Test.YtfokjemoolgojaaPicksWalk
set_option linter.unusedVariables false
set_option linter.unusedSimpArgs false
namespace Go.Proofs.Ytfokjemoolgojaa
open PRun Go.RowKit Go.Proofs.YtfokjemoolgojaaW.PrintWords
theorem EvAt.of_row' {w : World} {B c : Nat} {A : Option Addr} {l : List Ev} {e : TypeId} (h : w.ownsRow B e 3 (.slice A l.length c) l.length (evV l)) (hl : l.length ≤ 100000) : EvAt w A l := by
  refine ⟨hl, fun j hj => ?_⟩
  rcases h.2 with ⟨_, h0⟩ | ⟨g, cap, cur, hv, hb, hg, r⟩
  · omega
  · simp only [Value.slice.injEq] at hv
    obtain ⟨rfl, -, rfl⟩ := hv
    obtain ⟨e1, e2, e3⟩ := evV_at l j hj
    have hc := h.cells (g := g) rfl
    have ha : ∀ i, (⟨g, 0, none⟩ : Addr).add i = ⟨g, i, none⟩ := fun i => by rw [Addr.add_lit, Nat.zero_add]
    refine ⟨g, rfl, lt_of_block hg, ?_, ?_, ?_⟩
    · rw [← ha]; exact hc _ _ e1
    · rw [← ha]; exact hc _ _ e2
    · rw [← ha]; exact hc _ _ e3
theorem reps_evV {w : World} {base : Nat} {ok : Nat → Prop} (l : List Ev) : ∀ cs, Reps (k33.M w base ok) 3 (l.map sOf) cs → cs = evV l := by
  induction l with
  | nil =>
    intro cs h
    have := h.1
    exact List.eq_nil_of_length_eq_zero (by simpa using this)
  | cons x l ih =>
    intro cs h
    have hl := h.1
    have h0 := h.2 0 (sOf x) rfl
    have e0 := k33_openM h0
    rw [Nat.zero_mul, List.drop_zero] at e0
    have h1 : Reps (k33.M w base ok) 3 (l.map sOf) (cs.drop 3) := by
      refine ⟨by rw [List.length_drop, hl]; simp; omega, fun j p hp => ?_⟩
      have := h.2 (j + 1) p (by simpa using hp)
      rw [List.drop_drop]
      rw [show 3 + j * 3 = (j + 1) * 3 from by omega]
      exact this
    have h2 := ih _ h1
    have h3 : cs = cs.take 3 ++ cs.drop 3 := (List.take_append_drop 3 cs).symm
    rw [h3, e0, h2]
    rfl
theorem ev_of_made {w : World} {base : Nat} {v : Value} {l : List Ev} (h : Kd.R k33 33 w base (fun _ => True) v (l.map sOf)) (hl : l.length ≤ 100000) : ∃ A c, v = .slice A l.length c ∧ EvAt w A l := by
  obtain ⟨_, inner, ho, hr⟩ := h
  have hi := reps_evV l inner hr
  subst hi
  rw [List.length_map] at ho
  obtain ⟨A, c, rfl⟩ := own_slice ho
  exact ⟨A, c, rfl, EvAt.of_row' ho hl⟩
theorem c_of_reads {w : World} {A : Option Addr} {picks : List Int} (h : Reads w A picks.length (intsV picks)) : Kd.C (Kd.int .i64) w A picks.length picks := by
  refine Kd.C_of_reads (d := (0 : Int)) ⟨rfl, h.2.1, fun h0 => ?_⟩
  obtain ⟨ad, e, hc0⟩ := h.2.2 0 h0
  refine ⟨ad, e, fun j hj => ?_⟩
  obtain ⟨ad', e', hc⟩ := h.2.2 j hj
  rw [e] at e'
  injection e' with e'
  subst e'
  rw [hc]
  simp [intsV, List.getD_eq_getElem?_getD, hj]
theorem runs_out (J N : Int) (A0 : Option Addr) (n c0 : Nat) (w : World) (h : J < 0 ∨ 256 < J ∨ N < 1 ∨ 64 < N) :
    Calls Try.prog 3 #[.int .i64 J, .int .i64 N, .slice A0 n c0] w fun e w' => e = .returned (.bool true) ∧ Below w.heap.size w w' := by
  have HO := Lib.hid (fun w => odd_yes J N w h)
  have HR := Lib.hid (fun w => run_odd J N A0 n c0 w h)
  clear h
  go_enter Try.func3, Try.ntmps3
  go_wp2_with (first
    | (go_at_call 9; refine (awake_any _).mono ?_; rintro e w1 ⟨rfl, hb1⟩)
    | (go_at_call 10; refine (HO.out _).mono ?_; rintro e w2 ⟨rfl, rfl⟩)
    | (go_at_call 11; refine (HR.out _).mono ?_; rintro e w2 ⟨rfl, rfl⟩))
  go_ret
  exact ⟨rfl, hb1⟩
theorem runs_far (J N : Int) (A0 : Option Addr) (n c0 : Nat) (w : World) (h1 : ¬ J < 0) (h2 : ¬ 256 < J) (h3 : ¬ N < 1) (h4 : ¬ 64 < N) (h : 12 < J ∨ 12 < N ∨ 200 < (n : Int)) :
    Calls Try.prog 3 #[.int .i64 J, .int .i64 N, .slice A0 n c0] w fun e w' => e = .returned (.bool true) ∧ Below w.heap.size w w' := by
  have HO := Lib.hid (fun w => odd_no J N w h1 h2 h3 h4)
  have hh : 12 < J ∨ (¬ 12 < J ∧ 12 < N) ∨ (¬ 12 < J ∧ ¬ 12 < N ∧ 200 < (n : Int)) := by omega
  clear h h1 h2 h3 h4
  rcases hh with h | ⟨h, h1⟩ | ⟨h, h1, h2⟩
  all_goals
    go_enter Try.func3, Try.ntmps3
    go_wp2_with (first
      | (go_at_call 9; refine (awake_any _).mono ?_; rintro e w1 ⟨rfl, hb1⟩)
      | (go_at_call 10; refine (HO.out _).mono ?_; rintro e w2 ⟨rfl, rfl⟩))
    go_ret
    exact ⟨rfl, hb1⟩
def RefPost (w : World) (E : List Ev) (e : Ending) (w' : World) : Prop := Below w.heap.size w w' ∧ ∃ A c, e = .returned (.slice A E.length c) ∧ EvAt w' A E
set_option maxRecDepth 100000 in
set_option maxHeartbeats 1600000 in
theorem runs_in (J N : Nat) (picks : List Int) (A0 : Option Addr) (c0 : Nat) (w : World) (hr : Reads w A0 picks.length (intsV picks)) (hc : picks.length ≤ c0) (hp : ∀ p ∈ picks, -9223372036854775808 ≤ p ∧ p ≤ 9223372036854775807) (hJ : J ≤ 12) (hN : 1 ≤ N) (hN2 : N ≤ 12) (hn : picks.length ≤ 200) :
    Calls Try.prog 3 #[.int .i64 (J : Int), .int .i64 (N : Int), .slice A0 picks.length c0] w fun e w' => e = .returned (.bool true) ∧ Below w.heap.size w w' := by
  have hlen := (run_trace J N hN picks).length
  have HRUN := Lib.hid (fun w1 (hb : Below w.heap.size w w1) => run_any J N picks A0 picks.length c0 w1 (hr.below hb) hp (by omega) hN (by omega))
  have HREF : Hid (∀ w1, Below w.heap.size w w1 → Calls Try.prog 12 #[.int .i64 (J : Int), .int .i64 (N : Int), .slice A0 picks.length c0] w1 (RefPost w1 (runK J N picks (6 * J + N + 2)).ev)) := fun w1 hb => by
    refine (shelterbeltref18_Run.calls _ _ _ A0 c0 picks _ w1 (c_of_reads (hr.below hb)) hc (ref_run J N picks hp hJ hN hN2)).mono ?_
    rintro e w' ⟨v, rfl, hR, hB⟩
    obtain ⟨A, c, rfl, hE⟩ := ev_of_made hR (by omega)
    exact ⟨hB, A, c, rfl, hE⟩
  have HO := Lib.hid (fun w => odd_no (J : Int) (N : Int) w (by omega) (by omega) (by omega) (by omega))
  have g1 : ¬ 12 < (J : Int) := by omega
  have g2 : ¬ 12 < (N : Int) := by omega
  have g3 : ¬ 200 < (picks.length : Int) := by omega
  clear hr hp
  generalize (runK J N picks (6 * J + N + 2)).ev = E at *
  have hE : E.length ≤ 100000 := by omega
  clear hlen
  go_enter Try.func3, Try.ntmps3
  go_wp2_with (first
    | (go_at_call 9; refine (awake_any _).mono ?_; rintro e w1 ⟨rfl, hb1⟩)
    | (go_at_call 10; refine (HO.out _).mono ?_; rintro e w2 ⟨rfl, rfl⟩)
    | (go_at_call 11; (with_reducible refine (HRUN.out _ hb1).mono ?_); rintro e w3 ⟨hb3, A, c, rfl, ho3⟩; have HB3 := Lib.hid (bel_trans hb1 hb3))
    | (go_at_call 12; (with_reducible refine (HREF.out _ HB3.out).mono ?_); rintro e w4 ⟨hb4, A4, c4, rfl, hv4⟩))
  have HV1 : Hid (EvAt w4 A E) := (EvAt.of_own ho3 hE).below hb4
  have HV2 := Lib.hid hv4
  have HB4 := Lib.hid (bel_trans HB3.out hb4)
  clear hb1 hb3 hb4 hv4 ho3 HRUN HREF HO
  go_loopg [12] E.length (fun gk b wr => ∃ k : Nat, gk = E.length - k ∧ k ≤ E.length ∧ b = .int .i64 (k : Int) ∧ Below w4.heap.size w4 wr)
  case atStart => exact ⟨0, rfl, Nat.zero_le _, rfl, Below.refl _ _⟩
  case round =>
    obtain ⟨k, rfl, hk, rfl, hbel⟩ := hrel
    by_cases hlt : k < E.length
    · obtain ⟨g, rfl, hg, e1, e2, e3⟩ := (HV1.out.below hbel).2 k hlt
      obtain ⟨g', rfl, hg', e1', e2', e3'⟩ := (HV2.out.below hbel).2 k hlt
      have hlt' : (k : Int) < (E.length : Int) := by omega
      have HB := Lib.hid hbel
      clear hbel
      generalize (E[k]).actor = ac at *
      generalize (E[k]).what = wt at *
      generalize (E[k]).job = jb at *
      go_wp2_with (go_quiet (fail))
      go_roundg (E.length - (k + 1))
      case measure => omega
      case rel => exact ⟨k + 1, rfl, hlt, by go_num, bel_drewN HB.out _⟩
    · obtain rfl : k = E.length := by omega
      go_wp2
      go_ret
      exact ⟨rfl, bel_trans HB4.out hbel⟩
theorem runs_law (J N : Int) (picks : List Int) (A0 : Option Addr) (n c0 : Nat) (w : World) (hr : Reads w A0 n (intsV picks)) (hc : n ≤ c0) (hp : ∀ p ∈ picks, -9223372036854775808 ≤ p ∧ p ≤ 9223372036854775807) :
    Calls Try.prog 3 #[.int .i64 J, .int .i64 N, .slice A0 n c0] w fun e w' => e = .returned (.bool true) ∧ Below w.heap.size w w' := by
  obtain rfl : n = picks.length := by have := hr.1; simp [intsV] at this; omega
  by_cases h : J < 0 ∨ 256 < J ∨ N < 1 ∨ 64 < N
  · exact runs_out J N A0 _ c0 w h
  · by_cases h2 : 12 < J ∨ 12 < N ∨ 200 < (picks.length : Int)
    · exact runs_far J N A0 _ c0 w (by omega) (by omega) (by omega) (by omega) h2
    · obtain ⟨j, rfl⟩ := Int.eq_ofNat_of_zero_le (show 0 ≤ J by omega)
      obtain ⟨q, rfl⟩ := Int.eq_ofNat_of_zero_le (show 0 ≤ N by omega)
      exact runs_in j q picks A0 c0 w hr hc hp (by omega) (by omega) (by omega) (by omega)
end Go.Proofs.Ytfokjemoolgojaa

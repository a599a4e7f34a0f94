/- The walk of the law CrewLocks. -/
import Derived.Test.YtfokjemoolgojaaAwake
import Derived.Test.YtfokjemoolgojaaTrace
set_option linter.unusedVariables false
set_option linter.unusedSimpArgs false
namespace Go.Proofs.Ytfokjemoolgojaa
open Go.RowKit
theorem locks_out (J N : Int) (A0 : Option Addr) (n c0 : Nat) (w : World) (h : J < 0 ∨ 256 < J ∨ N < 1 ∨ 64 < N ∨ 3000 < (n : Int)) :
    Calls Try.prog 5 #[.int .i64 J, .int .i64 N, .slice A0 n c0] w fun e w' => e = .returned (.bool true) ∧ Below w.heap.size w w' := by
  by_cases h1 : J < 0
  · clear h
    go_enter Try.func5, Try.ntmps5
    go_wp2_with (go_at_call 9; refine (awake_any _).mono ?_; rintro e w1 ⟨rfl, hb1⟩)
    go_ret
    exact ⟨rfl, hb1⟩
  · by_cases h2 : 256 < J
    · clear h
      go_enter Try.func5, Try.ntmps5
      go_wp2_with (go_at_call 9; refine (awake_any _).mono ?_; rintro e w1 ⟨rfl, hb1⟩)
      go_ret
      exact ⟨rfl, hb1⟩
    · by_cases h3 : N < 1
      · clear h
        go_enter Try.func5, Try.ntmps5
        go_wp2_with (go_at_call 9; refine (awake_any _).mono ?_; rintro e w1 ⟨rfl, hb1⟩)
        go_ret
        exact ⟨rfl, hb1⟩
      · by_cases h4 : 64 < N
        · clear h
          go_enter Try.func5, Try.ntmps5
          go_wp2_with (go_at_call 9; refine (awake_any _).mono ?_; rintro e w1 ⟨rfl, hb1⟩)
          go_ret
          exact ⟨rfl, hb1⟩
        · have h5 : 3000 < (n : Int) := by omega
          clear h
          go_enter Try.func5, Try.ntmps5
          go_wp2_with (go_at_call 9; refine (awake_any _).mono ?_; rintro e w1 ⟨rfl, hb1⟩)
          go_ret
          exact ⟨rfl, hb1⟩
/-- One event, as the law looks at it. -/
def LocksStep (hd sn tk : Int) (x : Ev) (hd' sn' tk' : Int) : Prop :=
  (x.what = 0 ∧ x.job = sn ∧ hd' = hd ∧ sn' = sn + 1 ∧ tk' = tk) ∨
  ((x.what = 1 ∨ x.what = 2 ∨ x.what = 4 ∨ x.what = 8) ∧ hd' = hd ∧ sn' = sn ∧ tk' = tk) ∨
  (x.what = 3 ∧ x.job = tk ∧ hd' = hd ∧ sn' = sn ∧ tk' = tk + 1) ∨
  (x.what = 5 ∧ hd = -1 ∧ hd' = (x.actor : Int) ∧ sn' = sn ∧ tk' = tk) ∨
  (x.what = 6 ∧ hd = (x.actor : Int) ∧ hd' = hd ∧ sn' = sn ∧ tk' = tk) ∨
  (x.what = 7 ∧ hd = (x.actor : Int) ∧ hd' = -1 ∧ sn' = sn ∧ tk' = tk)
def hdOf (s : St) : Int := s.locked
def snOf (s : St) : Int := s.sent
def tkOf (s : St) : Int := ((s.sent - s.ch.length : Nat) : Int)
theorem locks_step {J N : Nat} {s s' : St} {x : Ev} (h : Inv J N s) (hk : Kind s s' x) : LocksStep (hdOf s) (snOf s) (tkOf s) x (hdOf s') (snOf s') (tkOf s') := by
  have hsq := h.sq
  unfold LocksStep hdOf snOf tkOf
  cases hk with
  | send hx hs hc he => subst hx he; refine .inl ⟨rfl, rfl, rfl, rfl, ?_⟩; show ((s.sent + 1 - (s.ch ++ [s.sent]).length : Nat) : Int) = _; rw [List.length_append, List.length_singleton]; omega
  | close hx hs hc he => subst hx he; exact .inr (.inl ⟨.inl rfl, rfl, rfl, rfl⟩)
  | done hx hs hc hd he => subst hx he; exact .inr (.inl ⟨.inr (.inl rfl), rfl, rfl, rfl⟩)
  | take i j r jb hi hx hw hq he =>
    subst hx he
    have hch := h.ch
    rw [hq] at hch hsq
    rw [List.length_cons] at hch hsq
    rw [List.range'_succ] at hch
    injection hch with h1 h2
    refine .inr (.inr (.inl ⟨rfl, ?_, rfl, rfl, ?_⟩))
    · rw [hq, List.length_cons]; show (j : Int) = _; omega
    · show ((s.sent - r.length : Nat) : Int) = _; rw [hq, List.length_cons]; omega
  | ended i jb hi hx hw hq hc he => subst hx he; exact .inr (.inl ⟨.inr (.inr (.inr rfl)), rfl, rfl, rfl⟩)
  | build i jb hi hx hw he => subst hx he; exact .inr (.inl ⟨.inr (.inr (.inl rfl)), rfl, rfl, rfl⟩)
  | lock i jb hi hx hw hl he => subst hx he; exact .inr (.inr (.inr (.inl ⟨rfl, hl, rfl, rfl, rfl⟩)))
  | put i jb hi hx hw hl he => subst hx he; exact .inr (.inr (.inr (.inr (.inl ⟨rfl, hl, rfl, rfl, rfl⟩))))
  | unlock i jb hi hx hw hl he => subst hx he; exact .inr (.inr (.inr (.inr (.inr ⟨rfl, hl, rfl, rfl, rfl⟩))))
/-- What the law meets. -/
structure LocksRun (J N : Nat) (E : List Ev) (hd sn tk : Nat → Int) : Prop where
  start : hd 0 = -1 ∧ sn 0 = 0 ∧ tk 0 = 0
  step : ∀ k (h : k < E.length), LocksStep (hd k) (sn k) (tk k) E[k] (hd (k + 1)) (sn (k + 1)) (tk (k + 1))
  room : ∀ k, k ≤ E.length → 0 ≤ tk k ∧ tk k ≤ sn k ∧ sn k ≤ J ∧ sn k - tk k ≤ N ∧ -1 ≤ hd k ∧ hd k ≤ 64
  last : hd E.length = -1 ∧ sn E.length = J ∧ tk E.length = J
theorem locks_run (J N : Nat) (hN : 1 ≤ N) (hN2 : N ≤ 64) (picks : List Int) : LocksRun J N (runK J N picks (6 * J + N + 2)).ev (fun k => hdOf (runK J N picks k)) (fun k => snOf (runK J N picks k)) (fun k => tkOf (runK J N picks k)) := by
  have ht := run_trace J N hN picks
  have hf := run_final J N hN picks
  refine ⟨⟨rfl, rfl, rfl⟩, fun k hk => ?_, fun k hk => ?_, ?_⟩
  · have hk2 := hk
    rw [ht.length] at hk2
    exact locks_step (run_inv J N hN picks k hk2).1 (ht.kind k hk)
  · rw [ht.length] at hk
    rcases Nat.lt_or_ge k (6 * J + N + 2) with h | h
    · have hi := (run_inv J N hN picks k h).1
      have h1 := hi.sq
      have h2 := hi.sent
      have h3 := hi.chle
      have h4 := hi.len
      unfold hdOf snOf tkOf
      have h5 : -1 ≤ (runK J N picks k).locked ∧ (runK J N picks k).locked ≤ 64 := by
        rcases hi.held with h | ⟨i, hi', h⟩ <;> omega
      exact ⟨by omega, by omega, by omega, by omega, h5.1, h5.2⟩
    · obtain rfl : k = 6 * J + N + 2 := by omega
      unfold hdOf snOf tkOf
      rw [hf.sent, hf.ch, hf.locked]
      simp
  · rw [ht.length]
    unfold hdOf snOf tkOf
    rw [hf.sent, hf.ch, hf.locked]
    exact ⟨rfl, rfl, by simp⟩
set_option maxHeartbeats 1600000 in
theorem locks_in (J N : Nat) (picks : List Int) (A0 : Option Addr) (n c0 : Nat) (w : World) (hr : Reads w A0 n (intsV picks)) (hp : ∀ p ∈ picks, -9223372036854775808 ≤ p ∧ p ≤ 9223372036854775807) (hJ : J ≤ 256) (hN : 1 ≤ N) (hN2 : N ≤ 64) (hn : n ≤ 3000) :
    Calls Try.prog 5 #[.int .i64 (J : Int), .int .i64 (N : Int), .slice A0 n c0] w fun e w' => e = .returned (.bool true) ∧ Below w.heap.size w w' := by
  have HRUN := Lib.hid (fun w1 (hb : Below w.heap.size w w1) => run_any J N picks A0 n c0 w1 (hr.below hb) hp hJ hN hN2)
  have hlr := locks_run J N hN hN2 picks
  have hlen := (run_trace J N hN picks).length
  have g1 : ¬ (J : Int) < 0 := by omega
  have g2 : ¬ 256 < (J : Int) := by omega
  have g3 : ¬ (N : Int) < 1 := by omega
  have g4 : ¬ 64 < (N : Int) := by omega
  have g5 : ¬ 3000 < (n : Int) := by omega
  clear hr hp
  generalize (runK J N picks (6 * J + N + 2)).ev = E at *
  generalize (fun k => hdOf (runK J N picks k)) = hd at *
  generalize (fun k => snOf (runK J N picks k)) = sn at *
  generalize (fun k => tkOf (runK J N picks k)) = tk at *
  have HL := Lib.hid hlr
  clear hlr
  have hE : E.length ≤ 100000 := by omega
  go_enter Try.func5, Try.ntmps5
  go_wp2_with (first
    | (go_at_call 9; refine (awake_any _).mono ?_; rintro e w1 ⟨rfl, hb1⟩)
    | (go_at_call 11; refine (HRUN.out _ hb1).mono ?_; rintro e w2 ⟨hb2, A, c, rfl, ho2⟩))
  have HEV := Lib.hid (EvAt.of_own ho2 hE)
  have HB2 := Lib.hid (bel_trans hb1 hb2)
  clear hb1 hb2 ho2 HRUN
  obtain ⟨W2, hW2⟩ : ∃ W2, w2 = W2 := ⟨_, rfl⟩
  go_loopg [9, 10, 11, 12] E.length (fun gk a b d i wr => ∃ k : Nat, gk = E.length - k ∧ k ≤ E.length ∧ i = .int .i64 (k : Int) ∧ a = .int .i64 (hd k) ∧ b = .int .i64 (sn k) ∧ d = .int .i64 (tk k) ∧ Below w2.heap.size w2 wr)
  case atStart => exact ⟨0, rfl, Nat.zero_le _, rfl, by rw [HL.out.start.1], by rw [HL.out.start.2.1], by rw [HL.out.start.2.2], Below.refl _ _⟩
  case round =>
    obtain ⟨k, rfl, hk, rfl, rfl, rfl, rfl, hbel⟩ := hrel
    have HB := Lib.hid hbel
    by_cases hlt : k < E.length
    · obtain ⟨g, rfl, hg, e1, e2, e3⟩ := (HEV.out.below hbel).2 k hlt
      have hlt' : (k : Int) < (E.length : Int) := by omega
      have hst := HL.out.step k hlt
      obtain ⟨r1, r2, r3, r4, r5, r6⟩ := HL.out.room k hk
      obtain ⟨q1, q2, q3, q4, q5, q6⟩ := HL.out.room (k + 1) hlt
      obtain ⟨hd1, hh1⟩ : ∃ v, hd (k + 1) = v := ⟨_, rfl⟩
      obtain ⟨sn1, hs1⟩ : ∃ v, sn (k + 1) = v := ⟨_, rfl⟩
      obtain ⟨tk1, ht1⟩ : ∃ v, tk (k + 1) = v := ⟨_, rfl⟩
      rw [hh1, hs1, ht1] at hst
      rw [ht1] at q1
      rw [ht1, hs1] at q2 q4
      rw [hs1] at q3
      rw [hh1] at q5 q6
      have HH := Lib.hid hh1
      have HSS := Lib.hid hs1
      have HTT := Lib.hid ht1
      clear hh1 hs1 ht1
      clear hbel
      unfold LocksStep at hst
      generalize (E[k]).what = wt at *
      generalize (E[k]).job = jb at *
      generalize (E[k]).actor = ac at *
      generalize hd k = hd0 at *
      generalize sn k = sn0 at *
      generalize tk k = tk0 at *
      rcases hst with ⟨rfl, rfl, rfl, rfl, rfl⟩ | ⟨(rfl | rfl | rfl | rfl), rfl, rfl, rfl⟩ | ⟨rfl, rfl, rfl, rfl, rfl⟩ | ⟨rfl, rfl, rfl, rfl, rfl⟩ | ⟨rfl, rfl, rfl, rfl, rfl⟩ | ⟨rfl, rfl, rfl, rfl, rfl⟩
      all_goals
        go_wp2
        go_roundg (E.length - (k + 1))
        case measure => omega
        case rel => exact ⟨k + 1, rfl, hlt, by go_num, by rw [HH.out], by rw [HSS.out], by rw [HTT.out], HB.out.alloc HB.out.size _⟩
    · obtain rfl : k = E.length := by omega
      obtain ⟨l1, l2, l3⟩ := HL.out.last
      rw [l1, l2, l3]
      go_wp2
      go_ret
      exact ⟨rfl, bel_trans HB2.out hbel⟩
theorem locks_law (J N : Int) (picks : List Int) (A0 : Option Addr) (n c0 : Nat) (w : World) (hr : Reads w A0 n (intsV picks)) (hp : ∀ p ∈ picks, -9223372036854775808 ≤ p ∧ p ≤ 9223372036854775807) :
    Calls Try.prog 5 #[.int .i64 J, .int .i64 N, .slice A0 n c0] w fun e w' => e = .returned (.bool true) ∧ Below w.heap.size w w' := by
  by_cases h : J < 0 ∨ 256 < J ∨ N < 1 ∨ 64 < N ∨ 3000 < (n : Int)
  · exact locks_out J N A0 n c0 w h
  · obtain ⟨j, rfl⟩ := Int.eq_ofNat_of_zero_le (show 0 ≤ J by omega)
    obtain ⟨m, rfl⟩ := Int.eq_ofNat_of_zero_le (show 0 ≤ N by omega)
    exact locks_in j m picks A0 n c0 w hr hp (by omega) (by omega) (by omega) (by omega)
end Go.Proofs.Ytfokjemoolgojaa

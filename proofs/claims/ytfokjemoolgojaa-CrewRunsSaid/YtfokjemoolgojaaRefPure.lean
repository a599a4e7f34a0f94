/- The document's run as it was printed is the run of the crew. -/
import Derived.Test.YtfokjemoolgojaaPRunx3
import Derived.Test.YtfokjemoolgojaaRefModel
import Derived.Test.YtfokjemoolgojaaRunWalk
set_option linter.unusedVariables false
set_option linter.unusedSimpArgs false
namespace Go.Proofs.Ytfokjemoolgojaa
open PRun Go.RowKit Go.Proofs.YtfokjemoolgojaaW.PrintWords
def sOf (x : Ev) : S33 := ⟨(x.actor : Int), (x.what : Int), x.job⟩
theorem wrap_small (i : Int) (h0 : -1000000 ≤ i) (h : i ≤ 1000000) : wrap64 i = i := by unfold wrap64; omega
theorem rd_sOf (l : List Ev) (i : Nat) (h : i < l.length) : rd_T33 (l.map sOf) (i : Int) = sOf l[i] := by
  unfold rd_T33
  rw [Int.toNat_natCast, List.getD_eq_getElem?_getD, List.getElem?_map, List.getElem?_eq_getElem h]; rfl
theorem countL_take (l : List Ev) (k wh : Nat) (h : k < l.length) : countL (l.take (k + 1)) wh = countL (l.take k) wh + (if (l[k]).what = wh then 1 else 0) := by
  rw [List.take_succ_eq_append_getElem h, countL_append]
theorem countL_le' (l : List Ev) (wh : Nat) : countL l wh ≤ l.length := List.length_filter_le _ _
theorem count_l0 (l : List Ev) (wh : Nat) (hl : l.length ≤ 100000) (d : Nat) : ∀ (k i : Nat), i ≤ l.length → l.length - i = d → d < k →
    shelterbeltref18_count.l0 k (l.map sOf) (wh : Int) ((countL (l.take i) wh : Nat) : Int) (i : Int) = some ((countL l wh : Nat) : Int) := by
  induction d with
  | zero =>
    intro k i hi hd hk
    obtain ⟨k, rfl⟩ : ∃ m, k = m + 1 := ⟨k - 1, by omega⟩
    simp only [shelterbeltref18_count.l0]
    rw [if_neg (by rw [List.length_map]; omega), List.take_of_length_le (by omega)]
  | succ d ih =>
    intro k i hi hd hk
    obtain ⟨k, rfl⟩ : ∃ m, k = m + 1 := ⟨k - 1, by omega⟩
    have hlt : i < l.length := by omega
    have hs := countL_take l i wh hlt
    have hle := countL_le' (l.take i) wh
    have hlt2 : (l.take i).length ≤ i := List.length_take_le _ _
    have h1 := ih k (i + 1) (by omega) (by omega) (by omega)
    simp only [shelterbeltref18_count.l0]
    rw [if_pos (by rw [List.length_map]; omega), if_pos (by omega), rd_sOf l i hlt, wrap_small _ (by omega) (by omega), wrap_small _ (by omega) (by omega)]
    have e1 : ((i : Int) + 1) = ((i + 1 : Nat) : Int) := by omega
    rw [e1]
    by_cases hw : (l[i]).what = wh
    · rw [if_pos hw] at hs
      rw [if_pos (by show ((l[i]).what : Int) = _; omega)]
      rw [hs] at h1
      exact h1
    · rw [if_neg hw] at hs
      rw [if_neg (by show ¬ ((l[i]).what : Int) = _; omega)]
      rw [hs] at h1
      exact h1
theorem count_f (l : List Ev) (wh k : Nat) (hl : l.length ≤ 100000) (hk : l.length < k) : shelterbeltref18_count.f k (l.map sOf) (wh : Int) = some ((countL l wh : Nat) : Int) := by
  have := count_l0 l wh hl l.length k 0 (Nat.zero_le _) (by omega) hk
  exact this
def lastT (l : List Ev) (a : Nat) : Int × Int × Int := match lastL l a with | none => ((a : Int), -1, -1) | some x => ((x.actor : Int), (x.what : Int), x.job)
theorem lastT_take (l : List Ev) (k a : Nat) (h : k < l.length) : lastT (l.take (k + 1)) a = if (l[k]).actor = a then (((l[k]).actor : Int), ((l[k]).what : Int), (l[k]).job) else lastT (l.take k) a := by
  unfold lastT
  rw [List.take_succ_eq_append_getElem h, lastL_append]
  by_cases h : (l[k]).actor = a
  · rw [if_pos h, if_pos h]
  · rw [if_neg h, if_neg h]
theorem last_l0 (l : List Ev) (a : Nat) (hl : l.length ≤ 100000) (d : Nat) : ∀ (k i : Nat), i ≤ l.length → l.length - i = d → d < k →
    shelterbeltref18_last.l0 k (l.map sOf) (a : Int) (i : Int) (lastT (l.take i) a).1 (lastT (l.take i) a).2.1 (lastT (l.take i) a).2.2 = some (lastT l a) := by
  induction d with
  | zero =>
    intro k i hi hd hk
    obtain ⟨k, rfl⟩ : ∃ m, k = m + 1 := ⟨k - 1, by omega⟩
    simp only [shelterbeltref18_last.l0]
    rw [if_neg (by rw [List.length_map]; omega), List.take_of_length_le (by omega)]
  | succ d ih =>
    intro k i hi hd hk
    obtain ⟨k, rfl⟩ : ∃ m, k = m + 1 := ⟨k - 1, by omega⟩
    have hlt : i < l.length := by omega
    have hs := lastT_take l i a hlt
    have h1 := ih k (i + 1) (by omega) (by omega) (by omega)
    simp only [shelterbeltref18_last.l0]
    rw [if_pos (by rw [List.length_map]; omega), if_pos (by omega), rd_sOf l i hlt, wrap_small _ (by omega) (by omega)]
    have e1 : ((i : Int) + 1) = ((i + 1 : Nat) : Int) := by omega
    rw [e1]
    by_cases hw : (l[i]).actor = a
    · rw [if_pos hw] at hs
      rw [if_pos (by show ((l[i]).actor : Int) = _; omega)]
      rw [hs] at h1
      exact h1
    · rw [if_neg hw] at hs
      rw [if_neg (by show ¬ ((l[i]).actor : Int) = _; omega)]
      rw [hs] at h1
      exact h1
theorem last_f (l : List Ev) (a k : Nat) (hl : l.length ≤ 100000) (hk : l.length < k) : shelterbeltref18_last.f k (l.map sOf) (a : Int) = some (lastT l a) := by
  have := last_l0 l a hl l.length k 0 (Nat.zero_le _) (by omega) hk
  exact this
/-- What Next tells. -/
def NextTold (s : St) (a : Nat) (r : Option (Int × Int × Int × Bool)) : Prop := ∃ r1 r2 r3, r = some (r1, r2, r3, s.can a) ∧ (s.can a = true → (⟨r1, r2, r3⟩ : S33) = sOf (s.evOf a))
theorem ended_eights' (s : St) : s.ended = (((eights s.ws : Nat) : Int) == (s.ws.length : Int)) := by
  unfold St.ended eights
  induction s.ws with
  | nil => rfl
  | cons x l ih =>
    rw [List.all_cons, ih]
    have h1 : (l.map fun w => eight w.1).sum ≤ l.length := by
      clear ih
      induction l with
      | nil => simp
      | cons y r ih2 =>
        simp only [List.map_cons, List.sum_cons, List.length_cons]
        have : eight y.1 ≤ 1 := by unfold eight; split <;> omega
        omega
    simp only [List.map_cons, List.sum_cons, List.length_cons]
    by_cases h : x.1 = 8
    · have e : eight x.1 = 1 := by unfold eight; rw [if_pos h]
      rw [e, Bool.eq_iff_iff]
      simp [h]
      omega
    · have e : eight x.1 = 0 := by unfold eight; rw [if_neg h]
      rw [e, Bool.eq_iff_iff]
      simp [h]
      omega
theorem head_taken' {J N : Nat} {s : St} (hI : Inv J N s) {j : Nat} {r : List Nat} (hq : s.ch = j :: r) : j = s.taken := (head_taken hI hq).1
theorem next_f {J N : Nat} (s : St) (a k : Nat) (hI : Inv J N s) (hT : Told s) (hJ : J ≤ 256) (hN : N ≤ 64) (ha : a ≤ N) (hl : s.ev.length ≤ 100000) (hk : s.ev.length + 1 < k) :
    NextTold s a (shelterbeltref18_Next.f k (s.ev.map sOf) (J : Int) (N : Int) (a : Int)) := by
  have H (wh : Nat) := count_f s.ev wh k hl (by omega)
  have H0 : shelterbeltref18_count.f k (s.ev.map sOf) 0 = some ((s.sent : Nat) : Int) := by have := H 0; rw [hT.c0] at this; exact this
  have H3 : shelterbeltref18_count.f k (s.ev.map sOf) 3 = some ((s.taken : Nat) : Int) := by have := H 3; rw [hT.c3] at this; exact this
  have H1 : shelterbeltref18_count.f k (s.ev.map sOf) 1 = some ((if s.closed then 1 else 0 : Nat) : Int) := by have := H 1; rw [hT.c1] at this; exact this
  have H8 : shelterbeltref18_count.f k (s.ev.map sOf) 8 = some ((eights s.ws : Nat) : Int) := by have := H 8; rw [hT.c8] at this; exact this
  have hsq := hI.sq
  have hsent := hI.sent
  have hch := hI.chle
  have hlen := hI.len
  have hjobs := hI.jobs
  have hwait : ((s.sent : Nat) : Int) - ((s.taken : Nat) : Int) = (s.ch.length : Int) := by unfold St.taken; omega
  unfold shelterbeltref18_Next.f
  rw [H0, H3, H1, last_f s.ev a k hl (by omega)]
  simp only [Option.bind_some]
  rw [hwait, wrap_small (s.ch.length : Int) (by omega) (by omega)]
  by_cases ha0 : a = 0
  · subst ha0
    rw [if_pos (by decide)]
    unfold NextTold St.can St.evOf
    rw [if_pos rfl, if_pos rfl]
    by_cases hs : s.sent < s.jobs
    · rw [if_pos (by omega), if_pos hs, if_pos hs, hlen]
      refine ⟨0, 0, (s.sent : Int), ?_, fun _ => rfl⟩
      simp
    · rw [if_neg (by omega), if_neg hs, if_neg hs]
      cases hcl : s.closed with
      | false =>
        rw [if_neg (by simp)]
        exact ⟨0, 1, -1, rfl, fun _ => rfl⟩
      | true =>
        rw [if_pos (by simp), H8]
        simp only [Option.bind_some]
        refine ⟨0, 2, -1, ?_, fun _ => rfl⟩
        rw [ended_eights', hlen]; rfl
  · obtain ⟨i, rfl⟩ : ∃ i, a = i + 1 := ⟨a - 1, by omega⟩
    have hi : i < s.ws.length := by omega
    rw [if_neg (by omega)]
    have hla := hT.last i hi
    unfold NextTold St.can St.evOf
    rw [if_neg ha0, if_neg ha0, w_eq s i hi]
    obtain ⟨k, rfl⟩ : ∃ m, k = m + 1 := ⟨k - 1, by omega⟩
    have hkk : s.ev.length < k := by omega
    have C5 : shelterbeltref18_count.f k (s.ev.map sOf) 5 = some ((countL s.ev 5 : Nat) : Int) := count_f s.ev 5 k hl hkk
    have C7 : shelterbeltref18_count.f k (s.ev.map sOf) 7 = some ((countL s.ev 7 : Nat) : Int) := count_f s.ev 7 k hl hkk
    have free : ∀ wt jb : Int, wt = -1 ∨ wt = 7 → (s.ws[i]).1 = 3 → ∃ r1 r2 r3, shelterbeltref18_Next.j0 (k + 1) (s.ev.map sOf) (((i + 1 : Nat)) : Int) (s.taken : Int) (decide (((if s.closed then 1 else 0 : Nat) : Int) > 0)) (s.ch.length : Int) wt (wt == 6) (((i + 1 : Nat)) : Int) wt jb = some (r1, r2, r3, s.closed || decide (0 < s.ch.length)) ∧ ((s.closed || decide (0 < s.ch.length)) = true → (⟨r1, r2, r3⟩ : S33) = sOf (match s.ch with | [] => ⟨i + 1, 8, -1⟩ | j :: _ => ⟨i + 1, 3, j⟩)) := by
      intro wt jb hwt h3
      have e6 : (wt == 6) = false := by simp; omega
      simp only [shelterbeltref18_Next.j0]
      rw [e6, if_neg (by decide), if_neg (by omega)]
      cases hq : s.ch with
      | nil =>
        rw [if_neg (by simp)]
        refine ⟨((i + 1 : Nat) : Int), 8, -1, ?_, fun _ => rfl⟩
        cases s.closed <;> simp
      | cons j r =>
        rw [if_pos (by simp <;> omega)]
        refine ⟨((i + 1 : Nat) : Int), 3, (s.taken : Int), by simp, fun _ => ?_⟩
        have := (head_taken hI hq).1
        rw [← this]; rfl
    unfold lastT
    cases hll : lastL s.ev (i + 1) with
    | none =>
      rw [hll] at hla
      simp only at hla ⊢
      rw [if_neg (by omega), if_neg (by omega), if_neg (by omega), if_pos hla, if_pos hla]
      exact free (-1) (-1) (.inl rfl) hla
    | some x =>
      rw [hll] at hla
      simp only at hla ⊢
      obtain ⟨hxa, hla⟩ := hla
      rw [hxa]
      rcases hla with ⟨hw, h3⟩ | ⟨hw, h3⟩ | ⟨hw1, hw2, h3⟩
      · rw [hw, if_neg (by omega), if_neg (by omega), if_neg (by omega), if_pos h3, if_pos h3]
        exact free 7 x.job (.inr rfl) h3
      · rw [hw, if_neg (by omega), if_neg (by omega), if_neg (by omega), h3]
        simp only [shelterbeltref18_Next.j0]
        rw [if_neg (by decide), if_pos (by decide)]
        exact ⟨0, 0, 0, rfl, fun h => by simp at h⟩
      · rcases (show x.what = 3 ∨ x.what = 4 ∨ x.what = 5 ∨ x.what = 6 from by omega) with hw | hw | hw | hw
        · rw [hw] at h3
          rw [hw, if_pos (by decide), h3]
          simp only [shelterbeltref18_Next.j0]
          rw [if_pos (by decide), if_neg (by decide)]
          exact ⟨((i + 1 : Nat) : Int), 4, x.job, by simp [wrap64], fun _ => rfl⟩
        · rw [hw] at h3
          rw [hw, if_neg (by decide), if_pos (by decide), h3]
          simp only [shelterbeltref18_Next.j0]
          rw [if_pos (by decide), if_pos (by decide), C5, C7]
          simp only [Option.bind_some]
          refine ⟨((i + 1 : Nat) : Int), 5, x.job, ?_, fun _ => rfl⟩
          have t57 : (((countL s.ev 5 : Nat) : Int) == ((countL s.ev 7 : Nat) : Int)) = (s.locked == -1) := by
            rw [hT.c57]
            by_cases hl : s.locked = -1
            · simp [hl]
            · rw [if_neg hl]
              have h1 : (((countL s.ev 7 + 1 : Nat) : Int) == ((countL s.ev 7 : Nat) : Int)) = false := by simp; omega
              have h2 : (s.locked == -1) = false := by simpa using hl
              rw [h1, h2]
          rw [t57]; simp [wrap64]
        · rw [hw] at h3
          rw [hw, if_neg (by decide), if_neg (by decide), if_pos (by decide), h3]
          simp only [shelterbeltref18_Next.j0]
          rw [if_pos (by decide), if_neg (by decide)]
          exact ⟨((i + 1 : Nat) : Int), 6, x.job, by simp [wrap64], fun _ => rfl⟩
        · rw [hw] at h3
          rw [hw, if_neg (by decide), if_neg (by decide), if_neg (by decide), h3]
          simp only [shelterbeltref18_Next.j0]
          rw [if_pos (by decide), if_neg (by decide)]
          exact ⟨((i + 1 : Nat) : Int), 7, x.job, by simp [wrap64], fun _ => rfl⟩
theorem mx_lo (p : Int) (n : Nat) (hn : 0 < n) (h : -9223372036854775808 ≤ p) (hp : p < 0) (hp2 : p ≠ -9223372036854775808) : Int.tmod (wrap64 ((Int.tmod (wrap64 (-(wrap64 (p + 1)))) (n : Int)) + 1)) (n : Int) = ((p.natAbs % n : Nat) : Int) := by
  obtain ⟨q, rfl⟩ : ∃ q : Nat, p = -((q : Int) + 1) := ⟨(-p - 1).toNat, by omega⟩
  have e1 : wrap64 (-((q : Int) + 1) + 1) = -(q : Int) := by unfold wrap64; omega
  have e2 : wrap64 (-(-(q : Int))) = (q : Int) := by unfold wrap64; omega
  have e3 : Int.tmod (q : Int) (n : Int) = ((q % n : Nat) : Int) := by rw [Int.tmod_eq_emod_of_nonneg (by omega)]; rfl
  have hlt := Nat.mod_lt q hn
  have hle := Nat.mod_le q n
  have e4 : wrap64 (((q % n : Nat) : Int) + 1) = ((q % n + 1 : Nat) : Int) := by unfold wrap64; omega
  rw [e1, e2, e3, e4, Int.tmod_eq_emod_of_nonneg (by omega)]
  have e5 : (-((q : Int) + 1)).natAbs = q + 1 := by omega
  rw [e5]
  show ((((q % n + 1) % n : Nat)) : Int) = _
  rw [Nat.mod_add_mod]
/-- The inner rounds: who can. -/
theorem run_l1 {J N : Nat} (picks : List Int) (s : St) (hI : Inv J N s) (hT : Told s) (hJ : J ≤ 12) (hN : N ≤ 12) (hl : s.ev.length ≤ 1000) (d : Nat) : ∀ (k a : Nat), a ≤ N + 1 → N + 1 - a = d → d + 1010 < k →
    shelterbeltref18_Run.l1 k (J : Int) (N : Int) picks (s.ev.map sOf) ((ableTo s a).map fun x => sOf (s.evOf x)) (a : Int) = shelterbeltref18_Run.l1 (k - d) (J : Int) (N : Int) picks (s.ev.map sOf) (s.able.map fun x => sOf (s.evOf x)) ((N + 1 : Nat) : Int) := by
  induction d with
  | zero =>
    intro k a ha hd hk
    obtain rfl : a = N + 1 := by omega
    have e : ableTo s (N + 1) = s.able := by rw [← hI.len]; exact ableTo_all s
    rw [e]; rfl
  | succ d ih =>
    intro k a ha hd hk
    obtain ⟨k, rfl⟩ : ∃ m, k = m + 1 := ⟨k - 1, by omega⟩
    have h1 := ih k (a + 1) (by omega) (by omega) (by omega)
    have hle := ableTo_le s a
    obtain ⟨r1, r2, r3, hn, hv⟩ := next_f s a k hI hT (by omega) (by omega) (by omega) (by omega) (by omega)
    have hsu := ableTo_succ s a
    rw [show k + 1 - (d + 1) = k - d from by omega, ← h1]
    simp only [shelterbeltref18_Run.l1]
    rw [if_pos (by omega), hn]
    simp only [Option.bind_some]
    rw [wrap_small _ (by omega) (by omega), hsu]
    cases hc : s.can a with
    | true =>
      rw [if_pos rfl, if_pos (by rw [List.length_map]; omega), hv hc, List.map_append]
      rfl
    | false =>
      rw [if_neg (by decide), if_neg (by decide), List.append_nil]
      rfl
theorem rd_able (s : St) (i : Nat) (h : i < s.able.length) : (⟨(rd_T33 (s.able.map fun x => sOf (s.evOf x)) (i : Int)).f0, (rd_T33 (s.able.map fun x => sOf (s.evOf x)) (i : Int)).f1, (rd_T33 (s.able.map fun x => sOf (s.evOf x)) (i : Int)).f2⟩ : S33) = sOf (s.evOf (s.able.getD i 0)) := by
  have : rd_T33 (s.able.map fun x => sOf (s.evOf x)) (i : Int) = sOf (s.evOf (s.able.getD i 0)) := by
    unfold rd_T33
    rw [Int.toNat_natCast, List.getD_eq_getElem?_getD, List.getElem?_map, List.getElem?_eq_getElem h, List.getD_eq_getElem?_getD, List.getElem?_eq_getElem h]; rfl
  rw [this]
theorem rd_picks (picks : List Int) (i : Nat) : rd picks (i : Int) = picks.getD i 0 := by
  unfold rd; rw [Int.toNat_natCast]
theorem run_ev (J N : Nat) (hN : 1 ≤ N) (picks : List Int) (k : Nat) (hk : k < 6 * J + N + 2) : (runK J N picks (k + 1)).ev = (runK J N picks k).ev ++ [(runK J N picks k).evOf ((runK J N picks k).next picks)] := by
  obtain ⟨h1, _⟩ := run_inv J N hN picks k hk
  have hm := mem_able.1 (next_able h1 hN picks)
  show ((runK J N picks k).step _).ev = _
  rw [step_ev _ _ (fun h0 => ?_)]
  obtain ⟨i, hi⟩ : ∃ i, (runK J N picks k).next picks = i + 1 := ⟨_, (Nat.succ_pred_eq_of_ne_zero h0).symm⟩
  rw [hi] at hm ⊢
  rw [w_eq _ i (by omega)]
  exact work_ok h1 i (by omega) hm.2
theorem run_l0 (J N : Nat) (picks : List Int) (hp : ∀ p ∈ picks, -9223372036854775808 ≤ p ∧ p ≤ 9223372036854775807) (hJ : J ≤ 12) (hN : 1 ≤ N) (hN2 : N ≤ 12) (d : Nat) : ∀ (f k : Nat), k ≤ 6 * J + N + 2 → 6 * J + N + 2 - k = d → d * (N + 3) + 2000 < f →
    shelterbeltref18_Run.l0 f (J : Int) (N : Int) picks ((runK J N picks k).ev.map sOf) = some ((runK J N picks (6 * J + N + 2)).ev.map sOf) := by
  have hlen := (run_trace J N hN picks).length
  have ew : (wrap64 ((wrap64 ((wrap64 (6 * (J : Int))) + (N : Int))) + 2)) = ((6 * J + N + 2 : Nat) : Int) := by
    rw [wrap_small (6 * (J : Int)) (by omega) (by omega), wrap_small (6 * (J : Int) + (N : Int)) (by omega) (by omega), wrap_small (6 * (J : Int) + (N : Int) + 2) (by omega) (by omega)]; omega
  induction d with
  | zero =>
    intro f k hk hd hf
    obtain rfl : k = 6 * J + N + 2 := by omega
    obtain ⟨f, rfl⟩ : ∃ m, f = m + 1 := ⟨f - 1, by omega⟩
    simp only [shelterbeltref18_Run.l0]
    rw [ew, List.length_map, hlen, if_neg (by omega)]
  | succ d ih =>
    intro f k hk hd hf
    obtain ⟨f, rfl⟩ : ∃ m, f = m + 1 := ⟨f - 1, by omega⟩
    have hlt : k < 6 * J + N + 2 := by omega
    obtain ⟨hI, hel⟩ := run_inv J N hN picks k hlt
    have hT := run_told J N hN picks k hlt
    have hne := able_ne hI hN
    have hev := run_ev J N hN picks k hlt
    have hmul : (d + 1) * (N + 3) = d * (N + 3) + (N + 3) := Nat.succ_mul _ _
    have h1 := ih (f - (N + 1) - 1) (k + 1) (by omega) (by omega) (by omega)
    have hl1 := run_l1 picks (runK J N picks k) hI hT hJ hN2 (by omega) (N + 1) f 0 (by omega) (by omega) (by omega)
    simp only [shelterbeltref18_Run.l0]
    rw [ew, List.length_map, hel, if_pos (by omega)]
    have e0 : ((ableTo (runK J N picks k) 0).map fun x => sOf ((runK J N picks k).evOf x)) = [] := rfl
    rw [e0] at hl1
    have hl1' : shelterbeltref18_Run.l1 f (J : Int) (N : Int) picks ((runK J N picks k).ev.map sOf) ([] : List S33) 0 = _ := hl1
    rw [hl1']
    obtain ⟨g, hg⟩ : ∃ g, f - (N + 1) = g + 1 := ⟨f - (N + 1) - 1, by omega⟩
    rw [hg]
    rw [hg, Nat.add_sub_cancel] at h1
    have hpick : (runK J N picks k).next picks = (runK J N picks k).able.getD (pickAt picks k (runK J N picks k).able.length) 0 := by unfold St.next; rw [hel]
    have hplt := pick_lt picks k _ hne
    have happ : ((runK J N picks k).ev.map sOf) ++ [sOf ((runK J N picks k).evOf ((runK J N picks k).able.getD (pickAt picks k (runK J N picks k).able.length) 0))] = (runK J N picks (k + 1)).ev.map sOf := by
      rw [hev, ← hpick, List.map_append]; rfl
    have h2 : shelterbeltref18_Run.l0 g (J : Int) (N : Int) picks (((runK J N picks k).ev.map sOf) ++ [sOf ((runK J N picks k).evOf ((runK J N picks k).able.getD (pickAt picks k (runK J N picks k).able.length) 0))]) = some ((runK J N picks (6 * J + N + 2)).ev.map sOf) := by rw [happ]; exact h1
    clear h1 happ hpick hev hl1 hl1' e0 ih ew hlen hT
    have hrd : ∀ i, i < (runK J N picks k).able.length → pickAt picks k (runK J N picks k).able.length = i → (⟨(rd_T33 ((runK J N picks k).able.map fun x => sOf ((runK J N picks k).evOf x)) (i : Int)).f0, (rd_T33 ((runK J N picks k).able.map fun x => sOf ((runK J N picks k).evOf x)) (i : Int)).f1, (rd_T33 ((runK J N picks k).able.map fun x => sOf ((runK J N picks k).evOf x)) (i : Int)).f2⟩ : S33) = sOf ((runK J N picks k).evOf ((runK J N picks k).able.getD (pickAt picks k (runK J N picks k).able.length) 0)) := by
      intro i hi e
      rw [e]; exact rd_able _ i hi
    have hall : (runK J N picks k).able.length ≤ 1000 := by
      have := ableTo_le (runK J N picks k) ((runK J N picks k).ws.length + 1)
      rw [ableTo_all, hI.len] at this; omega
    simp only [shelterbeltref18_Run.l1]
    rw [if_neg (by omega), List.length_map, List.length_map, hel, if_neg (by omega)]
    generalize (runK J N picks k).able.length = n at *
    by_cases hq : k < picks.length
    · rw [if_pos (by omega), if_pos (by omega), rd_picks]
      have hpm : picks.getD k 0 ∈ picks := by
        rw [List.getD_eq_getElem?_getD, List.getElem?_eq_getElem hq]; exact List.getElem_mem hq
      obtain ⟨p1, p2⟩ := hp _ hpm
      have hpa : pickAt picks k n = place (picks.getD k 0) n := by unfold pickAt; rw [if_pos hq]
      generalize picks.getD k 0 = p at *
      have hw : ∀ v : Int, v = ((p.natAbs % n : Nat) : Int) → p ≠ -9223372036854775808 → (if 0 ≤ v then (if v < (n : Int) then (if k < 5864062014805 then (shelterbeltref18_Run.l0 g (J : Int) (N : Int) picks (((runK J N picks k).ev.map sOf) ++ [(⟨(rd_T33 ((runK J N picks k).able.map fun x => sOf ((runK J N picks k).evOf x)) v).f0, (rd_T33 ((runK J N picks k).able.map fun x => sOf ((runK J N picks k).evOf x)) v).f1, (rd_T33 ((runK J N picks k).able.map fun x => sOf ((runK J N picks k).evOf x)) v).f2⟩ : S33)])) else none) else none) else none) = some ((runK J N picks (6 * J + N + 2)).ev.map sOf) := by
        rintro v rfl hmin
        have hm := Nat.mod_lt p.natAbs hne
        rw [if_pos (by omega), if_pos (by omega), if_pos (by omega), hrd _ hm (by rw [hpa]; unfold place; rw [if_neg hmin])]
        exact h2
      by_cases hneg : p < 0
      · rw [if_pos hneg]
        by_cases hmin : p = -9223372036854775808
        · rw [if_pos (by unfold wrap64; omega), if_pos (by omega), if_pos (by omega)]
          have := hrd 0 hne (by rw [hpa]; unfold place; rw [if_pos hmin])
          have this' : (⟨(rd_T33 ((runK J N picks k).able.map fun x => sOf ((runK J N picks k).evOf x)) 0).f0, (rd_T33 ((runK J N picks k).able.map fun x => sOf ((runK J N picks k).evOf x)) 0).f1, (rd_T33 ((runK J N picks k).able.map fun x => sOf ((runK J N picks k).evOf x)) 0).f2⟩ : S33) = _ := this
          rw [this']
          exact h2
        · rw [if_neg (by unfold wrap64; omega)]
          exact hw _ (mx_lo p n hne p1 hneg hmin) hmin
      · rw [if_neg hneg]
        refine hw _ ?_ (by omega)
        obtain ⟨q, rfl⟩ := Int.eq_ofNat_of_zero_le (show 0 ≤ p by omega)
        rw [Int.tmod_eq_emod_of_nonneg (by omega)]; rfl
    · rw [if_neg (by omega), if_pos (by omega), if_pos (by omega)]
      have := hrd 0 hne (by unfold pickAt; rw [if_neg hq])
      have this' : (⟨(rd_T33 ((runK J N picks k).able.map fun x => sOf ((runK J N picks k).evOf x)) 0).f0, (rd_T33 ((runK J N picks k).able.map fun x => sOf ((runK J N picks k).evOf x)) 0).f1, (rd_T33 ((runK J N picks k).able.map fun x => sOf ((runK J N picks k).evOf x)) 0).f2⟩ : S33) = _ := this
      rw [this']
      exact h2
theorem ref_run (J N : Nat) (picks : List Int) (hp : ∀ p ∈ picks, -9223372036854775808 ≤ p ∧ p ≤ 9223372036854775807) (hJ : J ≤ 12) (hN : 1 ≤ N) (hN2 : N ≤ 12) :
    shelterbeltref18_Run.f ((6 * J + N + 2) * (N + 3) + 2001) (J : Int) (N : Int) picks = some ((runK J N picks (6 * J + N + 2)).ev.map sOf) :=
  run_l0 J N picks hp hJ hN hN2 (6 * J + N + 2) _ 0 (Nat.zero_le _) (by omega) (by omega)
end Go.Proofs.Ytfokjemoolgojaa

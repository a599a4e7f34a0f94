/- The crew as plain Lean: each job is sent, taken, built and put once, by one worker. -/
import Derived.Test.YtfokjemoolgojaaOwn
set_option linter.unusedVariables false
set_option linter.unusedSimpArgs false
namespace Go.Proofs.Ytfokjemoolgojaa
def eight (n : Nat) : Nat := if n = 8 then 1 else 0
def eights (ws : List (Nat × Int)) : Nat := (ws.map fun w => eight w.1).sum
theorem eights_set (ws : List (Nat × Int)) (i : Nat) (x : Nat × Int) (h : i < ws.length) : eights (ws.set i x) + eight (ws[i]).1 = eights ws + eight x.1 := by
  unfold eights
  rw [List.map_set]
  have := sum_set (ws.map fun w => eight w.1) i (eight x.1) (by simpa using h)
  simpa using this
def whS (wh : List Int) (x : Ev) : List Int := if x.job < 0 then wh else wh.set x.job.toNat (x.actor : Int)
def nxS (nx : List Int) (x : Ev) : List Int := if x.job < 0 then nx else nx.set x.job.toNat (nx.getD x.job.toNat 0 + 1)
def enS (en : Int) (x : Ev) : Int := if x.what = 8 then en + 1 else en
def want (q : Nat) : Nat := if q = 0 then 0 else q + 2
structure Ends (J : Nat) (s : St) (wh nx : List Int) (en : Int) : Prop where
  whl : wh.length = J
  nxl : nx.length = J
  unsent : ∀ k, s.sent ≤ k → k < J → nx.getD k 0 = 0
  waits : ∀ k, s.taken ≤ k → k < s.sent → nx.getD k 0 = 1
  busy : ∀ i (h : i < s.ws.length) (n : Nat) (j : Nat), s.ws[i] = (n, (j : Int)) → 4 ≤ n → n ≤ 7 → nx.getD j 0 = (n : Int) - 2 ∧ wh.getD j 0 = ((i + 1 : Nat) : Int)
  past : ∀ k, k < s.taken → (∀ i (h : i < s.ws.length), 4 ≤ (s.ws[i]).1 → (s.ws[i]).1 ≤ 7 → (s.ws[i]).2 ≠ (k : Int)) → nx.getD k 0 = 6
  ended : en = (eights s.ws : Int)
/-- What the law asks of an event. -/
def EndsOk (J N : Nat) (wh nx : List Int) (x : Ev) : Prop :=
  (x.job = -1 ∧ (x.what = 1 ∨ x.what = 2 ∨ x.what = 8)) ∨
  ∃ k q : Nat, x.job = (k : Int) ∧ k < J ∧ x.actor ≤ N ∧ nx.getD k 0 = (q : Int) ∧ q < 6 ∧ x.what = want q ∧ (1 < q → wh.getD k 0 = (x.actor : Int)) ∧ (q = 0 → x.actor = 0) ∧ (q ≠ 0 → x.actor ≠ 0)
theorem getD_set (l : List Int) (i k : Nat) (v : Int) (h : i < l.length) : (l.set i v).getD k 0 = if i = k then v else l.getD k 0 := by
  rw [List.getD_eq_getElem?_getD, List.getD_eq_getElem?_getD, List.getElem?_set]
  by_cases hik : i = k
  · subst hik; simp [h]
  · simp [hik]
theorem whS_job (wh : List Int) (x : Ev) (k : Nat) (h : x.job = (k : Int)) : whS wh x = wh.set k (x.actor : Int) := by
  unfold whS; rw [h, if_neg (by omega)]; rfl
theorem nxS_job (nx : List Int) (x : Ev) (k : Nat) (h : x.job = (k : Int)) : nxS nx x = nx.set k (nx.getD k 0 + 1) := by
  unfold nxS; rw [h, if_neg (by omega)]; rfl
/-- A worker goes on with its job. -/
theorem ends_go {J N : Nat} {s s' : St} {wh nx : List Int} {en : Int} (hI : Inv J N s) (ho : Own s) (h : Ends J s wh nx en) (i n n' : Nat) (jb : Int) (x : Ev) (hi : i < s.ws.length) (hw : s.ws[i] = (n, jb)) (hn : 4 ≤ n ∧ n ≤ 7) (hn' : (4 ≤ n' ∧ n' ≤ 7 ∧ n' = n + 1) ∨ (n = 7 ∧ n' = 3))
    (hx : x = ⟨i + 1, n, jb⟩) (hws : s'.ws = s.ws.set i (n', jb)) (hs : s'.sent = s.sent) (ht : s'.taken = s.taken) (hwx : want (n - 2) = n) : EndsOk J N wh nx x ∧ Ends J s' (whS wh x) (nxS nx x) (enS en x) := by
  obtain ⟨j, hj, hjt⟩ := ho.job i hi (by rw [hw]; exact hn.1) (by rw [hw]; exact hn.2)
  rw [hw] at hj
  simp only at hj
  subst hj
  have hsent := hI.sent
  have hlen := hI.len
  have htl : s.taken ≤ s.sent := by unfold St.taken; omega
  obtain ⟨b1, b2⟩ := h.busy i hi n j hw hn.1 hn.2
  have hjJ : j < J := by omega
  have e1 : whS wh x = wh.set j ((i + 1 : Nat) : Int) := by rw [whS_job wh x j (by rw [hx])]; rw [hx]
  have e2 : nxS nx x = nx.set j ((n : Int) - 1) := by
    rw [nxS_job nx x j (by rw [hx]), b1]
    congr 1; omega
  have e3 : enS en x = en := by unfold enS; rw [hx]; exact if_neg (by show ¬ n = 8; omega)
  have key : ∀ k (hk : k < s'.ws.length), ∃ hk' : k < s.ws.length, (k = i ∧ s'.ws[k] = (n', (j : Int))) ∨ (k ≠ i ∧ s'.ws[k] = s.ws[k]) := by
    intro k hk
    have hk' : k < s.ws.length := by rw [hws] at hk; simpa using hk
    refine ⟨hk', ?_⟩
    have e : s'.ws[k] = (s.ws.set i (n', (j : Int)))[k]'(by simpa using hk') := by simp [hws]
    rw [e, List.getElem_set]
    by_cases hik : i = k
    · subst hik; rw [if_pos rfl]; exact .inl ⟨rfl, rfl⟩
    · rw [if_neg hik]; exact .inr ⟨fun e => hik e.symm, rfl⟩
  refine ⟨.inr ⟨j, n - 2, by rw [hx], hjJ, by rw [hx]; show i + 1 ≤ N; omega, by rw [b1]; omega, by omega, by rw [hx]; exact hwx.symm, fun _ => by rw [hx]; exact b2, fun h0 => by omega, fun _ => by rw [hx]; exact Nat.succ_ne_zero i⟩, ?_⟩
  rw [e1, e2, e3]
  refine ⟨by rw [List.length_set]; exact h.whl, by rw [List.length_set]; exact h.nxl, fun k h1 h2 => ?_, fun k h1 h2 => ?_, fun k hk m j' e h4 h7 => ?_, fun k hk hno => ?_, ?_⟩
  · rw [hs] at h1
    rw [getD_set _ _ _ _ (by rw [h.nxl]; exact hjJ), if_neg (by omega)]
    exact h.unsent k h1 h2
  · rw [ht] at h1
    rw [hs] at h2
    rw [getD_set _ _ _ _ (by rw [h.nxl]; exact hjJ), if_neg (by omega)]
    exact h.waits k h1 h2
  · obtain ⟨hk', ⟨rfl, e'⟩ | ⟨hne, e'⟩⟩ := key k hk
    · rw [e'] at e
      injection e with e4 e5
      have : j = j' := by omega
      subst this e4
      rw [getD_set _ _ _ _ (by rw [h.nxl]; exact hjJ), if_pos rfl, getD_set _ _ _ _ (by rw [h.whl]; exact hjJ), if_pos rfl]
      exact ⟨by rcases hn' with h | h <;> omega, rfl⟩
    · rw [e'] at e
      have hjj : j ≠ j' := by
        rintro rfl
        have := ho.apart k i hk' hi (by rw [e]; exact h4) (by rw [e]; exact h7) (by rw [hw]; exact hn.1) (by rw [hw]; exact hn.2) (by rw [e, hw])
        exact hne this
      rw [getD_set _ _ _ _ (by rw [h.nxl]; exact hjJ), if_neg hjj, getD_set _ _ _ _ (by rw [h.whl]; exact hjJ), if_neg hjj]
      exact h.busy k hk' m j' e h4 h7
  · rw [ht] at hk
    rw [getD_set _ _ _ _ (by rw [h.nxl]; exact hjJ)]
    by_cases hjk : j = k
    · rw [if_pos hjk]
      rcases hn' with hb | ⟨h7, _⟩
      · exfalso
        have hi' : i < s'.ws.length := by rw [hws]; simpa using hi
        obtain ⟨hk', ⟨_, e'⟩ | ⟨hne, _⟩⟩ := key i hi'
        · have := hno i hi' (by rw [e']; exact hb.1) (by rw [e']; exact hb.2.1)
          rw [e'] at this
          exact this (by show (j : Int) = k; omega)
        · exact hne rfl
      · omega
    · rw [if_neg hjk]
      refine h.past k hk fun l hl h4 h7 he => ?_
      have hl' : l < s'.ws.length := by rw [hws]; simpa using hl
      obtain ⟨_, ⟨hli, e'⟩ | ⟨hne, e'⟩⟩ := key l hl'
      · subst hli
        rw [hw] at he
        simp only at he
        omega
      · exact hno l hl' (by rw [e']; exact h4) (by rw [e']; exact h7) (by rw [e']; exact he)
  · have := eights_set s.ws i (n', (j : Int)) hi
    rw [hw] at this
    have e8 : eight n = 0 := by unfold eight; rw [if_neg (by omega)]
    have e8' : eight n' = 0 := by unfold eight; rw [if_neg (by rcases hn' with h | h <;> omega)]
    simp only [e8, e8'] at this
    rw [h.ended, hws]; omega
theorem ends_step {J N : Nat} {s s' : St} {x : Ev} {wh nx : List Int} {en : Int} (hI : Inv J N s) (ho : Own s) (h : Ends J s wh nx en) (hk : Kind s s' x) : EndsOk J N wh nx x ∧ Ends J s' (whS wh x) (nxS nx x) (enS en x) := by
  have hlen := hI.len
  have hsent := hI.sent
  have htl : s.taken ≤ s.sent := by unfold St.taken; omega
  cases hk with
  | send hx hs hc he =>
    subst hx he
    have hj := hI.jobs
    have ht : s.send.taken = s.taken := by
      unfold St.taken
      show s.sent + 1 - (s.ch ++ [s.sent]).length = _
      rw [List.length_append, List.length_singleton]; omega
    have h0 := h.unsent s.sent (Nat.le_refl _) (by omega)
    rw [whS_job _ _ s.sent rfl, nxS_job _ _ s.sent rfl, h0]
    refine ⟨.inr ⟨s.sent, 0, rfl, by omega, Nat.zero_le _, h0, by decide, rfl, fun h => by omega, fun _ => rfl, fun h => absurd rfl h⟩, ?_⟩
    refine ⟨by rw [List.length_set]; exact h.whl, by rw [List.length_set]; exact h.nxl, fun k h1 h2 => ?_, fun k h1 h2 => ?_, fun k hk m j' e h4 h7 => ?_, fun k hk hno => ?_, h.ended⟩
    · have h1' : s.sent + 1 ≤ k := h1
      rw [getD_set _ _ _ _ (by rw [h.nxl]; omega), if_neg (by omega)]
      exact h.unsent k (by omega) h2
    · rw [ht] at h1
      have h2' : k < s.sent + 1 := h2
      rw [getD_set _ _ _ _ (by rw [h.nxl]; omega)]
      by_cases hk : s.sent = k
      · rw [if_pos hk]; rfl
      · rw [if_neg hk]; exact h.waits k h1 (by omega)
    · have hk' : k < s.ws.length := hk
      have e' : s.ws[k]'hk' = (m, (j' : Int)) := e
      obtain ⟨q, e1, e2⟩ := ho.job k hk' (by rw [e']; exact h4) (by rw [e']; exact h7)
      rw [e'] at e1
      simp only at e1
      have : j' < s.taken := by omega
      rw [getD_set _ _ _ _ (by rw [h.nxl]; omega), if_neg (by omega), getD_set _ _ _ _ (by rw [h.whl]; omega), if_neg (by omega)]
      exact h.busy k hk' m j' e' h4 h7
    · rw [ht] at hk
      rw [getD_set _ _ _ _ (by rw [h.nxl]; omega), if_neg (by omega)]
      exact h.past k hk hno
  | close hx hs hc he =>
    subst hx he
    exact ⟨.inl ⟨rfl, .inl rfl⟩, ⟨h.whl, h.nxl, h.unsent, h.waits, h.busy, h.past, h.ended⟩⟩
  | done hx hs hc hd he =>
    subst hx he
    exact ⟨.inl ⟨rfl, .inr (.inl rfl)⟩, ⟨h.whl, h.nxl, h.unsent, h.waits, h.busy, h.past, h.ended⟩⟩
  | take i j r jb hi hx hw hq he =>
    obtain ⟨hj, hr⟩ := head_taken hI hq
    have hts : s.taken < s.sent := by
      have := hI.sq
      unfold St.taken
      rw [hq, List.length_cons] at this ⊢
      omega
    subst hx he
    have h1 := h.waits j (by omega) (by omega)
    rw [whS_job _ _ j rfl, nxS_job _ _ j rfl, h1]
    refine ⟨.inr ⟨j, 1, rfl, by omega, by show i + 1 ≤ N; omega, h1, by decide, rfl, fun h => by omega, fun h => by omega, fun _ => Nat.succ_ne_zero i⟩, ?_⟩
    have ht : ({ s with ws := s.ws.set i (4, (j : Int)), ch := r, ev := s.ev ++ [⟨i + 1, 3, (j : Int)⟩] } : St).taken = s.taken + 1 := hr
    refine ⟨by rw [List.length_set]; exact h.whl, by rw [List.length_set]; exact h.nxl, fun k h1 h2 => ?_, fun k h1 h2 => ?_, fun k hk m j' e h4 h7 => ?_, fun k hk hno => ?_, ?_⟩
    · rw [getD_set _ _ _ _ (by rw [h.nxl]; omega), if_neg (by have : s.sent ≤ k := h1; omega)]
      exact h.unsent k h1 h2
    · rw [ht] at h1
      rw [getD_set _ _ _ _ (by rw [h.nxl]; omega), if_neg (by omega)]
      exact h.waits k (by omega) h2
    · have hk' : k < s.ws.length := by simpa using hk
      change (s.ws.set i (4, (j : Int)))[k] = _ at e
      by_cases hik : i = k
      · subst hik
        rw [List.getElem_set_self] at e
        injection e with e4 e5
        have : j = j' := by omega
        subst this e4
        rw [getD_set _ _ _ _ (by rw [h.nxl]; omega), if_pos rfl, getD_set _ _ _ _ (by rw [h.whl]; omega), if_pos rfl]
        exact ⟨rfl, rfl⟩
      · rw [List.getElem_set_ne hik] at e
        obtain ⟨q, e1, e2⟩ := ho.job k hk' (by rw [e]; exact h4) (by rw [e]; exact h7)
        rw [e] at e1
        simp only at e1
        rw [getD_set _ _ _ _ (by rw [h.nxl]; omega), if_neg (by omega), getD_set _ _ _ _ (by rw [h.whl]; omega), if_neg (by omega)]
        exact h.busy k hk' m j' e h4 h7
    · rw [ht] at hk
      by_cases hjk : j = k
      · exfalso
        have := hno i (by simpa using hi) (by simp) (by simp)
        simp at this
        omega
      · rw [getD_set _ _ _ _ (by rw [h.nxl]; omega), if_neg hjk]
        refine h.past k (by omega) fun l hl h4 h7 he => ?_
        have hli : i ≠ l := by
          rintro rfl
          rw [hw] at h4
          simp at h4
        have := hno l (by simpa using hl)
        simp only [List.getElem_set_ne hli] at this
        exact this h4 h7 he
    · have := eights_set s.ws i (4, (j : Int)) hi
      rw [hw] at this
      have e3 : eight 3 = 0 := rfl
      have e4 : eight 4 = 0 := rfl
      simp only [e3, e4] at this
      show en = ((eights (s.ws.set i (4, (j : Int))) : Nat) : Int)
      rw [h.ended]; omega
  | ended i jb hi hx hw hq hc he =>
    subst hx he
    refine ⟨.inl ⟨rfl, .inr (.inr rfl)⟩, ⟨h.whl, h.nxl, h.unsent, h.waits, fun k hk m j' e h4 h7 => ?_, fun k hk hno => ?_, ?_⟩⟩
    · have hk' : k < s.ws.length := by simpa using hk
      change (s.ws.set i (8, jb))[k] = _ at e
      by_cases hik : i = k
      · subst hik
        rw [List.getElem_set_self] at e
        injection e with e4 e5
        omega
      · rw [List.getElem_set_ne hik] at e
        exact h.busy k hk' m j' e h4 h7
    · refine h.past k hk fun l hl h4 h7 he => ?_
      have hli : i ≠ l := by
        rintro rfl
        rw [hw] at h4
        simp at h4
      have := hno l (by simpa using hl)
      simp only [List.getElem_set_ne hli] at this
      exact this h4 h7 he
    · have := eights_set s.ws i (8, jb) hi
      rw [hw] at this
      have e3 : eight 3 = 0 := rfl
      have e8 : eight 8 = 1 := rfl
      simp only [e3, e8] at this
      show enS en ⟨i + 1, 8, -1⟩ = ((eights (s.ws.set i (8, jb)) : Nat) : Int)
      unfold enS
      rw [if_pos rfl, h.ended]; omega
  | build i jb hi hx hw he => exact ends_go hI ho h i 4 5 jb x hi hw (by omega) (.inl (by omega)) hx (by subst he; rfl) (by subst he; rfl) (by subst he; rfl) rfl
  | lock i jb hi hx hw hl he => exact ends_go hI ho h i 5 6 jb x hi hw (by omega) (.inl (by omega)) hx (by subst he; rfl) (by subst he; rfl) (by subst he; rfl) rfl
  | put i jb hi hx hw hl he => exact ends_go hI ho h i 6 7 jb x hi hw (by omega) (.inl (by omega)) hx (by subst he; rfl) (by subst he; rfl) (by subst he; rfl) rfl
  | unlock i jb hi hx hw hl he => exact ends_go hI ho h i 7 3 jb x hi hw (by omega) (.inr (by omega)) hx (by subst he; rfl) (by subst he; rfl) (by subst he; rfl) rfl
/-- What the law knows behind k events. -/
def whK (J : Nat) (E : List Ev) : Nat → List Int
  | 0 => List.replicate J 0
  | k + 1 => whS (whK J E k) (E.getD k ⟨0, 0, 0⟩)
def nxK (J : Nat) (E : List Ev) : Nat → List Int
  | 0 => List.replicate J 0
  | k + 1 => nxS (nxK J E k) (E.getD k ⟨0, 0, 0⟩)
def enK (E : List Ev) : Nat → Int
  | 0 => 0
  | k + 1 => enS (enK E k) (E.getD k ⟨0, 0, 0⟩)
theorem eights_all (ws : List (Nat × Int)) (h : ∀ i (h : i < ws.length), (ws[i]).1 = 8) : eights ws = ws.length := by
  induction ws with
  | nil => rfl
  | cons x l ih =>
    have h0 := h 0 (by simp)
    have := ih fun i hi => h (i + 1) (by simpa using hi)
    unfold eights at this ⊢
    simp at h0 this ⊢
    rw [this, h0]; simp [eight]; omega
structure EndsRun (J N : Nat) (E : List Ev) : Prop where
  ok : ∀ k (h : k < E.length), EndsOk J N (whK J E k) (nxK J E k) E[k]
  len : ∀ k, k ≤ E.length → (whK J E k).length = J ∧ (nxK J E k).length = J ∧ 0 ≤ enK E k ∧ enK E k ≤ N
  last : (∀ k, k < J → (nxK J E E.length).getD k 0 = 6) ∧ enK E E.length = (N : Int)
  end_ : E.getLast? = some ⟨0, 2, -1⟩
theorem eights_le (ws : List (Nat × Int)) : eights ws ≤ ws.length := by
  induction ws with
  | nil => exact Nat.le_refl _
  | cons x l ih =>
    unfold eights at ih ⊢
    simp only [List.map_cons, List.sum_cons, List.length_cons]
    have : eight x.1 ≤ 1 := by unfold eight; split <;> omega
    omega
theorem ends_run (J N : Nat) (hN : 1 ≤ N) (picks : List Int) : EndsRun J N (runK J N picks (6 * J + N + 2)).ev := by
  have ht := run_trace J N hN picks
  have hf := run_final J N hN picks
  have hlast := hf.last
  generalize hE : (runK J N picks (6 * J + N + 2)).ev = E at *
  have all : ∀ k, k ≤ 6 * J + N + 2 → Ends J (runK J N picks k) (whK J E k) (nxK J E k) (enK E k) := by
    intro k
    induction k with
    | zero =>
      intro _
      refine ⟨by simp [whK], by simp [nxK], fun k _ hk => ?_, fun k h1 h2 => ?_, fun i h n j e h4 => ?_, fun k hk => ?_, ?_⟩
      · simp [nxK, List.getD_eq_getElem?_getD, hk]
      · exact absurd h2 (Nat.not_lt_zero _)
      · simp [runK, start] at e
      · exact absurd hk (by show ¬ k < 0 - 0; omega)
      · have : eights (List.replicate N ((3 : Nat), (-1 : Int))) = 0 := by simp [eights, eight]
        show (0 : Int) = ((eights (List.replicate N ((3 : Nat), (-1 : Int))) : Nat) : Int)
        rw [this]; rfl
    | succ k ih =>
      intro hk
      have hk' : k < E.length := by rw [ht.length]; omega
      have := (ends_step (run_inv J N hN picks k (by omega)).1 (run_own J N hN picks k (by omega)) (ih (by omega)) (ht.kind k hk')).2
      show Ends J _ (whS (whK J E k) (E.getD k ⟨0, 0, 0⟩)) (nxS (nxK J E k) (E.getD k ⟨0, 0, 0⟩)) (enS (enK E k) (E.getD k ⟨0, 0, 0⟩))
      rw [List.getD_eq_getElem?_getD, List.getElem?_eq_getElem hk']
      exact this
  refine ⟨fun k hk => ?_, fun k hk => ?_, ?_, hlast⟩
  · have hk2 := hk
    rw [ht.length] at hk2
    exact (ends_step (run_inv J N hN picks k hk2).1 (run_own J N hN picks k (by omega)) (all k (by omega)) (ht.kind k hk)).1
  · rw [ht.length] at hk
    have h := all k hk
    have hl : (runK J N picks k).ws.length = N := by
      rcases Nat.lt_or_ge k (6 * J + N + 2) with h | h
      · exact (run_inv J N hN picks k h).1.len
      · obtain rfl : k = 6 * J + N + 2 := by omega
        exact hf.len
    have := eights_le (runK J N picks k).ws
    rw [h.ended]
    exact ⟨h.whl, h.nxl, by omega, by omega⟩
  · have h := all _ (Nat.le_refl _)
    rw [ht.length]
    refine ⟨fun k hk => ?_, ?_⟩
    · refine h.past k ?_ fun i hi h4 h7 => ?_
      · unfold St.taken; rw [hf.sent, hf.ch]; simpa using hk
      · have := hf.ended i hi; omega
    · rw [h.ended, eights_all _ hf.ended, hf.len]
end Go.Proofs.Ytfokjemoolgojaa

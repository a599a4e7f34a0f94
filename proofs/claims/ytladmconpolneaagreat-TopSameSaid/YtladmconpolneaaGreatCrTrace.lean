/- The run's trace: each step, as one of nine kinds. -/
import Derived.Test.YtladmconpolneaaGreatCrRun
set_option linter.unusedVariables false
set_option linter.unusedSimpArgs false
namespace Go.Proofs.YtladmconpolneaaGreat.Cr
/-- What a step is. -/
inductive Kind (s s' : St) (x : Ev) : Prop
  | send : x = ⟨0, 0, (s.sent : Int)⟩ → s.sent < s.jobs → s.ch.length < s.ws.length → s' = s.send → Kind s s' x
  | close : x = ⟨0, 1, -1⟩ → ¬ s.sent < s.jobs → s.closed = false → s' = s.close → Kind s s' x
  | done : x = ⟨0, 2, -1⟩ → ¬ s.sent < s.jobs → s.closed = true → s.ended = true → s' = s.done → Kind s s' x
  | take (i j : Nat) (r : List Nat) (jb : Int) (hi : i < s.ws.length) : x = ⟨i + 1, 3, (j : Int)⟩ → s.ws[i] = (3, jb) → s.ch = j :: r → s' = { s with ws := s.ws.set i (4, (j : Int)), ch := r, ev := s.ev ++ [⟨i + 1, 3, (j : Int)⟩] } → Kind s s' x
  | ended (i : Nat) (jb : Int) (hi : i < s.ws.length) : x = ⟨i + 1, 8, -1⟩ → s.ws[i] = (3, jb) → s.ch = [] → s.closed = true → s' = { s with ws := s.ws.set i (8, jb), ev := s.ev ++ [⟨i + 1, 8, -1⟩] } → Kind s s' x
  | build (i : Nat) (jb : Int) (hi : i < s.ws.length) : x = ⟨i + 1, 4, jb⟩ → s.ws[i] = (4, jb) → s' = { s with ws := s.ws.set i (5, jb), ev := s.ev ++ [⟨i + 1, 4, jb⟩] } → Kind s s' x
  | lock (i : Nat) (jb : Int) (hi : i < s.ws.length) : x = ⟨i + 1, 5, jb⟩ → s.ws[i] = (5, jb) → s.locked = -1 → s' = { s with ws := s.ws.set i (6, jb), locked := ((i + 1 : Nat) : Int), ev := s.ev ++ [⟨i + 1, 5, jb⟩] } → Kind s s' x
  | put (i : Nat) (jb : Int) (hi : i < s.ws.length) : x = ⟨i + 1, 6, jb⟩ → s.ws[i] = (6, jb) → s.locked = ((i + 1 : Nat) : Int) → s' = { s with ws := s.ws.set i (7, jb), ev := s.ev ++ [⟨i + 1, 6, jb⟩] } → Kind s s' x
  | unlock (i : Nat) (jb : Int) (hi : i < s.ws.length) : x = ⟨i + 1, 7, jb⟩ → s.ws[i] = (7, jb) → s.locked = ((i + 1 : Nat) : Int) → s' = { s with ws := s.ws.set i (3, jb), locked := -1, ev := s.ev ++ [⟨i + 1, 7, jb⟩] } → Kind s s' x
theorem kind_step {J N : Nat} {s : St} (h : Inv J N s) (a : Nat) (ha : a ≤ N) (hc : s.can a = true) : Kind s (s.step a) (s.evOf a) := by
  by_cases ha0 : a = 0
  · subst ha0
    have e1 : s.step 0 = s.lead := by unfold St.step; rw [if_pos rfl]
    rw [e1]
    unfold St.can at hc
    rw [if_pos rfl] at hc
    by_cases hs : s.sent < s.jobs
    · rw [if_pos hs] at hc
      refine .send ?_ hs (by simpa using hc) ?_
      · unfold St.evOf; rw [if_pos rfl, if_pos hs]
      · unfold St.lead; rw [if_pos hs]
    · rw [if_neg hs] at hc
      cases hcl : s.closed with
      | false =>
        refine .close ?_ hs hcl ?_
        · unfold St.evOf; rw [if_pos rfl, if_neg hs, if_pos hcl]
        · unfold St.lead; rw [if_neg hs, if_pos hcl]
      | true =>
        rw [hcl] at hc
        refine .done ?_ hs hcl (by simpa using hc) ?_
        · unfold St.evOf; rw [if_pos rfl, if_neg hs, if_neg (by rw [hcl]; decide)]
        · unfold St.lead; rw [if_neg hs, if_neg (by rw [hcl]; decide)]
  · obtain ⟨i, rfl⟩ : ∃ i, a = i + 1 := ⟨a - 1, by omega⟩
    have hi : i < s.ws.length := by rw [h.len]; omega
    have hw := w_eq s i hi
    have e1 : s.step (i + 1) = s.work (i + 1) := by unfold St.step; rw [if_neg ha0]
    have hlk := h.lock i hi
    have hok := work_ok h i hi hc
    rw [e1]
    unfold St.can at hc
    rw [if_neg ha0, hw] at hc
    unfold St.work St.evOf
    rw [hw, Nat.add_sub_cancel, if_neg ha0]
    obtain ⟨nx, jb, hx⟩ : ∃ nx jb, s.ws[i] = (nx, jb) := ⟨_, _, rfl⟩
    rw [hx] at hlk hok hc ⊢
    simp only at hlk hok hc ⊢
    rcases (show nx = 3 ∨ nx = 4 ∨ nx = 5 ∨ nx = 6 ∨ nx = 7 from by omega) with rfl | rfl | rfl | rfl | rfl
    · simp only [if_true] at hc ⊢
      cases hq : s.ch with
      | nil =>
        rw [hq] at hc
        exact .ended i jb hi rfl hx hq (by simpa using hc) rfl
      | cons j r => exact .take i j r jb hi rfl hx hq rfl
    · exact .build i jb hi rfl hx rfl
    · exact .lock i jb hi rfl hx (by simpa using hc) rfl
    · exact .put i jb hi rfl hx (hlk.1 (.inl rfl)) rfl
    · exact .unlock i jb hi rfl hx (hlk.1 (.inr rfl)) rfl
/-- The trace. -/
structure Trace (J N : Nat) (picks : List Int) (E : List Ev) : Prop where
  length : E.length = 6 * J + N + 2
  ev : ∀ k, k ≤ 6 * J + N + 2 → (runK J N picks k).ev = E.take k
  kind : ∀ k (h : k < E.length), Kind (runK J N picks k) (runK J N picks (k + 1)) E[k]
theorem run_trace (J N : Nat) (hN : 1 ≤ N) (picks : List Int) : Trace J N picks (runK J N picks (6 * J + N + 2)).ev := by
  have kd : ∀ k, k < 6 * J + N + 2 → Kind (runK J N picks k) (runK J N picks (k + 1)) ((runK J N picks k).evOf ((runK J N picks k).next picks)) := by
    intro k hk
    obtain ⟨h1, _⟩ := run_inv J N hN picks k hk
    have hm := mem_able.1 (next_able h1 hN picks)
    exact kind_step h1 _ (by rw [h1.len] at hm; exact hm.1) hm.2
  have ke : ∀ k, k < 6 * J + N + 2 → (runK J N picks (k + 1)).ev = (runK J N picks k).ev ++ [(runK J N picks k).evOf ((runK J N picks k).next picks)] := by
    intro k hk
    obtain ⟨h1, _⟩ := run_inv J N hN picks k hk
    have hm := mem_able.1 (next_able h1 hN picks)
    show ((runK J N picks k).step _).ev = _
    rw [step_ev _ _ (fun h0 => ?_)]
    obtain ⟨i, hi⟩ : ∃ i, (runK J N picks k).next picks = i + 1 := ⟨_, (Nat.succ_pred_eq_of_ne_zero h0).symm⟩
    rw [hi] at hm ⊢
    rw [w_eq _ i (by omega)]
    exact work_ok h1 i (by omega) hm.2
  have kl : ∀ k, k ≤ 6 * J + N + 2 → (runK J N picks k).ev.length = k := by
    intro k
    induction k with
    | zero => intro _; rfl
    | succ k ih => intro hk; rw [ke k (by omega), List.length_append, ih (by omega)]; rfl
  have kt : ∀ d k, k + d = 6 * J + N + 2 → (runK J N picks k).ev = (runK J N picks (6 * J + N + 2)).ev.take k := by
    intro d
    induction d with
    | zero => intro k hk; obtain rfl : k = 6 * J + N + 2 := by omega
              rw [List.take_of_length_le (by rw [kl _ (Nat.le_refl _)]; exact Nat.le_refl _)]
    | succ d ih =>
      intro k hk
      have h1 := ih (k + 1) (by omega)
      have h2 := ke k (by omega)
      have h3 := kl k (by omega)
      have h4 : ((runK J N picks (k + 1)).ev).take k = (runK J N picks k).ev := by rw [h2]; exact List.take_left' h3
      rw [← h4, h1, List.take_take, Nat.min_eq_left (by omega)]
  refine ⟨kl _ (Nat.le_refl _), fun k hk => kt (6 * J + N + 2 - k) k (by omega), fun k hk => ?_⟩
  rw [kl _ (Nat.le_refl _)] at hk
  have e : (runK J N picks (6 * J + N + 2)).ev[k]'(by rw [kl _ (Nat.le_refl _)]; exact hk) = (runK J N picks k).evOf ((runK J N picks k).next picks) := by
    have h1 := ke k hk
    rw [kt (6 * J + N + 2 - (k + 1)) (k + 1) (by omega), kt (6 * J + N + 2 - k) k (by omega), List.take_succ_eq_append_getElem (by rw [kl _ (Nat.le_refl _)]; exact hk)] at h1
    have h2 := List.append_cancel_left h1
    injection h2
  rw [e]
  exact kd k hk
/-- At the end all have ended. -/
structure Final (J N : Nat) (s : St) : Prop where
  sent : s.sent = J
  ch : s.ch = []
  closed : s.closed = true
  ended : ∀ i (h : i < s.ws.length), (s.ws[i]).1 = 8
  locked : s.locked = -1
  len : s.ws.length = N
  last : s.ev.getLast? = some ⟨0, 2, -1⟩
theorem run_final (J N : Nat) (hN : 1 ≤ N) (picks : List Int) : Final J N (runK J N picks (6 * J + N + 2)) := by
  obtain ⟨h1, h2⟩ := run_inv J N hN picks (6 * J + N + 1) (by omega)
  have hm := mem_able.1 (next_able h1 hN picks)
  have hl := h1.left
  have h3 : 6 * (J - (runK J N picks (6 * J + N + 1)).sent) + 5 * (runK J N picks (6 * J + N + 1)).ch.length + costs (runK J N picks (6 * J + N + 1)).ws + (if (runK J N picks (6 * J + N + 1)).closed then 0 else 1) = 0 := by omega
  have hk := kind_step h1 _ (by rw [h1.len] at hm; exact hm.1) hm.2
  have e : runK J N picks (6 * J + N + 2) = (runK J N picks (6 * J + N + 1)).step ((runK J N picks (6 * J + N + 1)).next picks) := rfl
  rw [← e] at hk
  generalize runK J N picks (6 * J + N + 2) = s' at *
  generalize (runK J N picks (6 * J + N + 1)).evOf _ = x at *
  generalize runK J N picks (6 * J + N + 1) = s at *
  have hcl : s.closed = true := by
    cases h : s.closed with
    | true => rfl
    | false => rw [h] at h3; simp at h3
  have hch : s.ch = [] := List.eq_nil_of_length_eq_zero (by omega)
  have hsent : s.sent = J := h1.closed hcl
  have hco : costs s.ws = 0 := by omega
  have h8 : ∀ i (h : i < s.ws.length), (s.ws[i]).1 = 8 := by
    intro i hi
    have := costs_set s.ws i (8, 0) hi
    have c8 : cost 8 = 0 := rfl
    simp only [c8] at this
    have h0 : cost (s.ws[i]).1 = 0 := by omega
    have hnx := h1.nx i hi
    unfold cost at h0
    split at h0
    · omega
    · split at h0
      · assumption
      · omega
  have hlk : s.locked = -1 := by
    rcases h1.held with h | ⟨i, hi, h⟩
    · exact h
    · have := (h1.lock i hi).2 h
      have := h8 i hi
      omega
  have no : ∀ i (hi : i < s.ws.length) n jb, s.ws[i] = (n, jb) → n = 8 := fun i hi n jb h => by
    have := h8 i hi
    rw [h] at this; exact this
  cases hk with
  | send hx hs hc he => rw [h1.jobs, hsent] at hs; omega
  | close hx hs hc he => rw [hcl] at hc; cases hc
  | done hx hs hc hd he => subst he; exact ⟨hsent, hch, hcl, h8, hlk, h1.len, by simp [St.done, St.tell]⟩
  | take i j r jb hi hx hw hq he => have := no i hi _ _ hw; omega
  | ended i jb hi hx hw hq hc he => have := no i hi _ _ hw; omega
  | build i jb hi hx hw he => have := no i hi _ _ hw; omega
  | lock i jb hi hx hw hl he => have := no i hi _ _ hw; omega
  | put i jb hi hx hw hl he => have := no i hi _ _ hw; omega
  | unlock i jb hi hx hw hl he => have := no i hi _ _ hw; omega
end Go.Proofs.YtladmconpolneaaGreat.Cr

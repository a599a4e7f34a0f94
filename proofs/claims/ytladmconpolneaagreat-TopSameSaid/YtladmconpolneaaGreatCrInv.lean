/- The crew as plain Lean: what holds whatever is picked. -/
import Derived.Test.YtladmconpolneaaGreatCrModel
set_option linter.unusedVariables false
set_option linter.unusedSimpArgs false
namespace Go.Proofs.YtladmconpolneaaGreat.Cr
def cost (n : Nat) : Nat := if n = 3 then 1 else if n = 8 then 0 else 9 - n
def costs (ws : List (Nat × Int)) : Nat := (ws.map fun w => cost w.1).sum
theorem sum_set (l : List Nat) (i y : Nat) (h : i < l.length) : (l.set i y).sum + l[i] = l.sum + y := by
  induction l generalizing i with
  | nil => simp at h
  | cons x l ih =>
    cases i with
    | zero => simp; omega
    | succ i =>
      have := ih i (by simpa using h)
      simp only [List.set_cons_succ, List.sum_cons, List.getElem_cons_succ]; omega
theorem costs_set (ws : List (Nat × Int)) (i : Nat) (x : Nat × Int) (h : i < ws.length) : costs (ws.set i x) + cost (ws[i]).1 = costs ws + cost x.1 := by
  unfold costs
  rw [List.map_set]
  have := sum_set (ws.map fun w => cost w.1) i (cost x.1) (by simpa using h)
  simpa using this
structure Inv (J N : Nat) (s : St) : Prop where
  jobs : s.jobs = J
  len : s.ws.length = N
  sent : s.sent ≤ J
  chle : s.ch.length ≤ N
  sq : s.ch.length ≤ s.sent
  ch : s.ch = List.range' (s.sent - s.ch.length) s.ch.length
  closed : s.closed = true → s.sent = J
  nx : ∀ i (h : i < s.ws.length), 3 ≤ (s.ws[i]).1 ∧ (s.ws[i]).1 ≤ 8
  lock : ∀ i (h : i < s.ws.length), ((s.ws[i]).1 = 6 ∨ (s.ws[i]).1 = 7) ↔ s.locked = ((i + 1 : Nat) : Int)
  held : s.locked = -1 ∨ ∃ i, i < s.ws.length ∧ s.locked = ((i + 1 : Nat) : Int)
  ended : ∀ i (h : i < s.ws.length), (s.ws[i]).1 = 8 → s.closed = true ∧ s.ch = []
  left : s.ev.length + (6 * (J - s.sent) + 5 * s.ch.length + costs s.ws + (if s.closed then 0 else 1) + 1) = 6 * J + N + 2
/-- What an actor's step tells. -/
def St.evOf (s : St) (a : Nat) : Ev :=
  if a = 0 then (if s.sent < s.jobs then ⟨0, 0, s.sent⟩ else if s.closed = false then ⟨0, 1, -1⟩ else ⟨0, 2, -1⟩)
  else if (s.w a).1 = 3 then (match s.ch with | [] => ⟨a, 8, -1⟩ | j :: _ => ⟨a, 3, j⟩) else ⟨a, (s.w a).1, (s.w a).2⟩
theorem w_eq (s : St) (i : Nat) (h : i < s.ws.length) : s.w (i + 1) = s.ws[i] := by
  unfold St.w
  rw [Nat.add_sub_cancel, List.getD_eq_getElem?_getD, List.getElem?_eq_getElem h]; rfl
theorem inv_start (J N : Nat) : Inv J N (start J N) := by
  refine ⟨rfl, by simp [start], Nat.zero_le _, Nat.zero_le _, Nat.zero_le _, rfl, (by simp [start]), ?_, ?_, .inl rfl, ?_, ?_⟩
  · intro i h; simp [start]
  · intro i h; simp [start] <;> omega
  · intro i h; simp [start]
  · have : costs (List.replicate N ((3 : Nat), (-1 : Int))) = N := by simp [costs, cost]
    simp [start, this]
theorem inv_send {J N : Nat} {s : St} (h : Inv J N s) (hs : s.sent < s.jobs) (hc : s.ch.length < N) : Inv J N s.send := by
  have hj := h.jobs
  refine ⟨h.jobs, h.len, ?_, ?_, ?_, ?_, ?_, h.nx, h.lock, h.held, ?_, ?_⟩
  · show s.sent + 1 ≤ J; omega
  · show (s.ch ++ [s.sent]).length ≤ N; simp; omega
  · show (s.ch ++ [s.sent]).length ≤ s.sent + 1; have := h.sq; simp; omega
  · show s.ch ++ [s.sent] = List.range' (s.sent + 1 - (s.ch ++ [s.sent]).length) (s.ch ++ [s.sent]).length
    have h1 := h.ch
    have h2 := h.sq
    rw [List.length_append, List.length_singleton, List.range'_concat]
    rw [show s.sent + 1 - (s.ch.length + 1) = s.sent - s.ch.length from by omega, ← h1]
    congr 2; omega
  · intro hcl
    have := h.closed hcl
    omega
  · intro i hi h8
    have := (h.ended i hi h8).1
    have := h.closed this
    omega
  · have := h.left
    show (s.ev ++ [_]).length + (6 * (J - (s.sent + 1)) + 5 * (s.ch ++ [s.sent]).length + costs s.ws + (if s.closed then 0 else 1) + 1) = _
    rw [List.length_append, List.length_append, List.length_singleton, List.length_singleton]
    omega
theorem inv_close {J N : Nat} {s : St} (h : Inv J N s) (hs : ¬ s.sent < s.jobs) (hc : s.closed = false) : Inv J N s.close := by
  have hj := h.jobs
  refine ⟨h.jobs, h.len, h.sent, h.chle, h.sq, h.ch, ?_, h.nx, h.lock, h.held, ?_, ?_⟩
  · intro _; have := h.sent; show s.sent = J; omega
  · intro i hi h8
    have := (h.ended i hi h8).1
    rw [hc] at this; cases this
  · have := h.left
    rw [hc] at this
    show (s.ev ++ [_]).length + (6 * (J - s.sent) + 5 * s.ch.length + costs s.ws + (if true then 0 else 1) + 1) = _
    rw [List.length_append, List.length_singleton]
    simp at this ⊢
    omega
/-- A worker's step that leaves the channel alone. -/
theorem inv_work {J N : Nat} {s : St} (h : Inv J N s) (i n : Nat) (j' : Int) (lk : Int) (e : Ev) (hi : i < s.ws.length) (hn : 3 ≤ n ∧ n ≤ 8) (hcost : cost n + 1 = cost (s.ws[i]).1) (h8 : n = 8 → s.closed = true ∧ s.ch = [])
    (hlk : (lk = s.locked ∧ ((n = 6 ∨ n = 7) ↔ ((s.ws[i]).1 = 6 ∨ (s.ws[i]).1 = 7))) ∨ (s.locked = -1 ∧ lk = ((i + 1 : Nat) : Int) ∧ n = 6) ∨ (s.locked = ((i + 1 : Nat) : Int) ∧ lk = -1 ∧ n ≠ 6 ∧ n ≠ 7)) :
    Inv J N { s with ws := s.ws.set i (n, j'), locked := lk, ev := s.ev ++ [e] } := by
  refine ⟨h.jobs, by simp [h.len], h.sent, h.chle, h.sq, h.ch, h.closed, ?_, ?_, ?_, ?_, ?_⟩
  · intro k hk
    show 3 ≤ ((s.ws.set i (n, j'))[k]).1 ∧ _
    rw [List.getElem_set]
    split
    · exact hn
    · exact h.nx k (by simpa using hk)
  · intro k hk
    have hk' : k < s.ws.length := by simpa using hk
    show (((s.ws.set i (n, j'))[k]).1 = 6 ∨ ((s.ws.set i (n, j'))[k]).1 = 7) ↔ lk = _
    rw [List.getElem_set]
    have hki := h.lock k hk'
    have hii := h.lock i hi
    by_cases hik : i = k
    · subst hik
      rw [if_pos rfl]
      rcases hlk with ⟨rfl, h1⟩ | ⟨h1, rfl, rfl⟩ | ⟨h1, rfl, h2, h3⟩
      · rw [← hii]; exact h1
      · simp
      · simp [h2, h3]; omega
    · rw [if_neg hik]
      rcases hlk with ⟨rfl, h1⟩ | ⟨h1, rfl, rfl⟩ | ⟨h1, rfl, h2, h3⟩
      · exact hki
      · rw [hki, h1]; omega
      · rw [hki, h1]; omega
  · rcases hlk with ⟨rfl, h1⟩ | ⟨h1, rfl, rfl⟩ | ⟨h1, rfl, h2, h3⟩
    · rcases h.held with h2 | ⟨k, hk, h2⟩
      · exact .inl h2
      · exact .inr ⟨k, by simpa using hk, h2⟩
    · exact .inr ⟨i, by simpa using hi, rfl⟩
    · exact .inl rfl
  · intro k hk hk8
    have hk' : k < s.ws.length := by simpa using hk
    change ((s.ws.set i (n, j'))[k]).1 = 8 at hk8
    rw [List.getElem_set] at hk8
    split at hk8
    · exact h8 hk8
    · exact h.ended k hk' hk8
  · have h1 := h.left
    have h2 := costs_set s.ws i (n, j') hi
    show (s.ev ++ [_]).length + (6 * (J - s.sent) + 5 * s.ch.length + costs (s.ws.set i (n, j')) + (if s.closed then 0 else 1) + 1) = _
    rw [List.length_append, List.length_singleton]
    simp only at h2
    omega
theorem inv_take {J N : Nat} {s : St} (h : Inv J N s) (i j : Nat) (r : List Nat) (e : Ev) (hi : i < s.ws.length) (hw : (s.ws[i]).1 = 3) (hq : s.ch = j :: r) :
    Inv J N { s with ws := s.ws.set i (4, (j : Int)), ch := r, ev := s.ev ++ [e] } := by
  have hlen : s.ch.length = r.length + 1 := by rw [hq]; rfl
  refine ⟨h.jobs, by simp [h.len], h.sent, ?_, ?_, ?_, h.closed, ?_, ?_, ?_, ?_, ?_⟩
  · have := h.chle; show r.length ≤ N; omega
  · have := h.sq; show r.length ≤ s.sent; omega
  · show r = List.range' (s.sent - r.length) r.length
    have h1 := h.ch
    have h2 := h.sq
    rw [hq] at h1 h2
    rw [List.length_cons] at h1 h2
    rw [List.range'_succ] at h1
    injection h1 with h3 h4
    rw [show s.sent - r.length = s.sent - (r.length + 1) + 1 from by omega]
    exact h4
  · intro k hk
    show 3 ≤ ((s.ws.set i (4, (j : Int)))[k]).1 ∧ _
    rw [List.getElem_set]
    split
    · exact ⟨by show 3 ≤ 4; decide, by show 4 ≤ 8; decide⟩
    · exact h.nx k (by simpa using hk)
  · intro k hk
    have hk' : k < s.ws.length := by simpa using hk
    show (((s.ws.set i (4, (j : Int)))[k]).1 = 6 ∨ ((s.ws.set i (4, (j : Int)))[k]).1 = 7) ↔ s.locked = _
    rw [List.getElem_set]
    have hki := h.lock k hk'
    by_cases hik : i = k
    · subst hik
      rw [if_pos rfl, ← hki, hw]; simp
    · rw [if_neg hik]; exact hki
  · rcases h.held with h2 | ⟨k, hk, h2⟩
    · exact .inl h2
    · exact .inr ⟨k, by simpa using hk, h2⟩
  · intro k hk hk8
    have hk' : k < s.ws.length := by simpa using hk
    change ((s.ws.set i (4, (j : Int)))[k]).1 = 8 at hk8
    rw [List.getElem_set] at hk8
    split at hk8
    · simp at hk8
    · have := (h.ended k hk' hk8).2
      rw [hq] at this; cases this
  · have h1 := h.left
    have h2 := costs_set s.ws i (4, (j : Int)) hi
    rw [hw] at h2
    have c3 : cost 3 = 1 := rfl
    have c4 : cost 4 = 5 := rfl
    show (s.ev ++ [_]).length + (6 * (J - s.sent) + 5 * r.length + costs (s.ws.set i (4, (j : Int))) + (if s.closed then 0 else 1) + 1) = _
    rw [List.length_append, List.length_singleton]
    simp only at h2
    omega
/-- A step by one that can go on, but the last. -/
theorem inv_step {J N : Nat} {s : St} (h : Inv J N s) (a : Nat) (ha : a ≤ N) (hc : s.can a = true) (ho : a = 0 → s.over = false) : Inv J N (s.step a) := by
  unfold St.step
  by_cases ha0 : a = 0
  · subst ha0
    rw [if_pos rfl]
    have hov := ho rfl
    unfold St.lead
    unfold St.can at hc
    rw [if_pos rfl] at hc
    unfold St.over at hov
    by_cases hs : s.sent < s.jobs
    · rw [if_pos hs] at hc ⊢
      exact inv_send h hs (by rw [h.len] at hc; simpa using hc)
    · rw [if_neg hs]
      simp [hs] at hov
      rw [if_pos hov]
      exact inv_close h hs hov
  · rw [if_neg ha0]
    obtain ⟨i, rfl⟩ : ∃ i, a = i + 1 := ⟨a - 1, by omega⟩
    have hi : i < s.ws.length := by rw [h.len]; omega
    have hw := w_eq s i hi
    unfold St.can at hc
    rw [if_neg ha0, hw] at hc
    unfold St.work
    rw [hw, Nat.add_sub_cancel]
    have hnx := h.nx i hi
    have hlk := h.lock i hi
    by_cases h3 : (s.ws[i]).1 = 3
    · rw [if_pos h3] at hc ⊢
      cases hq : s.ch with
      | nil =>
        rw [hq] at hc
        have hcl : s.closed = true := by simpa using hc
        have := inv_work h i 8 (s.ws[i]).2 s.locked ⟨i + 1, 8, -1⟩ hi (by decide) (by rw [h3]; rfl) (fun _ => ⟨hcl, hq⟩) (.inl ⟨rfl, by rw [h3]; decide⟩)
        simpa [St.setW, St.tell, hq] using this
      | cons j r => exact inv_take h i j r ⟨i + 1, 3, j⟩ hi h3 hq
    · rw [if_neg h3] at hc ⊢
      by_cases h4 : (s.ws[i]).1 = 4
      · rw [if_pos h4]
        exact inv_work h i 5 (s.ws[i]).2 s.locked ⟨i + 1, 4, (s.ws[i]).2⟩ hi (by decide) (by rw [h4]; rfl) (fun e => by simp at e) (.inl ⟨rfl, by rw [h4]; decide⟩)
      · rw [if_neg h4]
        by_cases h5 : (s.ws[i]).1 = 5
        · rw [if_pos h5] at hc ⊢
          have hl : s.locked = -1 := by simpa using hc
          exact inv_work h i 6 (s.ws[i]).2 ((i + 1 : Nat) : Int) ⟨i + 1, 5, (s.ws[i]).2⟩ hi (by decide) (by rw [h5]; rfl) (fun e => by simp at e) (.inr (.inl ⟨hl, rfl, rfl⟩))
        · rw [if_neg h5] at hc ⊢
          by_cases h6 : (s.ws[i]).1 = 6
          · rw [if_pos h6]
            exact inv_work h i 7 (s.ws[i]).2 s.locked ⟨i + 1, 6, (s.ws[i]).2⟩ hi (by decide) (by rw [h6]; rfl) (fun e => by simp at e) (.inl ⟨rfl, by rw [h6]; decide⟩)
          · rw [if_neg h6]
            by_cases h7 : (s.ws[i]).1 = 7
            · rw [if_pos h7]
              exact inv_work h i 3 (s.ws[i]).2 (-1) ⟨i + 1, 7, (s.ws[i]).2⟩ hi (by decide) (by rw [h7]; rfl) (fun e => by simp at e) (.inr (.inr ⟨hlk.1 (.inr h7), rfl, by decide, by decide⟩))
            · have h8 : (s.ws[i]).1 = 8 := by omega
              rw [if_pos h8] at hc; cases hc
theorem mem_able {s : St} {a : Nat} : a ∈ s.able ↔ a ≤ s.ws.length ∧ s.can a = true := by
  unfold St.able
  rw [List.mem_filter, List.mem_range]
  constructor
  · rintro ⟨h1, h2⟩; exact ⟨by omega, h2⟩
  · rintro ⟨h1, h2⟩; exact ⟨by omega, h2⟩
/-- Somebody can always go on. -/
theorem able_ne {J N : Nat} {s : St} (h : Inv J N s) (hN : 1 ≤ N) : 0 < s.able.length := by
  have key : ∃ a, a ≤ s.ws.length ∧ s.can a = true := by
    have can_pos : ∀ i (hi : i < s.ws.length), s.can (i + 1) = if (s.ws[i]).1 = 3 then s.closed || decide (0 < s.ch.length) else if (s.ws[i]).1 = 5 then s.locked == -1 else if (s.ws[i]).1 = 8 then false else true := fun i hi => by
      unfold St.can; rw [if_neg (by omega), w_eq s i hi]
    -- a worker that hasn't ended, where jobs wait or all are sent
    have wk : ∀ i (hi : i < s.ws.length), (s.ws[i]).1 ≠ 8 → (s.closed = true ∨ 0 < s.ch.length) → ∃ a, a ≤ s.ws.length ∧ s.can a = true := by
      intro i hi h8 hcl
      by_cases h5 : (s.ws[i]).1 = 5
      · rcases h.held with hl | ⟨k, hk, hl⟩
        · exact ⟨i + 1, by omega, by rw [can_pos i hi, if_neg (by omega), if_pos h5, hl]; rfl⟩
        · have := (h.lock k hk).2 hl
          exact ⟨k + 1, by omega, by rw [can_pos k hk, if_neg (by omega), if_neg (by omega), if_neg (by omega)]⟩
      · refine ⟨i + 1, by omega, ?_⟩
        rw [can_pos i hi]
        by_cases h3 : (s.ws[i]).1 = 3
        · rw [if_pos h3]
          rcases hcl with h1 | h1
          · simp [h1]
          · simp [h1]
        · rw [if_neg h3, if_neg h5, if_neg h8]
    by_cases hs : s.sent < s.jobs
    · by_cases hc : s.ch.length < s.ws.length
      · exact ⟨0, Nat.zero_le _, by unfold St.can; rw [if_pos rfl, if_pos hs]; simpa using hc⟩
      · have h0 : 0 < s.ws.length := by rw [h.len]; omega
        have hch : 0 < s.ch.length := by omega
        refine wk 0 h0 (fun h8 => ?_) (.inr hch)
        have := (h.ended 0 h0 h8).2
        rw [this] at hch; simp at hch
    · cases hcl : s.closed with
      | false => exact ⟨0, Nat.zero_le _, by unfold St.can; rw [if_pos rfl, if_neg hs, hcl]; rfl⟩
      | true =>
        cases he : s.ended with
        | true => exact ⟨0, Nat.zero_le _, by unfold St.can; rw [if_pos rfl, if_neg hs, he]; simp⟩
        | false =>
          unfold St.ended at he
          rw [List.all_eq_false] at he
          obtain ⟨x, hx, h8⟩ := he
          obtain ⟨i, hi, rfl⟩ := List.getElem_of_mem hx
          exact wk i hi (by simpa using h8) (.inl hcl)
  obtain ⟨a, h1, h2⟩ := key
  exact List.length_pos_of_mem (mem_able.2 ⟨h1, h2⟩)
theorem step_ev (s : St) (a : Nat) (h : a ≠ 0 → 3 ≤ (s.w a).1 ∧ (s.w a).1 ≤ 7) : (s.step a).ev = s.ev ++ [s.evOf a] := by
  unfold St.step St.evOf
  by_cases ha : a = 0
  · rw [if_pos ha, if_pos ha]
    unfold St.lead
    split
    · rfl
    · split <;> rfl
  · rw [if_neg ha, if_neg ha]
    have := h ha
    unfold St.work
    split
    · cases s.ch <;> rfl
    · split
      · rename_i h4; rw [h4]; rfl
      · split
        · rename_i h5; rw [h5]; rfl
        · split
          · rename_i h6; rw [h6]; rfl
          · split
            · rename_i h7; rw [h7]; rfl
            · omega
end Go.Proofs.YtladmconpolneaaGreat.Cr

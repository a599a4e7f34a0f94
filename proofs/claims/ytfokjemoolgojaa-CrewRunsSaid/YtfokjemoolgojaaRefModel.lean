/- The document's crew as plain Lean: the events themselves tell how all stand. -/
import Derived.Test.YtfokjemoolgojaaEnds
set_option linter.unusedVariables false
set_option linter.unusedSimpArgs false
namespace Go.Proofs.Ytfokjemoolgojaa
def countL (l : List Ev) (wh : Nat) : Nat := (l.filter fun x => x.what == wh).length
theorem countL_append (l : List Ev) (x : Ev) (wh : Nat) : countL (l ++ [x]) wh = countL l wh + (if x.what = wh then 1 else 0) := by
  unfold countL
  rw [List.filter_append, List.length_append]
  by_cases h : x.what = wh <;> simp [h]
/-- What an actor did last. -/
def lastL (l : List Ev) (a : Nat) : Option Ev := (l.filter fun x => x.actor == a).getLast?
theorem lastL_append (l : List Ev) (x : Ev) (a : Nat) : lastL (l ++ [x]) a = if x.actor = a then some x else lastL l a := by
  unfold lastL
  rw [List.filter_append]
  by_cases h : x.actor = a
  · simp [h]
  · simp [h]
/-- What the events tell of a state. -/
structure Told (s : St) : Prop where
  c0 : countL s.ev 0 = s.sent
  c3 : countL s.ev 3 = s.taken
  c1 : countL s.ev 1 = if s.closed then 1 else 0
  c8 : countL s.ev 8 = eights s.ws
  c57 : countL s.ev 5 = countL s.ev 7 + (if s.locked = -1 then 0 else 1)
  last : ∀ i (h : i < s.ws.length), match lastL s.ev (i + 1) with
    | none => (s.ws[i]).1 = 3
    | some x => x.actor = i + 1 ∧ ((x.what = 7 ∧ (s.ws[i]).1 = 3) ∨ (x.what = 8 ∧ (s.ws[i]).1 = 8) ∨ (3 ≤ x.what ∧ x.what ≤ 6 ∧ s.ws[i] = (x.what + 1, x.job)))
theorem told_last {s s' : St} (h : Told s) (i n : Nat) (jb : Int) (x : Ev) (hi : i < s.ws.length) (hx : x.actor = i + 1) (hws : s'.ws = s.ws.set i (n, jb)) (hev : s'.ev = s.ev ++ [x])
    (hn : (x.what = 7 ∧ n = 3) ∨ (x.what = 8 ∧ n = 8) ∨ (3 ≤ x.what ∧ x.what ≤ 6 ∧ n = x.what + 1 ∧ jb = x.job)) :
    ∀ k (h : k < s'.ws.length), match lastL s'.ev (k + 1) with
    | none => (s'.ws[k]).1 = 3
    | some x => x.actor = k + 1 ∧ ((x.what = 7 ∧ (s'.ws[k]).1 = 3) ∨ (x.what = 8 ∧ (s'.ws[k]).1 = 8) ∨ (3 ≤ x.what ∧ x.what ≤ 6 ∧ s'.ws[k] = (x.what + 1, x.job))) := by
  intro k hk
  have hk' : k < s.ws.length := by rw [hws] at hk; simpa using hk
  have e : s'.ws[k] = (s.ws.set i (n, jb))[k]'(by simpa using hk') := by simp [hws]
  rw [e, hev, lastL_append, hx]
  by_cases hik : i = k
  · subst hik
    rw [if_pos rfl]
    simp only [List.getElem_set_self]
    refine ⟨hx, ?_⟩
    rcases hn with h | h | ⟨h1, h2, h3, h4⟩
    · exact .inl h
    · exact .inr (.inl h)
    · exact .inr (.inr ⟨h1, h2, by rw [h3, h4]⟩)
  · rw [if_neg (by omega), List.getElem_set_ne hik]
    exact h.last k hk'
theorem told_lead {s s' : St} (h : Told s) (x : Ev) (hx : x.actor = 0) (hws : s'.ws = s.ws) (hev : s'.ev = s.ev ++ [x]) :
    ∀ k (h : k < s'.ws.length), match lastL s'.ev (k + 1) with
    | none => (s'.ws[k]).1 = 3
    | some x => x.actor = k + 1 ∧ ((x.what = 7 ∧ (s'.ws[k]).1 = 3) ∨ (x.what = 8 ∧ (s'.ws[k]).1 = 8) ∨ (3 ≤ x.what ∧ x.what ≤ 6 ∧ s'.ws[k] = (x.what + 1, x.job))) := by
  intro k hk
  have e : s'.ws[k] = s.ws[k]'(by rw [← hws]; exact hk) := by simp [hws]
  rw [e, hev, lastL_append, hx, if_neg (by omega)]
  exact h.last k _
theorem told_step {J N : Nat} {s s' : St} {x : Ev} (hI : Inv J N s) (h : Told s) (hk : Kind s s' x) : Told s' := by
  have c0 := h.c0
  have c1 := h.c1
  have c3 := h.c3
  have c8 := h.c8
  have c57 := h.c57
  cases hk with
  | send hx hs hc he =>
    subst hx he
    have ht : s.send.taken = s.taken := by
      unfold St.taken
      show s.sent + 1 - (s.ch ++ [s.sent]).length = _
      rw [List.length_append, List.length_singleton]; omega
    have e : s.send.ev = s.ev ++ [(⟨0, 0, (s.sent : Int)⟩ : Ev)] := rfl
    refine ⟨?_, ?_, ?_, ?_, ?_, told_lead h _ rfl rfl e⟩
    · rw [e, countL_append, c0]; rfl
    · rw [e, countL_append, c3, ht]; rfl
    · rw [e, countL_append, c1]; rfl
    · rw [e, countL_append, c8]; rfl
    · rw [e, countL_append, countL_append, c57]; rfl
  | close hx hs hc he =>
    subst hx he
    have e : s.close.ev = s.ev ++ [(⟨0, 1, -1⟩ : Ev)] := rfl
    refine ⟨?_, ?_, ?_, ?_, ?_, told_lead h _ rfl rfl e⟩
    · rw [e, countL_append, c0]; rfl
    · rw [e, countL_append, c3]; rfl
    · rw [e, countL_append, c1, hc]; rfl
    · rw [e, countL_append, c8]; rfl
    · rw [e, countL_append, countL_append, c57]; rfl
  | done hx hs hc hd he =>
    subst hx he
    have e : s.done.ev = s.ev ++ [(⟨0, 2, -1⟩ : Ev)] := rfl
    refine ⟨?_, ?_, ?_, ?_, ?_, told_lead h _ rfl rfl e⟩
    · rw [e, countL_append, c0]; rfl
    · rw [e, countL_append, c3]; rfl
    · rw [e, countL_append, c1]; rfl
    · rw [e, countL_append, c8]; rfl
    · rw [e, countL_append, countL_append, c57]; rfl
  | take i j r jb hi hx hw hq he =>
    obtain ⟨hj, hr⟩ := head_taken hI hq
    have h8 := eights_set s.ws i (4, (j : Int)) hi
    rw [hw] at h8
    have e3 : eight 3 = 0 := rfl
    have e4 : eight 4 = 0 := rfl
    simp only [e3, e4] at h8
    subst hx he
    refine ⟨?_, ?_, ?_, ?_, ?_, told_last h i 4 (j : Int) ⟨i + 1, 3, (j : Int)⟩ hi rfl rfl rfl (.inr (.inr ⟨by show 3 ≤ 3; decide, by show 3 ≤ 6; decide, rfl, rfl⟩))⟩
    · show countL (s.ev ++ [_]) 0 = _; rw [countL_append, c0]; rfl
    · show countL (s.ev ++ [_]) 3 = s.sent - r.length; rw [countL_append, c3, hr]; rfl
    · show countL (s.ev ++ [_]) 1 = _; rw [countL_append, c1]; rfl
    · show countL (s.ev ++ [_]) 8 = eights (s.ws.set i (4, (j : Int))); rw [countL_append, c8, if_neg (by show ¬ 3 = 8; decide)]; omega
    · show countL (s.ev ++ [_]) 5 = countL (s.ev ++ [_]) 7 + _; rw [countL_append, countL_append, c57]; rfl
  | ended i jb hi hx hw hq hc he =>
    have h8 := eights_set s.ws i (8, jb) hi
    rw [hw] at h8
    have e3 : eight 3 = 0 := rfl
    have e4 : eight 8 = 1 := rfl
    simp only [e3, e4] at h8
    subst hx he
    refine ⟨?_, ?_, ?_, ?_, ?_, told_last h i 8 jb ⟨i + 1, 8, -1⟩ hi rfl rfl rfl (.inr (.inl ⟨rfl, rfl⟩))⟩
    · show countL (s.ev ++ [_]) 0 = _; rw [countL_append, c0]; rfl
    · show countL (s.ev ++ [_]) 3 = _; rw [countL_append, c3]; rfl
    · show countL (s.ev ++ [_]) 1 = _; rw [countL_append, c1]; rfl
    · show countL (s.ev ++ [_]) 8 = eights (s.ws.set i (8, jb)); rw [countL_append, c8, if_pos rfl]; omega
    · show countL (s.ev ++ [_]) 5 = countL (s.ev ++ [_]) 7 + _; rw [countL_append, countL_append, c57]; rfl
  | build i jb hi hx hw he =>
    have h8 := eights_set s.ws i (5, jb) hi
    rw [hw] at h8
    have e3 : eight 4 = 0 := rfl
    have e4 : eight 5 = 0 := rfl
    simp only [e3, e4] at h8
    subst hx he
    refine ⟨?_, ?_, ?_, ?_, ?_, told_last h i 5 jb ⟨i + 1, 4, jb⟩ hi rfl rfl rfl (.inr (.inr ⟨by show 3 ≤ 4; decide, by show 4 ≤ 6; decide, rfl, rfl⟩))⟩
    · show countL (s.ev ++ [_]) 0 = _; rw [countL_append, c0]; rfl
    · show countL (s.ev ++ [_]) 3 = _; rw [countL_append, c3]; rfl
    · show countL (s.ev ++ [_]) 1 = _; rw [countL_append, c1]; rfl
    · show countL (s.ev ++ [_]) 8 = eights (s.ws.set i (5, jb)); rw [countL_append, c8, if_neg (by show ¬ 4 = 8; decide)]; omega
    · show countL (s.ev ++ [_]) 5 = countL (s.ev ++ [_]) 7 + _; rw [countL_append, countL_append, c57]; rfl
  | lock i jb hi hx hw hl he =>
    have h8 := eights_set s.ws i (6, jb) hi
    rw [hw] at h8
    have e3 : eight 5 = 0 := rfl
    have e4 : eight 6 = 0 := rfl
    simp only [e3, e4] at h8
    subst hx he
    refine ⟨?_, ?_, ?_, ?_, ?_, told_last h i 6 jb ⟨i + 1, 5, jb⟩ hi rfl rfl rfl (.inr (.inr ⟨by show 3 ≤ 5; decide, by show 5 ≤ 6; decide, rfl, rfl⟩))⟩
    · show countL (s.ev ++ [_]) 0 = _; rw [countL_append, c0]; rfl
    · show countL (s.ev ++ [_]) 3 = _; rw [countL_append, c3]; rfl
    · show countL (s.ev ++ [_]) 1 = _; rw [countL_append, c1]; rfl
    · show countL (s.ev ++ [_]) 8 = eights (s.ws.set i (6, jb)); rw [countL_append, c8, if_neg (by show ¬ 5 = 8; decide)]; omega
    · show countL (s.ev ++ [_]) 5 = countL (s.ev ++ [_]) 7 + (if ((i + 1 : Nat) : Int) = -1 then 0 else 1)
      rw [countL_append, countL_append, c57, hl]
      have e1 : (if ((i + 1 : Nat) : Int) = -1 then 0 else 1) = 1 := if_neg (by omega)
      rw [e1]
      simp
  | put i jb hi hx hw hl he =>
    have h8 := eights_set s.ws i (7, jb) hi
    rw [hw] at h8
    have e3 : eight 6 = 0 := rfl
    have e4 : eight 7 = 0 := rfl
    simp only [e3, e4] at h8
    subst hx he
    refine ⟨?_, ?_, ?_, ?_, ?_, told_last h i 7 jb ⟨i + 1, 6, jb⟩ hi rfl rfl rfl (.inr (.inr ⟨by show 3 ≤ 6; decide, by show 6 ≤ 6; decide, rfl, rfl⟩))⟩
    · show countL (s.ev ++ [_]) 0 = _; rw [countL_append, c0]; rfl
    · show countL (s.ev ++ [_]) 3 = _; rw [countL_append, c3]; rfl
    · show countL (s.ev ++ [_]) 1 = _; rw [countL_append, c1]; rfl
    · show countL (s.ev ++ [_]) 8 = eights (s.ws.set i (7, jb)); rw [countL_append, c8, if_neg (by show ¬ 6 = 8; decide)]; omega
    · show countL (s.ev ++ [_]) 5 = countL (s.ev ++ [_]) 7 + _; rw [countL_append, countL_append, c57]; rfl
  | unlock i jb hi hx hw hl he =>
    have h8 := eights_set s.ws i (3, jb) hi
    rw [hw] at h8
    have e3 : eight 7 = 0 := rfl
    have e4 : eight 3 = 0 := rfl
    simp only [e3, e4] at h8
    subst hx he
    refine ⟨?_, ?_, ?_, ?_, ?_, told_last h i 3 jb ⟨i + 1, 7, jb⟩ hi rfl rfl rfl (.inl ⟨rfl, rfl⟩)⟩
    · show countL (s.ev ++ [_]) 0 = _; rw [countL_append, c0]; rfl
    · show countL (s.ev ++ [_]) 3 = _; rw [countL_append, c3]; rfl
    · show countL (s.ev ++ [_]) 1 = _; rw [countL_append, c1]; rfl
    · show countL (s.ev ++ [_]) 8 = eights (s.ws.set i (3, jb)); rw [countL_append, c8, if_neg (by show ¬ 7 = 8; decide)]; omega
    · show countL (s.ev ++ [_]) 5 = countL (s.ev ++ [_]) 7 + 0
      rw [countL_append, countL_append, c57, hl]
      have e1 : (if ((i + 1 : Nat) : Int) = -1 then 0 else 1) = 1 := if_neg (by omega)
      rw [e1]
      simp
theorem told_start (J N : Nat) : Told (start J N) := by
  refine ⟨rfl, rfl, rfl, ?_, rfl, fun i h => ?_⟩
  · have : eights (List.replicate N ((3 : Nat), (-1 : Int))) = 0 := by simp [eights, eight]
    show 0 = eights (List.replicate N ((3 : Nat), (-1 : Int)))
    rw [this]
  · have h' : i < (List.replicate N ((3 : Nat), (-1 : Int))).length := h
    have e : (List.replicate N ((3 : Nat), (-1 : Int)))[i]'h' = (3, -1) := List.getElem_replicate _
    show ((List.replicate N ((3 : Nat), (-1 : Int)))[i]'h').1 = 3
    rw [e]
theorem run_told (J N : Nat) (hN : 1 ≤ N) (picks : List Int) : ∀ k, k < 6 * J + N + 2 → Told (runK J N picks k) := by
  intro k
  induction k with
  | zero => intro _; exact told_start J N
  | succ k ih =>
    intro hk
    have ht := run_trace J N hN picks
    exact told_step (run_inv J N hN picks k (by omega)).1 (ih (by omega)) (ht.kind k (by rw [ht.length]; omega))
end Go.Proofs.Ytfokjemoolgojaa

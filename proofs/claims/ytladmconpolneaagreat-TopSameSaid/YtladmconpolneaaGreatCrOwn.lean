/- The crew as plain Lean: who has which job; which jobs were put. -/
import Derived.Test.YtladmconpolneaaGreatCrTrace
import Derived.Test.YtladmconpolneaaGreatCrAwake
set_option linter.unusedVariables false
set_option linter.unusedSimpArgs false
namespace Go.Proofs.YtladmconpolneaaGreat.Cr
def St.taken (s : St) : Nat := s.sent - s.ch.length
structure Own (s : St) : Prop where
  job : ∀ i (h : i < s.ws.length), 4 ≤ (s.ws[i]).1 → (s.ws[i]).1 ≤ 7 → ∃ j : Nat, (s.ws[i]).2 = j ∧ j < s.taken
  apart : ∀ i k (h : i < s.ws.length) (h' : k < s.ws.length), 4 ≤ (s.ws[i]).1 → (s.ws[i]).1 ≤ 7 → 4 ≤ (s.ws[k]).1 → (s.ws[k]).1 ≤ 7 → (s.ws[i]).2 = (s.ws[k]).2 → i = k
/-- A worker's step with its own job. -/
theorem own_set {s s' : St} (h : Own s) (i : Nat) (hi : i < s.ws.length) (n n' : Nat) (jb : Int) (hw : s.ws[i] = (n, jb)) (hn : (4 ≤ n ∧ n ≤ 7) ∨ ¬ (4 ≤ n' ∧ n' ≤ 7)) (hws : s'.ws = s.ws.set i (n', jb)) (ht : s'.taken = s.taken) : Own s' := by
  have key : ∀ k (hk : k < s'.ws.length), ∃ hk' : k < s.ws.length, (k = i ∧ s'.ws[k] = (n', jb)) ∨ (k ≠ i ∧ s'.ws[k] = s.ws[k]) := by
    intro k hk
    have hk' : k < s.ws.length := by rw [hws] at hk; simpa using hk
    refine ⟨hk', ?_⟩
    have e : s'.ws[k] = (s.ws.set i (n', jb))[k]'(by simpa using hk') := by simp [hws]
    rw [e, List.getElem_set]
    by_cases hik : i = k
    · subst hik; rw [if_pos rfl]; exact .inl ⟨rfl, rfl⟩
    · rw [if_neg hik]; exact .inr ⟨fun e => hik e.symm, rfl⟩
  refine ⟨fun k hk h4 h7 => ?_, fun k l hk hl a1 a2 a3 a4 he => ?_⟩
  · obtain ⟨hk', ⟨rfl, e⟩ | ⟨hne, e⟩⟩ := key k hk
    · rw [e] at h4 h7 ⊢
      rw [ht]
      have := h.job k hk'
      rw [hw] at this
      exact this (by rcases hn with h | h; exact h.1; exact absurd ⟨h4, h7⟩ h) (by rcases hn with h | h; exact h.2; exact absurd ⟨h4, h7⟩ h)
    · rw [e] at h4 h7 ⊢
      rw [ht]; exact h.job k hk' h4 h7
  · obtain ⟨hk', h1⟩ := key k hk
    obtain ⟨hl', h2⟩ := key l hl
    have hb : ∀ (q : Nat) (hq : q < s.ws.length), q = i → (n', jb) = s'.ws[k]'hk ∨ (n', jb) = s'.ws[l]'hl → 4 ≤ (s.ws[q]).1 ∧ (s.ws[q]).1 ≤ 7 := by
      intro q hq hqi ho
      subst hqi
      rw [hw]
      rcases hn with h | h
      · exact h
      · exfalso
        rcases ho with ho | ho
        · rw [← ho] at a1 a2; exact h ⟨a1, a2⟩
        · rw [← ho] at a3 a4; exact h ⟨a3, a4⟩
    have jk : (s'.ws[k]).2 = (s.ws[k]).2 := by
      rcases h1 with ⟨rfl, e⟩ | ⟨_, e⟩
      · rw [e, hw]
      · rw [e]
    have jl : (s'.ws[l]).2 = (s.ws[l]).2 := by
      rcases h2 with ⟨rfl, e⟩ | ⟨_, e⟩
      · rw [e, hw]
      · rw [e]
    have bk : 4 ≤ (s.ws[k]).1 ∧ (s.ws[k]).1 ≤ 7 := by
      rcases h1 with ⟨hki, e⟩ | ⟨_, e⟩
      · exact hb k hk' hki (.inl e.symm)
      · rw [e] at a1 a2; exact ⟨a1, a2⟩
    have bl : 4 ≤ (s.ws[l]).1 ∧ (s.ws[l]).1 ≤ 7 := by
      rcases h2 with ⟨hki, e⟩ | ⟨_, e⟩
      · exact hb l hl' hki (.inr e.symm)
      · rw [e] at a3 a4; exact ⟨a3, a4⟩
    rw [jk, jl] at he
    exact h.apart k l hk' hl' bk.1 bk.2 bl.1 bl.2 he
theorem head_taken {J N : Nat} {s : St} (hi : Inv J N s) {j : Nat} {r : List Nat} (hq : s.ch = j :: r) : j = s.taken ∧ s.sent - r.length = s.taken + 1 := by
  have hch := hi.ch
  have hsq := hi.sq
  unfold St.taken
  rw [hq] at hch hsq ⊢
  rw [List.length_cons] at hch hsq ⊢
  rw [List.range'_succ] at hch
  injection hch with h1 h2
  exact ⟨h1, by omega⟩
theorem own_step {J N : Nat} {s s' : St} {x : Ev} (hi : Inv J N s) (h : Own s) (hk : Kind s s' x) : Own s' := by
  cases hk with
  | send hx hs hc he =>
    subst he
    have ht : s.send.taken = s.taken := by
      unfold St.taken
      show s.sent + 1 - (s.ch ++ [s.sent]).length = _
      rw [List.length_append, List.length_singleton]; omega
    exact ⟨fun i h1 h4 h7 => by rw [ht]; exact h.job i h1 h4 h7, h.apart⟩
  | close hx hs hc he => subst he; exact ⟨h.job, h.apart⟩
  | done hx hs hc hd he => subst he; exact ⟨h.job, h.apart⟩
  | take i j r jb hi' hx hw hq he =>
    obtain ⟨hj, hr⟩ := head_taken hi hq
    subst he
    have ht : ({ s with ws := s.ws.set i (4, (j : Int)), ch := r, ev := s.ev ++ [⟨i + 1, 3, (j : Int)⟩] } : St).taken = s.taken + 1 := hr
    refine ⟨fun k hk h4 h7 => ?_, fun k l hk hl a1 a2 a3 a4 he => ?_⟩
    · rw [ht]
      have hk' : k < s.ws.length := by simpa using hk
      change 4 ≤ ((s.ws.set i (4, (j : Int)))[k]).1 at h4
      change ((s.ws.set i (4, (j : Int)))[k]).1 ≤ 7 at h7
      show ∃ j' : Nat, ((s.ws.set i (4, (j : Int)))[k]).2 = j' ∧ _
      by_cases hik : i = k
      · subst hik
        simp only [List.getElem_set_self] at h4 h7 ⊢
        exact ⟨j, rfl, by omega⟩
      · rw [List.getElem_set_ne hik] at h4 h7 ⊢
        obtain ⟨q, e, hq⟩ := h.job k hk' h4 h7
        exact ⟨q, e, by omega⟩
    · have hk' : k < s.ws.length := by simpa using hk
      have hl' : l < s.ws.length := by simpa using hl
      change 4 ≤ ((s.ws.set i (4, (j : Int)))[k]).1 at a1
      change ((s.ws.set i (4, (j : Int)))[k]).1 ≤ 7 at a2
      change 4 ≤ ((s.ws.set i (4, (j : Int)))[l]).1 at a3
      change ((s.ws.set i (4, (j : Int)))[l]).1 ≤ 7 at a4
      change ((s.ws.set i (4, (j : Int)))[k]).2 = ((s.ws.set i (4, (j : Int)))[l]).2 at he
      by_cases hik : i = k
      · by_cases hil : i = l
        · omega
        · subst hik
          rw [List.getElem_set_ne hil] at a3 a4 he
          simp only [List.getElem_set_self] at he
          obtain ⟨q, e, hq⟩ := h.job l hl' a3 a4
          rw [e] at he; omega
      · by_cases hil : i = l
        · subst hil
          rw [List.getElem_set_ne hik] at a1 a2 he
          simp only [List.getElem_set_self] at he
          obtain ⟨q, e, hq⟩ := h.job k hk' a1 a2
          rw [e] at he; omega
        · rw [List.getElem_set_ne hik] at a1 a2 he
          rw [List.getElem_set_ne hil] at a3 a4 he
          exact h.apart k l hk' hl' a1 a2 a3 a4 he
  | ended i jb hi' hx hw hq hc he => subst he; exact own_set h i hi' 3 8 jb hw (.inr (by omega)) rfl rfl
  | build i jb hi' hx hw he => subst he; exact own_set h i hi' 4 5 jb hw (.inl (by omega)) rfl rfl
  | lock i jb hi' hx hw hl he => subst he; exact own_set h i hi' 5 6 jb hw (.inl (by omega)) rfl rfl
  | put i jb hi' hx hw hl he => subst he; exact own_set h i hi' 6 7 jb hw (.inl (by omega)) rfl rfl
  | unlock i jb hi' hx hw hl he => subst he; exact own_set h i hi' 7 3 jb hw (.inr (by omega)) rfl rfl
theorem own_start (J N : Nat) : Own (start J N) := by
  refine ⟨fun i h h4 => ?_, fun i k h h' h4 => ?_⟩
  · simp [start] at h4
  · simp [start] at h4
theorem run_own (J N : Nat) (hN : 1 ≤ N) (picks : List Int) : ∀ k, k ≤ 6 * J + N + 2 → Own (runK J N picks k) := by
  intro k
  induction k with
  | zero => intro _; exact own_start J N
  | succ k ih =>
    intro hk
    have ht := run_trace J N hN picks
    exact own_step (run_inv J N hN picks k (by omega)).1 (ih (by omega)) (ht.kind k (by rw [ht.length]; omega))
/-! ### which jobs were put -/
theorem orderL_append (l : List Ev) (x : Ev) : orderL (l ++ [x]) = orderL l ++ (if x.what = 6 then [x.job] else []) := by
  unfold orderL
  rw [List.filter_append, List.map_append]
  congr 1
  by_cases h6 : x.what = 6 <;> simp [h6]
def busy (n : Nat) : Nat := if 4 ≤ n ∧ n ≤ 6 then 1 else 0
def busies (ws : List (Nat × Int)) : Nat := (ws.map fun w => busy w.1).sum
theorem busies_set (ws : List (Nat × Int)) (i : Nat) (x : Nat × Int) (h : i < ws.length) : busies (ws.set i x) + busy (ws[i]).1 = busies ws + busy x.1 := by
  unfold busies
  rw [List.map_set]
  have := sum_set (ws.map fun w => busy w.1) i (busy x.1) (by simpa using h)
  simpa using this
structure Ord (s : St) : Prop where
  nodup : (orderL s.ev).Nodup
  mem : ∀ p ∈ orderL s.ev, ∃ j : Nat, p = j ∧ j < s.taken
  before : ∀ i (h : i < s.ws.length), 4 ≤ (s.ws[i]).1 → (s.ws[i]).1 ≤ 6 → (s.ws[i]).2 ∉ orderL s.ev
  count : (orderL s.ev).length + busies s.ws = s.taken
  one : s.ws.length = 1 → (∀ i (h : i < (orderL s.ev).length), (orderL s.ev)[i] = (i : Int)) ∧ ∀ h : 0 < s.ws.length, 4 ≤ (s.ws[0]).1 → (s.ws[0]).1 ≤ 6 → (s.ws[0]).2 + 1 = s.taken
/-- A worker's step that puts nothing. -/
theorem ord_set {s s' : St} (h : Ord s) (i : Nat) (hi : i < s.ws.length) (n n' : Nat) (jb : Int) (hw : s.ws[i] = (n, jb)) (hn : busy n' = busy n) (hws : s'.ws = s.ws.set i (n', jb)) (ht : s'.taken = s.taken) (ho : orderL s'.ev = orderL s.ev) : Ord s' := by
  have hbz : busies s'.ws = busies s.ws := by
    have := busies_set s.ws i (n', jb) hi
    rw [hw] at this
    simp only at this
    rw [hws]; omega
  have hb : ∀ m, (4 ≤ m ∧ m ≤ 6) ↔ busy m = 1 := fun m => by unfold busy; split <;> simp_all
  have key : ∀ k (hk : k < s'.ws.length), ∃ hk' : k < s.ws.length, (s'.ws[k]).2 = (s.ws[k]).2 ∧ ((4 ≤ (s'.ws[k]).1 ∧ (s'.ws[k]).1 ≤ 6) → (4 ≤ (s.ws[k]).1 ∧ (s.ws[k]).1 ≤ 6)) := by
    intro k hk
    have hk' : k < s.ws.length := by rw [hws] at hk; simpa using hk
    refine ⟨hk', ?_⟩
    have e : s'.ws[k] = (s.ws.set i (n', jb))[k]'(by simpa using hk') := by simp [hws]
    by_cases hik : i = k
    · subst hik
      rw [e]
      simp only [List.getElem_set_self]
      rw [hw]
      exact ⟨rfl, fun h => by rw [hb] at h ⊢; rw [← hn]; exact h⟩
    · rw [e, List.getElem_set_ne hik]; exact ⟨rfl, fun h => h⟩
  refine ⟨by rw [ho]; exact h.nodup, by rw [ho, ht]; exact h.mem, fun k hk h4 h6 => ?_, by rw [ho, hbz, ht]; exact h.count, fun hl => ?_⟩
  · obtain ⟨hk', e, hh⟩ := key k hk
    have := hh ⟨h4, h6⟩
    rw [ho, e]; exact h.before k hk' this.1 this.2
  · have hl' : s.ws.length = 1 := by rw [hws] at hl; simpa using hl
    obtain ⟨o1, o2⟩ := h.one hl'
    refine ⟨fun k hk => ?_, fun h0 h4 h6 => ?_⟩
    · simp only [ho] at hk ⊢; exact o1 k hk
    · obtain ⟨hk', e, hh⟩ := key 0 h0
      have := hh ⟨h4, h6⟩
      rw [e, ht]; exact o2 hk' this.1 this.2
theorem ord_step {J N : Nat} {s s' : St} {x : Ev} (hi : Inv J N s) (ho : Own s) (h : Ord s) (hk : Kind s s' x) : Ord s' := by
  have ap : ∀ y : Ev, y.what ≠ 6 → orderL (s.ev ++ [y]) = orderL s.ev := fun y hy => by rw [orderL_append, if_neg hy, List.append_nil]
  cases hk with
  | send hx hs hc he =>
    subst he
    have ht : s.send.taken = s.taken := by
      unfold St.taken
      show s.sent + 1 - (s.ch ++ [s.sent]).length = _
      rw [List.length_append, List.length_singleton]; omega
    have e : orderL s.send.ev = orderL s.ev := ap _ (by simp)
    exact ⟨by rw [e]; exact h.nodup, by rw [e, ht]; exact h.mem, fun i a b c => by rw [e]; exact h.before i a b c, by rw [e, ht]; exact h.count, fun hl => ⟨fun i hi => by simp only [e] at hi ⊢; exact (h.one hl).1 i hi, fun h0 h4 h6 => by rw [ht]; exact (h.one hl).2 h0 h4 h6⟩⟩
  | close hx hs hc he =>
    subst he
    have e : orderL s.close.ev = orderL s.ev := ap _ (by decide)
    exact ⟨by rw [e]; exact h.nodup, by rw [e]; exact h.mem, fun i a b c => by rw [e]; exact h.before i a b c, by rw [e]; exact h.count, fun hl => ⟨fun i hi => by simp only [e] at hi ⊢; exact (h.one hl).1 i hi, (h.one hl).2⟩⟩
  | done hx hs hc hd he =>
    subst he
    have e : orderL s.done.ev = orderL s.ev := ap _ (by decide)
    exact ⟨by rw [e]; exact h.nodup, by rw [e]; exact h.mem, fun i a b c => by rw [e]; exact h.before i a b c, by rw [e]; exact h.count, fun hl => ⟨fun i hi => by simp only [e] at hi ⊢; exact (h.one hl).1 i hi, (h.one hl).2⟩⟩
  | take i j r jb hi' hx hw hq he =>
    obtain ⟨hj, hr⟩ := head_taken hi hq
    subst he
    have ht : ({ s with ws := s.ws.set i (4, (j : Int)), ch := r, ev := s.ev ++ [⟨i + 1, 3, (j : Int)⟩] } : St).taken = s.taken + 1 := hr
    have e : orderL (s.ev ++ [(⟨i + 1, 3, (j : Int)⟩ : Ev)]) = orderL s.ev := ap _ (by simp)
    have hbz := busies_set s.ws i (4, (j : Int)) hi'
    rw [hw] at hbz
    have b3 : busy 3 = 0 := rfl
    have b4 : busy 4 = 1 := rfl
    simp only [b3, b4] at hbz
    refine ⟨?_, ?_, ?_, ?_, ?_⟩
    · show (orderL (s.ev ++ [_])).Nodup; rw [e]; exact h.nodup
    · show ∀ p ∈ orderL (s.ev ++ [_]), _
      rw [e, ht]
      intro p hp
      obtain ⟨q, e1, e2⟩ := h.mem p hp
      exact ⟨q, e1, by omega⟩
    · intro k hk h4 h6
      have hk' : k < s.ws.length := by simpa using hk
      change 4 ≤ ((s.ws.set i (4, (j : Int)))[k]).1 at h4
      change ((s.ws.set i (4, (j : Int)))[k]).1 ≤ 6 at h6
      show ((s.ws.set i (4, (j : Int)))[k]).2 ∉ orderL (s.ev ++ [_])
      rw [e]
      by_cases hik : i = k
      · subst hik
        simp only [List.getElem_set_self]
        intro hp
        obtain ⟨q, e1, e2⟩ := h.mem _ hp
        omega
      · rw [List.getElem_set_ne hik] at h4 h6 ⊢
        exact h.before k hk' h4 h6
    · show (orderL (s.ev ++ [_])).length + busies (s.ws.set i (4, (j : Int))) = _
      rw [e, ht]
      have := h.count
      omega
    · intro hl
      have hl' : s.ws.length = 1 := by simpa using hl
      refine ⟨fun k hk => ?_, fun h0 h4 h6 => ?_⟩
      · change k < (orderL (s.ev ++ [(⟨i + 1, 3, (j : Int)⟩ : Ev)])).length at hk
        show (orderL (s.ev ++ [(⟨i + 1, 3, (j : Int)⟩ : Ev)]))[k] = _
        simp only [e] at hk ⊢
        exact (h.one hl').1 k hk
      · rw [ht]
        have h00 : i = 0 := by omega
        subst h00
        show ((s.ws.set 0 (4, (j : Int)))[0]).2 + 1 = _
        simp only [List.getElem_set_self]
        omega
  | ended i jb hi' hx hw hq hc he => subst he; exact ord_set h i hi' 3 8 jb hw rfl rfl rfl (ap _ (by simp))
  | build i jb hi' hx hw he => subst he; exact ord_set h i hi' 4 5 jb hw rfl rfl rfl (ap _ (by simp))
  | lock i jb hi' hx hw hl he => subst he; exact ord_set h i hi' 5 6 jb hw rfl rfl rfl (ap _ (by simp))
  | unlock i jb hi' hx hw hl he => subst he; exact ord_set h i hi' 7 3 jb hw rfl rfl rfl (ap _ (by simp))
  | put i jb hi' hx hw hl he =>
    subst he
    have e : orderL (s.ev ++ [(⟨i + 1, 6, jb⟩ : Ev)]) = orderL s.ev ++ [jb] := by rw [orderL_append, if_pos rfl]
    have hbz := busies_set s.ws i (7, jb) hi'
    rw [hw] at hbz
    have b6 : busy 6 = 1 := rfl
    have b7 : busy 7 = 0 := rfl
    simp only [b6, b7] at hbz
    have hjob := ho.job i hi'
    have hbef := h.before i hi'
    rw [hw] at hjob hbef
    obtain ⟨j, rfl, hjt⟩ := hjob (by simp) (by simp)
    have hnot := hbef (by simp) (by simp)
    simp only at hnot
    refine ⟨?_, ?_, ?_, ?_, ?_⟩
    · show (orderL (s.ev ++ [_])).Nodup
      rw [e, List.nodup_append]
      refine ⟨h.nodup, by simp, ?_⟩
      intro a ha b hb
      simp at hb
      subst hb
      intro hab
      subst hab
      exact hnot ha
    · show ∀ p ∈ orderL (s.ev ++ [_]), _
      rw [e]
      intro p hp
      rw [List.mem_append] at hp
      rcases hp with hp | hp
      · exact h.mem p hp
      · simp at hp; exact ⟨j, hp, hjt⟩
    · intro k hk h4 h6
      have hk' : k < s.ws.length := by simpa using hk
      change 4 ≤ ((s.ws.set i (7, (j : Int)))[k]).1 at h4
      change ((s.ws.set i (7, (j : Int)))[k]).1 ≤ 6 at h6
      show ((s.ws.set i (7, (j : Int)))[k]).2 ∉ orderL (s.ev ++ [_])
      rw [e]
      by_cases hik : i = k
      · subst hik
        simp only [List.getElem_set_self] at h6
        omega
      · rw [List.getElem_set_ne hik] at h4 h6 ⊢
        rw [List.mem_append]
        rintro (hp | hp)
        · exact h.before k hk' h4 h6 hp
        · simp at hp
          have := ho.apart k i hk' hi' h4 (by omega) (by rw [hw]; simp) (by rw [hw]; simp) (by rw [hw]; exact hp)
          omega
    · show (orderL (s.ev ++ [_])).length + busies (s.ws.set i (7, (j : Int))) = s.taken
      rw [e, List.length_append, List.length_singleton]
      have := h.count
      omega
    · intro hl
      have hl' : s.ws.length = 1 := by simpa using hl
      obtain ⟨o1, o2⟩ := h.one hl'
      have h00 : i = 0 := by omega
      subst h00
      have hb1 : busies s.ws = 1 := by
        obtain ⟨y, hy⟩ : ∃ y, s.ws = [y] := List.length_eq_one_iff.1 hl'
        have : s.ws[0] = y := by simp [hy]
        rw [hw] at this
        rw [hy, ← this]; rfl
      have hc := h.count
      have ho2 := o2 hi'
      rw [hw] at ho2
      have hj := ho2 (by simp) (by simp)
      simp only at hj
      refine ⟨fun k hk => ?_, fun h0 h4 h6 => ?_⟩
      · change k < (orderL (s.ev ++ [(⟨0 + 1, 6, (j : Int)⟩ : Ev)])).length at hk
        show (orderL (s.ev ++ [(⟨0 + 1, 6, (j : Int)⟩ : Ev)]))[k] = _
        simp only [e] at hk ⊢
        rw [List.length_append, List.length_singleton] at hk
        rcases Nat.lt_or_ge k (orderL s.ev).length with hlt | hge
        · rw [List.getElem_append_left hlt]; exact o1 k hlt
        · rw [List.getElem_append_right hge]
          simp
          omega
      · exfalso
        change ((s.ws.set 0 (7, (j : Int)))[0]).1 ≤ 6 at h6
        simp at h6
theorem run_ord (J N : Nat) (hN : 1 ≤ N) (picks : List Int) : ∀ k, k ≤ 6 * J + N + 2 → Ord (runK J N picks k) := by
  intro k
  induction k with
  | zero =>
    intro _
    refine ⟨List.nodup_nil, fun p hp => (by cases hp), fun i h h4 => ?_, ?_, fun hl => ⟨fun i hi => (by cases hi), fun h0 h4 => ?_⟩⟩
    · simp [runK, start] at h4
    · have : busies (List.replicate N ((3 : Nat), (-1 : Int))) = 0 := by simp [busies, busy]
      show 0 + busies (List.replicate N ((3 : Nat), (-1 : Int))) = 0
      rw [this]
    · simp [runK, start] at h4
  | succ k ih =>
    intro hk
    have ht := run_trace J N hN picks
    exact ord_step (run_inv J N hN picks k (by omega)).1 (run_own J N hN picks k (by omega)) (ih (by omega)) (ht.kind k (by rw [ht.length]; omega))
/-- The jobs that are put are all jobs, each once. -/
theorem order_final (J N : Nat) (hN : 1 ≤ N) (picks : List Int) (o : List Int) (ho : orderL (runK J N picks (6 * J + N + 2)).ev = o) :
    o.length = J ∧ o.Nodup ∧ (∀ p ∈ o, 0 ≤ p ∧ p < (J : Int)) ∧ (N = 1 → ∀ i (h : i < o.length), o[i] = (i : Int)) := by
  have h1 := run_ord J N hN picks _ (Nat.le_refl _)
  have hf := run_final J N hN picks
  have ht : (runK J N picks (6 * J + N + 2)).taken = J := by unfold St.taken; rw [hf.sent, hf.ch]; simp
  have hb : busies (runK J N picks (6 * J + N + 2)).ws = 0 := by
    have : ∀ ws : List (Nat × Int), (∀ i (h : i < ws.length), (ws[i]).1 = 8) → busies ws = 0 := by
      intro ws
      induction ws with
      | nil => intro _; rfl
      | cons x l ih =>
        intro h
        have h0 := h 0 (by simp)
        have := ih fun i hi => h (i + 1) (by simpa using hi)
        unfold busies at this ⊢
        simp at h0 this ⊢
        exact ⟨by rw [h0]; rfl, this⟩
    exact this _ hf.ended
  have hc := h1.count
  rw [ht, hb, ho] at hc
  refine ⟨by omega, by rw [← ho]; exact h1.nodup, fun p hp => ?_, fun h => ?_⟩
  · obtain ⟨j, e1, e2⟩ := h1.mem p (by rw [ho]; exact hp)
    omega
  · have := (h1.one (by rw [hf.len]; exact h)).1
    simpa only [ho] using this
end Go.Proofs.YtladmconpolneaaGreat.Cr

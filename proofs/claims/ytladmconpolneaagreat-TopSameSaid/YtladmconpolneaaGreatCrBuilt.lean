/- Each job is built ahead of its put. Plain Lean. -/
import Derived.Test.YtladmconpolneaaGreatCrOwn
set_option linter.unusedVariables false
set_option linter.unusedSimpArgs false
namespace Go.Proofs.YtladmconpolneaaGreat.Cr
structure Bu (s : St) : Prop where
  ws : ∀ i (h : i < s.ws.length), (s.ws[i]).1 = 5 ∨ (s.ws[i]).1 = 6 → ∃ x ∈ s.ev, x.what = 4 ∧ x.job = (s.ws[i]).2
  put : ∀ (a : List Ev) (x : Ev) (b : List Ev), s.ev = a ++ x :: b → x.what = 6 → ∃ y ∈ a, y.what = 4 ∧ y.job = x.job
theorem bu_ev {s s' : St} {x : Ev} (h : Bu s) (he : s'.ev = s.ev ++ [x]) (hx : x.what = 6 → ∃ y ∈ s.ev, y.what = 4 ∧ y.job = x.job)
    (hw : ∀ i (h : i < s'.ws.length), (s'.ws[i]).1 = 5 ∨ (s'.ws[i]).1 = 6 → ∃ y ∈ s.ev ++ [x], y.what = 4 ∧ y.job = (s'.ws[i]).2) : Bu s' := by
  refine ⟨fun i hi hn => by rw [he]; exact hw i hi hn, fun a y b hab hy => ?_⟩
  rw [he] at hab
  rcases List.eq_nil_or_concat b with rfl | ⟨b', z, rfl⟩
  · have h1 := List.append_inj' hab rfl
    obtain ⟨rfl, h2⟩ := h1
    injection h2 with h2 _
    subst h2
    exact hx hy
  · have h1 : s.ev ++ [x] = (a ++ y :: b') ++ [z] := by rw [hab]; simp
    have h2 := List.append_inj' h1 rfl
    exact h.put a y b' h2.1 hy
theorem bu_ws {s : St} {x : Ev} (h : Bu s) (i n : Nat) (jb : Int) (hi : i < s.ws.length) (hn : n = 5 ∨ n = 6 → ∃ y ∈ s.ev ++ [x], y.what = 4 ∧ y.job = jb) :
    ∀ k (hk : k < (s.ws.set i (n, jb)).length), ((s.ws.set i (n, jb))[k]).1 = 5 ∨ ((s.ws.set i (n, jb))[k]).1 = 6 → ∃ y ∈ s.ev ++ [x], y.what = 4 ∧ y.job = ((s.ws.set i (n, jb))[k]).2 := by
  intro k hk hh
  rw [List.getElem_set] at hh ⊢
  split at hh
  · rename_i e
    rw [if_pos e]
    exact hn hh
  · rename_i e
    rw [if_neg e]
    obtain ⟨y, h1, h2⟩ := h.ws k (by simpa using hk) hh
    exact ⟨y, List.mem_append_left _ h1, h2⟩
theorem bu_step {s s' : St} {x : Ev} (h : Bu s) (hk : Kind s s' x) : Bu s' := by
  have hold : ∀ {y : Ev} i (hi : i < s.ws.length), (s.ws[i]).1 = 5 ∨ (s.ws[i]).1 = 6 → ∃ z ∈ s.ev ++ [y], z.what = 4 ∧ z.job = (s.ws[i]).2 := fun i hi hn => by
    obtain ⟨y, h1, h2⟩ := h.ws i hi hn
    exact ⟨y, List.mem_append_left _ h1, h2⟩
  cases hk with
  | send hx h1 h2 h3 => subst h3; exact bu_ev h (x := ⟨0, 0, (s.sent : Int)⟩) rfl (by simp) hold
  | close hx h1 h2 h3 => subst h3; exact bu_ev h (x := ⟨0, 1, -1⟩) rfl (by simp) hold
  | done hx h1 h2 h3 h4 => subst h4; exact bu_ev h (x := ⟨0, 2, -1⟩) rfl (by simp) hold
  | take i j r jb hi hx h1 h2 h3 => subst h3; exact bu_ev h rfl (by simp) (bu_ws h i 4 (j : Int) hi (by omega))
  | ended i jb hi hx h1 h2 h3 h4 => subst h4; exact bu_ev h rfl (by simp) (bu_ws h i 8 jb hi (by omega))
  | build i jb hi hx h1 h2 => subst h2; exact bu_ev h rfl (by simp) (bu_ws h i 5 jb hi (fun _ => ⟨⟨i + 1, 4, jb⟩, List.mem_append_right _ (by simp), rfl, rfl⟩))
  | lock i jb hi hx h1 h2 h3 =>
    subst h3
    refine bu_ev h rfl (by simp) (bu_ws h i 6 jb hi (fun _ => ?_))
    have := hold (y := ⟨i + 1, 5, jb⟩) i hi (by rw [h1]; exact .inl rfl)
    rw [h1] at this
    exact this
  | put i jb hi hx h1 h2 h3 =>
    subst h3
    refine bu_ev h rfl (fun _ => ?_) (bu_ws h i 7 jb hi (by omega))
    have := h.ws i hi (by rw [h1]; exact .inr rfl)
    rw [h1] at this
    exact this
  | unlock i jb hi hx h1 h2 h3 => subst h3; exact bu_ev h rfl (by simp) (bu_ws h i 3 jb hi (by omega))
theorem run_bu (J N : Nat) (hN : 1 ≤ N) (picks : List Int) : ∀ k, k ≤ 6 * J + N + 2 → Bu (runK J N picks k) := by
  intro k
  induction k with
  | zero =>
    intro _
    refine ⟨fun i hi hn => ?_, fun a x b hab => ?_⟩
    · simp [runK, start] at hi hn
    · simp [runK, start] at hab
  | succ k ih =>
    intro hk
    have ht := run_trace J N hN picks
    exact bu_step (ih (by omega)) (ht.kind k (by rw [ht.length]; omega))
/-- Builds are of jobs. -/
theorem run_jobs (J N : Nat) (hN : 1 ≤ N) (picks : List Int) : ∀ k, k ≤ 6 * J + N + 2 → ∀ x ∈ (runK J N picks k).ev, x.what = 4 → ∃ j : Nat, x.job = j ∧ j < J := by
  intro k
  induction k with
  | zero => intro _ x hx; simp [runK, start] at hx
  | succ k ih =>
    intro hk x hx hw
    have ht := run_trace J N hN picks
    have hi := (run_inv J N hN picks k (by omega)).1
    have ho := run_own J N hN picks k (by omega)
    have e1 := ht.ev (k + 1) hk
    have e0 := ht.ev k (by omega)
    have hl : k < (runK J N picks (6 * J + N + 2)).ev.length := by rw [ht.length]; omega
    rw [e1, List.take_succ_eq_append_getElem hl, List.mem_append] at hx
    rcases hx with hx | hx
    · exact ih (by omega) x (by rw [e0]; exact hx) hw
    · have hx : x = (runK J N picks (6 * J + N + 2)).ev[k] := by simpa using hx
      have hkd := ht.kind k hl
      rw [← hx] at hkd
      cases hkd with
      | build i jb hi' hx1 h1 h2 =>
        obtain ⟨j, e, hj⟩ := ho.job i hi' (by rw [h1]; show 4 ≤ 4; omega) (by rw [h1]; show 4 ≤ 7; omega)
        rw [h1] at e
        refine ⟨j, by rw [hx1]; exact e, ?_⟩
        have := hi.sent
        unfold St.taken at hj
        omega
      | send hx1 => rw [hx1] at hw; cases hw
      | close hx1 => rw [hx1] at hw; cases hw
      | done hx1 => rw [hx1] at hw; cases hw
      | take i j r jb hi hx1 => rw [hx1] at hw; cases hw
      | ended i jb hi hx1 => rw [hx1] at hw; cases hw
      | lock i jb hi hx1 => rw [hx1] at hw; cases hw
      | put i jb hi hx1 => rw [hx1] at hw; cases hw
      | unlock i jb hi hx1 => rw [hx1] at hw; cases hw
end Go.Proofs.YtladmconpolneaaGreat.Cr

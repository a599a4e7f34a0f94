/- The walk of crew.Run. -/
import Derived.Test.YtladmconpolneaaGreatCrWorks
import Derived.Test.YtladmconpolneaaGreatCrInv
set_option linter.unusedVariables false
set_option linter.unusedSimpArgs false
namespace Go.Proofs.YtladmconpolneaaGreat.Cr
open Go.RowKit
theorem Tryz.info305 : (Tryz.prog.info? 305).map (fun i => (i.zero, i.size, i.bytes)) = some (some (.agg #[.int .i64 0, .int .i64 0]), 2, 16) := by kernel_rfl
def intsV (zs : List Int) : List Value := zs.map fun z => .int .i64 z
theorem work_any (B C Wb : Nat) (s : St) (vch vev : Value) (i a : Nat) (w : World) (h : CrewAt w B C Wb s vch vev) (hB : B ≤ w.heap.size) (hl : s.ev.length ≤ 100000) (hi : i < s.ws.length) (ha : a = i + 1) (hn : s.ws.length ≤ 64) (hch : s.ch.length ≤ 1000)
    (hnx : 3 ≤ (s.ws[i]).1 ∧ (s.ws[i]).1 ≤ 7) :
    Calls Tryz.prog 185 #[.pointer (some ⟨C, 0, none⟩), .int .i64 (a : Int)] w (ThenPost B C Wb (s.work a) w) := by
  subst ha
  have hw := w_eq s i hi
  obtain ⟨nx, jb⟩ : Nat × Int := s.ws[i]
  unfold St.work
  rw [hw, Nat.add_sub_cancel]
  obtain ⟨nx, jb, hx⟩ : ∃ nx jb, s.ws[i] = (nx, jb) := ⟨_, _, rfl⟩
  rw [hx] at hnx ⊢
  rcases (show nx = 3 ∨ nx = 4 ∨ nx = 5 ∨ nx = 6 ∨ nx = 7 from by simp at hnx; omega) with rfl | rfl | rfl | rfl | rfl
  · simp only [if_true]
    cases hq : s.ch with
    | nil => exact work_end B C Wb s vch vev i (i + 1) jb w h hB hl hi rfl hn hq hx
    | cons j r => exact work_take B C Wb s vch vev i (i + 1) jb j r w h hB hl hi rfl hn hch hx hq
  · exact work_build B C Wb s vch vev i (i + 1) jb w h hB hl hi rfl hn hx
  · exact work_lock B C Wb s vch vev i (i + 1) jb w h hB hl hi rfl hn hx
  · exact work_put B C Wb s vch vev i (i + 1) jb w h hB hl hi rfl hn hx
  · exact work_unlock B C Wb s vch vev i (i + 1) jb w h hB hl hi rfl hn hx
/-! ### the run, step by step -/
def runK (J N : Nat) (picks : List Int) : Nat → St
  | 0 => start J N
  | k + 1 => (runK J N picks k).step ((runK J N picks k).next picks)
theorem pick_lt (picks : List Int) (step n : Nat) (h : 0 < n) : pickAt picks step n < n := by
  unfold pickAt
  split
  · exact place_lt _ _ h
  · exact h
theorem next_able {J N : Nat} {s : St} (h : Inv J N s) (hN : 1 ≤ N) (picks : List Int) : s.next picks ∈ s.able := by
  have hp := able_ne h hN
  unfold St.next
  rw [getD_lt _ _ _ (pick_lt picks _ _ hp)]
  exact List.getElem_mem _
theorem costs_zero (ws : List (Nat × Int)) (h : ∀ i (h : i < ws.length), (ws[i]).1 = 8) : costs ws = 0 := by
  induction ws with
  | nil => rfl
  | cons x l ih =>
    have h0 := h 0 (by simp)
    have := ih fun i hi => h (i + 1) (by simpa using hi)
    unfold costs at this ⊢
    simp at h0 this ⊢
    exact ⟨by rw [h0]; rfl, this⟩
theorem over_left {J N : Nat} {s : St} (h : Inv J N s) (hN : 1 ≤ N) (ho : s.over = true) (hc : s.can 0 = true) : s.ev.length + 1 = 6 * J + N + 2 := by
  unfold St.over at ho
  simp at ho
  obtain ⟨ho, hcl⟩ := ho
  unfold St.can at hc
  rw [if_pos rfl, if_neg (by omega), hcl] at hc
  have he : s.ended = true := by simpa using hc
  unfold St.ended at he
  rw [List.all_eq_true] at he
  have h8 : ∀ i (hi : i < s.ws.length), (s.ws[i]).1 = 8 := fun i hi => by simpa using he _ (List.getElem_mem hi)
  have hch := (h.ended 0 (by rw [h.len]; omega) (h8 0 (by rw [h.len]; omega))).2
  have h1 := h.left
  have h2 := h.closed hcl
  rw [costs_zero _ h8, hch, hcl, h2] at h1
  simp at h1
  omega
theorem work_ok {J N : Nat} {s : St} (h : Inv J N s) (i : Nat) (hi : i < s.ws.length) (hc : s.can (i + 1) = true) : 3 ≤ (s.ws[i]).1 ∧ (s.ws[i]).1 ≤ 7 := by
  have h1 := h.nx i hi
  refine ⟨h1.1, ?_⟩
  rcases Nat.lt_or_ge (s.ws[i]).1 8 with h2 | h2
  · omega
  · have h8 : (s.ws[i]).1 = 8 := by omega
    unfold St.can at hc
    rw [if_neg (by omega), w_eq s i hi, h8] at hc
    simp at hc
theorem run_inv (J N : Nat) (hN : 1 ≤ N) (picks : List Int) : ∀ k, k < 6 * J + N + 2 → Inv J N (runK J N picks k) ∧ (runK J N picks k).ev.length = k := by
  intro k
  induction k with
  | zero => intro _; exact ⟨inv_start J N, rfl⟩
  | succ k ih =>
    intro hk
    obtain ⟨h1, h2⟩ := ih (by omega)
    have hm := mem_able.1 (next_able h1 hN picks)
    have hov : (runK J N picks k).next picks = 0 → (runK J N picks k).over = false := by
      intro h0
      cases ho : (runK J N picks k).over with
      | false => rfl
      | true =>
        rw [h0] at hm
        have := over_left h1 hN ho hm.2
        omega
    refine ⟨inv_step h1 _ (by rw [h1.len] at hm; exact hm.1) hm.2 hov, ?_⟩
    show ((runK J N picks k).step _).ev.length = k + 1
    rw [step_ev _ _ (fun h0 => ?_), List.length_append, h2]; rfl
    obtain ⟨i, hi⟩ : ∃ i, (runK J N picks k).next picks = i + 1 := ⟨_, (Nat.succ_pred_eq_of_ne_zero h0).symm⟩
    rw [hi] at hm ⊢
    rw [w_eq _ i (by omega)]
    exact work_ok h1 i (by omega) hm.2
end Go.Proofs.YtladmconpolneaaGreat.Cr

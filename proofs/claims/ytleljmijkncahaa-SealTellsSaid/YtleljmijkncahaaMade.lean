/- Walks of seal: made. -/
import Derived.Test.YtleljmijkncahaaSum
set_option linter.unusedVariables false
set_option linter.unusedSimpArgs false
namespace Go.Proofs.Ytleljmijkncahaa
open Go.RowKit
/-- The table when k of it are made. -/
def tabK (k : Nat) : Array Value := ((List.range 16).map fun j => Value.int .u32 ((if j < k then Crc.It 4 j else 0 : Nat) : Int)).toArray
theorem tabK_size (k : Nat) : (tabK k).size = 16 := by simp [tabK]
theorem tabK_zero : tabK 0 = #[.int .u32 0, .int .u32 0, .int .u32 0, .int .u32 0, .int .u32 0, .int .u32 0, .int .u32 0, .int .u32 0, .int .u32 0, .int .u32 0, .int .u32 0, .int .u32 0, .int .u32 0, .int .u32 0, .int .u32 0, .int .u32 0] := rfl
theorem tabK_all : tabK 16 = tabV := by
  rfl
theorem tabK_set (k : Nat) (h : k < 16) : (tabK k).setIfInBounds k (.int .u32 ((Crc.It 4 k : Nat) : Int)) = tabK (k + 1) := by
  apply Array.ext_getElem?
  intro j
  rw [Array.getElem?_setIfInBounds]
  unfold tabK
  by_cases hj : k = j
  · subst hj; simp [h]
  · rw [if_neg hj]
    by_cases hj16 : j < 16
    · simp [hj16, show (j < k + 1) = (j < k) from propext (by omega)]
    · simp [hj16]
theorem tabV_one : tabV.all (·.oneCell') = true := by
  unfold tabV
  rw [← Array.all_toList]
  simp [Value.oneCell']
def MadeRel (w : World) (gk : Nat) (b : Value) (wr : World) : Prop :=
  ∃ k, gk = 16 - k ∧ k ≤ 16 ∧ b = .int .i64 (k : Int) ∧ wr.heap[w.heap.size]? = some (.cells (tabK 0) 64 (0, 0)) ∧ wr.heap[w.heap.size + 1]? = some (.cells (tabK k) 64 (0, 0)) ∧ Below w.heap.size w wr
def RowRel (k : Nat) (wo : World) (gk : Nat) (a b : Value) (wr : World) : Prop := wr = wo ∧ ∃ i, gk = 4 - i ∧ i ≤ 4 ∧ b = .int .i64 (i : Int) ∧ a = .int .u32 ((Crc.It i k : Nat) : Int)
set_option maxHeartbeats 400000 in
theorem made_any (w : World) : Calls Try.prog 45 #[] w fun e w' => e = .returned (.agg tabV) ∧ Below w.heap.size w w' := by
  go_enter Try.func45, Try.ntmps45
  go_wp2
  go_loopg [5] 16 (fun gk b wr => MadeRel w gk b wr)
  case atStart =>
    refine ⟨0, rfl, Nat.zero_le _, rfl, ?_, ?_, ?_⟩
    · rw [tabK_zero]; exact heap_alloc2_old w _ _
    · rw [tabK_zero]; exact heap_alloc2_new w _ _
    · exact ((Below.refl _ _).alloc (Nat.le_refl _) _).alloc (by simp) _
  case round =>
    obtain ⟨k, rfl, hk, rfl, h0, h1, hbel⟩ := hrel
    by_cases hlt : k < 16
    · have H := Lib.hid (And.intro h0 (And.intro h1 hbel))
      have fr : wr.frozen? ⟨w.heap.size + 1, k, none⟩ = false := frozen_of_row wr _ k _ _ h1
      have ce : wr.cell? ⟨w.heap.size + 1, k, none⟩ = some ((tabK k).getD k undef) := by
        rw [cell_of_row wr _ k _ _ _ h1]; simp [tabK_size, hlt]
      clear h0 h1 hbel
      go_wp2
      go_loopg [3, 10] 4 (fun gk a b wr' => RowRel k wr gk a b wr')
      case atStart => exact ⟨rfl, 0, rfl, by omega, rfl, rfl⟩
      case round =>
        obtain ⟨rfl, i, rfl, hi, rfl, rfl⟩ := hrel
        have hlt4 := Crc.It_lt i k (by omega)
        have HA := Lib.hid (Crc.It_succ i k)
        by_cases hi4 : i < 4
        · obtain ⟨r0, hr0⟩ : ∃ r0, Crc.It i k = r0 := ⟨_, rfl⟩
          rw [hr0] at hlt4 HA ⊢
          clear hr0
          rcases Nat.mod_two_eq_zero_or_one r0 with hp | hp
          · have f1 : bits .and .u32 (r0 : Int) 1 = 0 := by
              rw [show (1 : Int) = ((1 : Nat) : Int) from rfl, u32_and_nat _ 1 hlt4 (by decide), nat_mask1, hp]; rfl
            have f2 : (r0 : Int) / 2 = ((Crc.A r0 : Nat) : Int) := by unfold Crc.A; rw [hp]; simp
            clear hp
            go_wp2
            go_roundg (4 - (i + 1))
            case measure => omega
            case rel => exact ⟨rfl, i + 1, rfl, hi4, by go_num, by rw [HA.out]⟩
          · have f1 : bits .and .u32 (r0 : Int) 1 = 1 := by
              rw [show (1 : Int) = ((1 : Nat) : Int) from rfl, u32_and_nat _ 1 hlt4 (by decide), nat_mask1, hp]
            have f2 : bits .xor .u32 ((r0 : Int) / 2) 3988292384 = ((Crc.A r0 : Nat) : Int) := by
              rw [show (3988292384 : Int) = ((3988292384 : Nat) : Int) from rfl, show (r0 : Int) / 2 = ((r0 / 2 : Nat) : Int) from rfl, u32_xor_nat _ _ (by omega) (by decide)]
              unfold Crc.A; rw [hp, Nat.one_mul]
            clear hp
            go_wp2
            go_roundg (4 - (i + 1))
            case measure => omega
            case rel => exact ⟨rfl, i + 1, rfl, hi4, by go_num, by rw [HA.out]⟩
        · obtain rfl : i = 4 := by omega
          clear hlt4 HA
          go_wp2
          go_roundg (16 - (k + 1))
          case measure => omega
          case rel =>
            obtain ⟨h0, h1, hbel⟩ := H.out
            refine ⟨k + 1, rfl, hlt, by go_num, ?_, ?_, ?_⟩
            · rw [heap_setCell_other _ _ _ _ (by simp)]; exact h0
            · rw [heap_setCell_same _ _ _ _ _ _ h1, tabK_set k hlt]
            · exact hbel.setCell (by simp) _
    · obtain rfl : k = 16 := by omega
      rw [tabK_all] at h1
      have HB := Lib.hid hbel
      clear hbel
      have hi64 : (Try.prog.info? 64).map (·.size) = some 16 := by kernel_rfl
      have H0 := Lib.hid h0
      have H1 := Lib.hid h1
      have HI := Lib.hid hi64
      clear h0 h1 hi64
      go_wp2_with (first | (refine wpList_load_row rfl 64 (.tmp 1) rfl (w.heap.size + 1) rfl 64 tabV (0, 0) _ H1.out Try.underlying64 rfl HI.out ?_) | (refine wpList_store_row rfl 64 (.tmp 0) (.tmp 25) rfl w.heap.size rfl 64 (tabK 0) tabV rfl H0.out HI.out rfl tabV_one ?_))
      have hg := setRow_heap wr w.heap.size (tabK 0) tabV 64 (0, 0) H0.out
      refine bodyPost_ret (results_cell_row rfl _ _ _ 64 tabV (0, 0) _ rfl hg Try.underlying64 rfl HI.out) rfl ⟨rfl, ?_⟩
      exact HB.out.trans ⟨rfl, rfl, rfl, by simp, fun i hi => setRow_other _ _ _ _ (by omega)⟩
end Go.Proofs.Ytleljmijkncahaa

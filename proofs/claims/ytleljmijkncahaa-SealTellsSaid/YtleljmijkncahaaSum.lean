/- Walks of seal: made, through, Join, Sum. -/
import Derived.Test.YtleljmijkncahaaProg
import Derived.Test.YtleljmijkncahaaKit
import Derived.Test.YtleljmijkncahaaCrc
set_option linter.unusedVariables false
set_option linter.unusedSimpArgs false
namespace Go.Proofs.Ytleljmijkncahaa
open Go.RowKit
/-- The table of sixteen. -/
def tabV : Array Value := ((List.range 16).map fun k => Value.int .u32 (Crc.It 4 k : Int)).toArray
theorem tabV_at (q : Nat) (h : q < 16) : tabV[q]? = some (.int .u32 (Crc.It 4 q : Int)) := by
  unfold tabV
  simp [h]
def ThroughRel (w W0 : World) (r : Nat) (s : ByteArray) (gk : Nat) (a b : Value) (wr : World) : Prop :=
  ∃ k, gk = s.size - k ∧ k ≤ s.size ∧ b = .int .i64 (k : Int) ∧ a = .int .u32 (Crc.reg r (s.data.toList.take k) : Int) ∧ Below (w.heap.size + 1) W0 wr
def HalfRel (r0 lo hi : Nat) (wo : World) (gk : Nat) (a b : Value) (wr : World) : Prop :=
  wr = wo ∧ ((gk = 2 ∧ b = .int .i64 0 ∧ a = .int .u32 (r0 : Int)) ∨ (gk = 1 ∧ b = .int .i64 1 ∧ a = .int .u32 (Crc.It 4 (r0 ^^^ lo) : Int)) ∨ (gk = 0 ∧ b = .int .i64 2 ∧ a = .int .u32 (Crc.It 4 (Crc.It 4 (r0 ^^^ lo) ^^^ hi) : Int)))
theorem half_step (r h : Nat) (hr : r < 4294967296) (hh : h < 16) :
    bits .xor .u32 (r : Int) (h : Int) = ((r ^^^ h : Nat) : Int) ∧ ∃ q : Nat, q < 16 ∧ bits .and .u32 ((r ^^^ h : Nat) : Int) 15 = (q : Int) ∧ bits .xor .u32 ((Crc.It 4 q : Nat) : Int) ((r : Int) / 16) = ((Crc.It 4 (r ^^^ h) : Nat) : Int) := by
  have hx : r ^^^ h < 4294967296 := Nat.xor_lt_two_pow (n := 32) hr (by omega)
  refine ⟨u32_xor_nat r h hr (by omega), (r ^^^ h) % 16, Nat.mod_lt _ (by decide), ?_, ?_⟩
  · rw [show (15 : Int) = ((15 : Nat) : Int) from rfl, u32_and_nat _ 15 hx (by decide), nat_mask4]
  · rw [show (r : Int) / 16 = ((r / 16 : Nat) : Int) from rfl, u32_xor_nat _ _ (Crc.It_lt _ _ (by omega)) (by omega)]
    have e : r ^^^ h = (r ^^^ h) % 16 ^^^ ((r / 16) * 2 ^ 4) := by
      have h1 : (r ^^^ h) / 2 ^ 4 = r / 16 := by
        rw [Nat.xor_div_two_pow, show h / 2 ^ 4 = 0 from by omega, Nat.xor_zero]
      rw [Crc.xor_join _ _ 4 (Nat.mod_lt _ (by decide)), ← h1]
      omega
    rw [e, Crc.It_xor 4 _ (r / 16 * 2 ^ 4), Crc.It_shift, ← e]
theorem byte_step (r c : Nat) (hc : c < 256) : Crc.It 4 (Crc.It 4 (r ^^^ c % 16) ^^^ c / 16) = Crc.It 8 (r ^^^ c) := by
  have e : r ^^^ c = (r ^^^ c % 16) ^^^ (c / 16 * 2 ^ 4) := by
    rw [Nat.xor_assoc, Crc.xor_join _ _ 4 (Nat.mod_lt _ (by decide))]
    congr 1; omega
  rw [e, show (8 : Nat) = 4 + 4 from rfl, Crc.It_add, Crc.It_xor 4 (r ^^^ c % 16), Crc.It_shift]
theorem reg_succ (r : Nat) (s : ByteArray) (k : Nat) (h : k < s.size) : Crc.reg r (s.data.toList.take (k + 1)) = Crc.It 8 (Crc.reg r (s.data.toList.take k) ^^^ s[k].toNat) := by
  rw [take_succ s k h, Crc.reg_append]; rfl
set_option maxHeartbeats 400000 in
theorem through_any (r : Nat) (s : ByteArray) (w : World) (hr : r < 4294967296) (hs : s.size ≤ maxLen) :
    Calls Try.prog 46 #[.agg tabV, .int .u32 r, .string s] w fun e w' => e = .returned (.int .u32 (Crc.reg r s.data.toList)) ∧ Below w.heap.size w w' := by
  unfold maxLen at hs
  go_enter Try.func46, Try.ntmps46
  go_wp2
  go_loopg [1, 12] s.size (fun gk a b wr => ThroughRel w (w.alloc (.cells tabV 64)) r s gk a b wr)
  case atStart => exact ⟨0, rfl, Nat.zero_le _, rfl, rfl, Below.refl _ _⟩
  case round =>
    obtain ⟨k, rfl, hk, rfl, rfl, hbel⟩ := hrel
    by_cases hlt : k < s.size
    · have HB := Lib.hid hbel
      clear hbel
      have HN := Lib.hid (reg_succ r s k hlt)
      have hc : s[k].toNat < 256 := s[k].toNat_lt
      have e0 : bits BinOp.and IntKind.u8 ((s[k].toNat : Nat) : Int) 15 = ((s[k].toNat % 16 : Nat) : Int) := by
        rw [show (15 : Int) = ((15 : Nat) : Int) from rfl, u8_and_nat _ 15 hc (by decide), nat_mask4]
      have e1 : ((s[k].toNat : Nat) : Int) / 16 = ((s[k].toNat / 16 : Nat) : Int) := rfl
      have hr0 := Crc.reg_lt r (s.data.toList.take k) hr
      obtain ⟨lo, hlo⟩ : ∃ lo, s[k].toNat % 16 = lo := ⟨_, rfl⟩
      obtain ⟨hi, hhi⟩ : ∃ hi, s[k].toNat / 16 = hi := ⟨_, rfl⟩
      have HS := Lib.hid (byte_step (Crc.reg r (s.data.toList.take k)) s[k].toNat hc)
      rw [hlo] at e0 HS
      rw [hhi] at e1 HS
      have hlo' : lo < 16 := by omega
      have hhi' : hi < 16 := by omega
      clear hlo hhi
      generalize Crc.reg r (List.take k s.data.toList) = r0 at *
      go_wp2
      go_quiet (fail)
      have HB2 : Hid (Below (w.heap.size + 1) (w.alloc (.cells tabV 64)) (wr.drewN nq)) := HB.out.trans ⟨rfl, rfl, rfl, Nat.le_refl _, fun _ _ => rfl⟩
      generalize wr.drewN nq = wo at HB2 ⊢
      clear HB e0 e1
      go_wp2
      go_loopg [1, 24] 2 (fun gk a b wr => HalfRel r0 lo hi wo gk a b wr)
      case atStart => exact ⟨rfl, .inl ⟨rfl, rfl, rfl⟩⟩
      case round =>
        obtain ⟨rfl, h⟩ := hrel
        rcases h with ⟨rfl, rfl, rfl⟩ | ⟨rfl, rfl, rfl⟩ | ⟨rfl, rfl, rfl⟩
        · have ix : ∀ w, (Instr.index 67 (.agg #[.int .u8 (lo : Int), .int .u8 (hi : Int)]) (.int .i64 0)).run Try.prog w = .ok (.int .u8 (lo : Int)) w := fun _ => by kernel_rfl
          obtain ⟨f1, q, hq, f2, f3⟩ := half_step r0 lo hr0 hlo'
          have f4 : (q : Int) < 16 := by omega
          have f5 : wr.cell? ⟨w.heap.size, q, none⟩ = some (.int .u32 ((Crc.It 4 q : Nat) : Int)) := by
            rw [HB2.out.cell (p := ⟨w.heap.size, q, none⟩) (by simp)]
            exact cell_new_arr (tabV_at q hq)
          go_wp2
          go_roundg 1
          case measure => omega
          case rel => exact ⟨rfl, .inr (.inl ⟨rfl, rfl, rfl⟩)⟩
        · have ix : ∀ w, (Instr.index 67 (.agg #[.int .u8 (lo : Int), .int .u8 (hi : Int)]) (.int .i64 1)).run Try.prog w = .ok (.int .u8 (hi : Int)) w := fun _ => by kernel_rfl
          obtain ⟨f1, q, hq, f2, f3⟩ := half_step (Crc.It 4 (r0 ^^^ lo)) hi (Crc.It_lt _ _ (Nat.xor_lt_two_pow (n := 32) hr0 (Nat.lt_trans hlo' (by decide)))) hhi'
          have f4 : (q : Int) < 16 := by omega
          have f5 : wr.cell? ⟨w.heap.size, q, none⟩ = some (.int .u32 ((Crc.It 4 q : Nat) : Int)) := by
            rw [HB2.out.cell (p := ⟨w.heap.size, q, none⟩) (by simp)]
            exact cell_new_arr (tabV_at q hq)
          go_wp2
          go_roundg 0
          case measure => omega
          case rel => exact ⟨rfl, .inr (.inr ⟨rfl, rfl, rfl⟩)⟩
        · rw [HS.out]
          go_wp2
          go_roundg (s.size - (k + 1))
          case measure => omega
          case rel => exact ⟨k + 1, rfl, hlt, by go_num, by rw [HN.out], HB2.out⟩
    · obtain rfl : k = s.size := by omega
      rw [take_all]
      have HB := Lib.hid hbel
      clear hbel
      go_wp2
      go_ret
      exact ⟨rfl, ((Below.refl _ _).alloc (Nat.le_refl _) _).trans (HB.out.mono (by omega))⟩
end Go.Proofs.Ytleljmijkncahaa

/- Walks of field.Put. -/
import Derived.Test.YtleljmijkncahaaProg
import Derived.Test.YtleljmijkncahaaKit
import Derived.Test.YtleljmijkncahaaCrc
set_option linter.unusedVariables false
set_option linter.unusedSimpArgs false
namespace Go.Proofs.Ytleljmijkncahaa
open Go.RowKit
theorem Try.info5 : (Try.prog.info? 5).map (fun i => (i.zero, i.size, i.bytes)) = some (some (.int .u8 0), 1, 1) := by kernel_rfl

theorem odd_yes (n : Int) (w : World) (h : n < 1 ∨ 8 < n) :
    Calls Try.prog 41 #[.int .i64 n] w fun e w' => e = .returned (.bool true) ∧ w = w' := by
  rcases h with h | h
  · go_enter Try.func41, Try.ntmps41
    go_wp2
    go_ret
    exact ⟨rfl, rfl⟩
  · have h1 : ¬ n < 1 := by omega
    go_enter Try.func41, Try.ntmps41
    go_wp2
    go_ret
    exact ⟨rfl, rfl⟩
theorem odd_no (n : Int) (w : World) (h1 : 1 ≤ n) (h2 : n ≤ 8) :
    Calls Try.prog 41 #[.int .i64 n] w fun e w' => e = .returned (.bool false) ∧ w = w' := by
  have h1' : ¬ n < 1 := by omega
  have h2' : ¬ 8 < n := by omega
  go_enter Try.func41, Try.ntmps41
  go_wp2
  go_ret
  exact ⟨rfl, rfl⟩
def PutStep (B Bb Bn : Nat) (w : World) (k : Nat) (xs : List Value) (n : Int) (e : Ending) (w' : World) : Prop :=
  e = .returned (.tuple #[]) ∧ ∃ v', w'.heap[Bb]? = some (.cells #[v'] 58 (0, 0)) ∧ w'.heap[Bn]? = some (.cells #[.int .u64 (n / 256)] 22 (0, 0)) ∧
    w'.ownsRow B 5 1 v' (k + 1) (xs ++ [.int .u8 (n % 256)]) ∧ Below B w w'
set_option maxHeartbeats 400000 in
theorem put_step (B Bb Bn : Nat) (w : World) (v : Value) (k : Nat) (xs : List Value) (n : Int) (hB : B ≤ w.heap.size) (h1 : B ≤ Bb) (h2 : B ≤ Bn) (hn : 0 ≤ n) (hn2 : n < 18446744073709551616) (hk : k < 9)
    (hb : w.heap[Bb]? = some (.cells #[v] 58 (0, 0))) (hnn : w.heap[Bn]? = some (.cells #[.int .u64 n] 22 (0, 0))) (hown : w.ownsRow B 5 1 v k xs) :
    Calls Try.prog 42 #[.pointer (some ⟨Bb, 0, none⟩), .pointer (some ⟨Bn, 0, none⟩)] w (PutStep B Bb Bn w k xs n) := by
  have cb := cell_of_one hb
  have cn := cell_of_one hnn
  have N1 := Lib.hid (own_ne hown hb (by decide))
  have N2 := Lib.hid (own_ne hown hnn (by decide))
  have l1 := lt_of_block hb
  have l2 := lt_of_block hnn
  have Hb := Lib.hid hb; clear hb
  have Hnn := Lib.hid hnn; clear hnn
  go_enter Try.func42, Try.ntmps42
  go_wp2_with (at_builtin; refine append_one B rfl _ _ 58 5 (.int .u8 0) 1 rfl Try.underlying58 Try.info5 rfl (by decide) v k xs _ rfl rfl rfl hown hB (by omega) ?_)
  intro A1 c1 w1 hown1 hg hat hsz
  have hb1 : w1.heap[Bb]? = some (.cells #[v] 58 (0, 0)) := (hg.block Bb l1 N1.out).trans Hb.out
  have hn1 : w1.heap[Bn]? = some (.cells #[.int .u64 n] 22 (0, 0)) := (hg.block Bn l2 N2.out).trans Hnn.out
  have hb2 := one_setCell (u := .slice A1 (k + 1) c1) hb1
  have hne : Bb ≠ Bn := one_ne hb1 hn1 (by decide)
  have hn2' := one_other hn1 (a := ⟨Bb, 0, none⟩) hne (.slice A1 (k + 1) c1)
  have hb3 := one_other hb2 (a := ⟨Bn, 0, none⟩) hne.symm (.int .u64 (n / 256))
  have hn3 := one_setCell (u := .int .u64 (n / 256)) hn2'
  have N3 := own_ne hown1 hb1 (by decide)
  have own2 := ownsRow_setCell_other hown1 (a := ⟨Bb, 0, none⟩) (fun e => N3 e.symm) (.slice A1 (k + 1) c1)
  have N4 := own_ne own2 hn2' (by decide)
  have own3 := ownsRow_setCell_other own2 (a := ⟨Bn, 0, none⟩) (fun e => N4 e.symm) (.int .u64 (n / 256))
  have bel : Below B w w1 := (Below.refl B w).grown hg hB (own_base hown)
  have bel3 : Below B w ((w1.setCell ⟨Bb, 0, none⟩ (.slice A1 (k + 1) c1)).setCell ⟨Bn, 0, none⟩ (.int .u64 (n / 256))) := (bel.setCell h1 _).setCell h2 _
  have cb1 := cell_of_one hb1
  have cn1 := cell_of_one hn1
  have fb1 := free_of_one hb1
  have fn1 := free_of_one hn1
  have cn2 := cell_of_one hn2'
  have fn2 := free_of_one hn2'
  have R := Lib.hid (And.intro hb3 (And.intro hn3 (And.intro own3 bel3)))
  clear hb1 hn1 hb2 hn2' hb3 hn3 N3 own2 N4 own3 bel bel3 hown hown1 hg hat
  go_wp2
  go_end0
  exact ⟨rfl, _, R.out⟩

theorem put_take (n k : Nat) : Crc.put n (k + 1) = Crc.put n k ++ [UInt8.ofNat (n / 256 ^ k)] := by
  induction k generalizing n with
  | zero => simp [Crc.put]
  | succ k ih => rw [Crc.put, ih, Crc.put, Nat.div_div_eq_div_mul, Nat.pow_succ, Nat.mul_comm 256]; rfl
def PutRel (w : World) (n s gk : Nat) (wr : World) : Prop := ∃ k A c, gk = s - k ∧ k ≤ s ∧ wr.heap[w.heap.size + 1 + 1]? = some (.cells #[.slice A k c] 58 (0, 0)) ∧
  wr.heap[w.heap.size]? = some (.cells #[.int .u64 ((n / 256 ^ k : Nat) : Int)] 22 (0, 0)) ∧ wr.ownsRow w.heap.size 5 1 (.slice A k c) k (bytesV (Crc.put n k)) ∧ Below w.heap.size w wr
theorem put_rel_start (w : World) (n s : Nat) : PutRel w n s s (((w.alloc (.cells #[.int .u64 (n : Int)] 22)).alloc (.cells #[.int .u8 0, .int .u8 0, .int .u8 0, .int .u8 0, .int .u8 0, .int .u8 0, .int .u8 0, .int .u8 0] 5)).alloc
    (.cells #[.slice (some ⟨w.heap.size + 1, 0, none⟩) 0 8] 58)) := by
  refine ⟨0, some ⟨w.heap.size + 1, 0, none⟩, 8, rfl, Nat.zero_le _, ?_, ?_, ?_, ?_⟩
  · have := heap_alloc_new ((w.alloc (.cells #[.int .u64 (n : Int)] 22)).alloc (.cells #[.int .u8 0, .int .u8 0, .int .u8 0, .int .u8 0, .int .u8 0, .int .u8 0, .int .u8 0, .int .u8 0] 5)) (.cells #[.slice (some ⟨w.heap.size + 1, 0, none⟩) 0 8] 58)
    simpa using this
  · rw [Below.heap_alloc _ _ _ (by simp; omega), Below.heap_alloc _ _ _ (by simp), heap_alloc_new, Nat.pow_zero, Nat.div_one]
  · have := World.ownsRow_made (base := w.heap.size) (e := 5) (size := 1) (w.alloc (.cells #[.int .u64 (n : Int)] 22)) #[.int .u8 0, .int .u8 0, .int .u8 0, .int .u8 0, .int .u8 0, .int .u8 0, .int .u8 0, .int .u8 0] 8 (by simp) (by decide) rfl
    have := this.alloc (.cells #[.slice (some ⟨w.heap.size + 1, 0, none⟩) 0 8] 58)
    simpa [Crc.put, bytesV] using this
  · exact (((Below.refl _ _).alloc (Nat.le_refl _) _).alloc (by simp) _).alloc (by simp; omega) _
theorem put_rel_step {w wr w2 : World} {n k : Nat} {xs : List Value} {m : Int} (hxs : xs = bytesV (Crc.put n k)) (hm : m = ((n / 256 ^ k : Nat) : Int)) (hbel : Below w.heap.size w wr) {v' : Value}
    (hb : w2.heap[w.heap.size + 1 + 1]? = some (.cells #[v'] 58 (0, 0))) (hnn : w2.heap[w.heap.size]? = some (.cells #[.int .u64 (m / 256)] 22 (0, 0)))
    (ho : w2.ownsRow w.heap.size 5 1 v' (k + 1) (xs ++ [.int .u8 (m % 256)])) (hbel' : Below w.heap.size wr w2) (s : Nat) (hk : k + 1 ≤ s) : PutRel w n s (s - (k + 1)) w2 := by
  obtain ⟨A, c, rfl⟩ := own_slice ho
  subst hxs hm
  refine ⟨k + 1, A, c, rfl, hk, hb, ?_, ?_, hbel.trans hbel'⟩
  · rw [hnn, Nat.pow_succ, ← Nat.div_div_eq_div_mul]; rfl
  · rw [put_take, bytesV_append]
    simpa [bytesV] using ho
set_option maxHeartbeats 400000 in
theorem put_mid (n size : Int) (w : World) (hn : 0 ≤ n) (hn2 : n < 18446744073709551616) (h1 : 1 ≤ size) (h2 : size ≤ 8) :
    Calls Try.prog 17 #[.int .u64 n, .int .i64 size] w fun e w' => e = .returned (.string (str (Crc.put n.toNat size.toNat))) ∧ Below w.heap.size w w' := by
  have hmk : ∀ w, (Instr.makeSlice 58 (.int .i64 0) (.int .i64 8)).run Try.prog w = .ok (.slice (some ⟨w.heap.size, 0, none⟩) 0 8) (w.alloc (.cells #[.int .u8 0, .int .u8 0, .int .u8 0, .int .u8 0, .int .u8 0, .int .u8 0, .int .u8 0, .int .u8 0] 5)) := fun _ => by kernel_rfl
  obtain ⟨m, rfl⟩ := Int.eq_ofNat_of_zero_le hn
  obtain ⟨s, rfl⟩ := Int.eq_ofNat_of_zero_le (show 0 ≤ size by omega)
  go_enter Try.func17, Try.ntmps17
  go_wp2_with (go_at_call 41; refine (odd_no _ _ h1 h2).mono ?_; rintro e w' ⟨rfl, rfl⟩)
  clear hmk
  go_loopg [] s (fun gk wr => PutRel w m s gk wr)
  case atStart => exact put_rel_start w m s
  case round =>
    obtain ⟨k, A, c, rfl, hk, hb, hnn, hown, hbel⟩ := hrel
    have cb := cell_of_one hb
    have hq2 : ∀ q : Nat, q ≤ m → (q : Int) < 18446744073709551616 := fun q hq => by omega
    have hdiv : m / 256 ^ k ≤ m := Nat.div_le_self _ _
    by_cases hlt : k < s
    · have hst := put_step w.heap.size (w.heap.size + 1 + 1) w.heap.size wr _ k _ _ hbel.size (by omega) (Nat.le_refl _) (Int.natCast_nonneg _) (hq2 _ hdiv) (by omega) hb hnn hown
      have HST := Lib.hid hst
      have HB := Lib.hid hbel
      clear hst hb hnn hown hbel hq2 hdiv
      go_wp2_with (go_at_call 42; refine (HST.out).mono ?_; rintro e w2 ⟨rfl, hst⟩)
      go_roundg (s - (k + 1))
      case measure => omega
      case rel =>
        obtain ⟨v', hb', hn', ho', hbel'⟩ := hst
        exact put_rel_step rfl rfl HB.out hb' hn' ho' hbel' s hlt
    · obtain rfl : k = s := by omega
      have hcv := run_bytes_str (dst := 9) Try.underlying58 Try.underlying5 Try.underlying9 hown
      have HB := Lib.hid hbel
      clear hb hnn hown hbel hq2 hdiv
      go_wp2
      go_ret
      exact ⟨rfl, HB.out⟩
theorem put_odd (n size : Int) (w : World) (h : size < 1 ∨ 8 < size) :
    Calls Try.prog 17 #[.int .u64 n, .int .i64 size] w fun e w' => e = .returned (.string (str [])) ∧ Below w.heap.size w w' := by
  go_enter Try.func17, Try.ntmps17
  go_wp2_with (go_at_call 41; refine (odd_yes _ _ h).mono ?_; rintro e w' ⟨rfl, rfl⟩)
  go_ret
  exact ⟨rfl, (Below.refl _ _).alloc (Nat.le_refl _) _⟩
/-- A number's field: what Put tells. -/
def putI (n size : Int) : List UInt8 := if 1 ≤ size ∧ size ≤ 8 then Crc.put n.toNat size.toNat else []
theorem put_any (n size : Int) (w : World) (hn : 0 ≤ n) (hn2 : n < 18446744073709551616) :
    Calls Try.prog 17 #[.int .u64 n, .int .i64 size] w fun e w' => e = .returned (.string (str (putI n size))) ∧ Below w.heap.size w w' := by
  unfold putI
  by_cases h : 1 ≤ size ∧ size ≤ 8
  · rw [if_pos h]; exact put_mid n size w hn hn2 h.1 h.2
  · rw [if_neg h]; exact put_odd n size w (by omega)
end Go.Proofs.Ytleljmijkncahaa

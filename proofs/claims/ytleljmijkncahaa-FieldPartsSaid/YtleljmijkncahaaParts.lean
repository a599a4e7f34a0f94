/- 'append(v, x...)' of a slice that came in; Cut of longer texts. -/
import Derived.Test.YtleljmijkncahaaRowsWalk
import Derived.Test.YtleljmijkncahaaCut
set_option linter.unusedVariables false
set_option linter.unusedSimpArgs false
namespace Go.Proofs.Ytleljmijkncahaa
open Go.RowKit
theorem run_append_nothing {P : Program} (w : World) (t ty e : TypeId) (i : TypeInfo) (ht : P.underlying t = some (.slice e)) (hi : P.info? e = some i) (B : Option Addr) (n cap c : Nat) (h : n ≤ cap) :
    (Builtin.append_ #[t, t] ty #[.slice B n cap, .slice none 0 c]).run P w = .ok (.slice B n cap) w := by
  unfold Builtin.append_
  cases B <;> simp [underlying, sizeOf, typeInfo, ht, hi, Builtin.lenOf, Builtin.firstCells, h, Sem.run_bind, Result.andThen, storeCells]

section
variable {P : Program} {ops : Array Oper} {rest : List Oper} {o : Oper} {a : Act} {Q : Exit → Act → World → Prop}
/-- 'append(v, x...)', v the call's own, x any slice that is read. -/
theorem append_reads {w : World} (base : Nat) (hgd : o.guard = none) (s x : Operand) (t e : TypeId) (z : Value) (bytes : Nat)
    (ho : o.op = .call { callee := .builtin .append, args := #[s, x], argTypes := #[t, t] })
    (ht : P.underlying t = some (.slice e)) (hinfo : (P.info? e).map (fun i => (i.zero, i.size, i.bytes)) = some (some z, 1, bytes)) (hz : z.cells.size = 1) (hb0 : 0 < bytes)
    (v : Value) (n : Nat) (xs : List Value) (hs : a.eval s = v) (hown : w.ownsRow base e 1 v n xs) (A : Option Addr) (m c : Nat) (ys : List Value) (hx : a.eval x = .slice A m c) (hr : Reads w A m ys) (h1 : ∀ u ∈ ys, u.oneCell' = true)
    (hb : (n + m) * bytes ≤ 140737488355328) (hbase : base ≤ w.heap.size)
    (h : ∀ A1 c1 w1, w1.ownsRow base e 1 (.slice A1 (n + m) c1) (n + m) (xs ++ ys) → w.grownBy w1 v.ownBlock → wpList P ops Q rest (a.put o.dst (.slice A1 (n + m) c1)) w1) :
    wpList P ops Q (o :: rest) a w := by
  obtain ⟨i0, hi, hz0, hz1, hz2⟩ := info_parts hinfo
  have hlen : n + m ≤ 140737488355328 := Nat.le_trans (Nat.le_mul_of_pos_right _ hb0) hb
  cases A with
  | some ad =>
    refine wpList_append_own_at w hgd s x t ho base e i0 z 1 bytes ht hi hz0 hz1 hz2 hz (by omega) v n xs hs hown ad m c ys hx (by rw [hr.1]; omega) ?_ h1 (by simp only [maxLen]; omega) hb hbase ?_
    · intro j u hj
      have hlt : j < m := by rw [← hr.1]; exact (List.getElem?_eq_some_iff.mp hj).1
      obtain ⟨ad', e', hc⟩ := hr.at_ j hlt
      cases e'
      rw [hc, List.getD_eq_getElem?_getD, hj]; rfl
    · intro v1 w1 ho1 hg1 _ _
      obtain ⟨A1, c1, rfl⟩ := own_slice ho1
      exact h A1 c1 w1 ho1 hg1
  | none =>
    have hm : m = 0 := by
      rcases Nat.eq_zero_or_pos m with h0 | h0
      · exact h0
      · obtain ⟨_, e', _⟩ := hr.at_ 0 h0; cases e'
    subst hm
    obtain rfl : ys = [] := List.eq_nil_of_length_eq_zero hr.1
    obtain ⟨A1, c1, rfl⟩ := own_slice hown
    have hcap : n ≤ c1 := by
      rcases hown.2 with ⟨h0, h1⟩ | ⟨g, cap, cur, h0, _, _, h1, _⟩
      · omega
      · simp only [Value.slice.injEq] at h0; omega
    refine wpList_plain hgd fun K hK => ?_
    have hr := run_append_nothing (P := P) w t o.type e i0 ht hi A1 n c1 c hcap
    unfold Oper.wp execOp
    simp only [ho, resolve, invoke, builtin, Sem.run_bind, Sem.run_pure, Result.andThen_ok, List.map_toArray, List.map_cons, List.map_nil, hs, hx, hr]
    exact hK _ _ (h A1 c1 w (by rw [List.append_nil]; exact hown) (World.grownBy.refl _ _))
end
set_option maxHeartbeats 400000 in
theorem cut_wide (l : List UInt8) (A0 : Option Addr) (n c0 : Nat) (zs : List Int) (w : World) (hl : l.length ≤ 2400) (hz : Reads w A0 n (intsV zs)) (hn : n ≤ 600) :
    Calls Try.prog 20 #[.string (str l), .slice A0 n c0] w (CutPost w (cutR l zs)) := by
  have hzn : zs.length = n := by have := hz.1; simpa [intsV] using this
  subst hzn
  have HZ := Lib.hid hz
  clear hz
  go_enter Try.func20, Try.ntmps20
  go_wp2
  go_loopg [0, 6, 11] zs.length (fun gk a0 a6 a11 wr => CutRel w l zs gk a0 a6 a11 wr)
  case atStart =>
    exact ⟨0, l, [], none, 0, by omega, Nat.zero_le _, rfl, rfl, Nat.le_refl _, rfl, by simp, rfl, World.ownsRow_nil _ _ _ _, Below.refl _ _⟩
  case round =>
    obtain ⟨k, m, acc, A, c, rfl, hk, rfl, rfl, hml, rfl, hcut, hacc, hown, hbel⟩ := hrel
    have HC := Lib.hid hcut
    have HA := Lib.hid hacc
    have HO := Lib.hid hown
    have HB := Lib.hid hbel
    clear hcut hacc hown hbel
    have HSZ := Lib.hid (str_size m)
    by_cases hlt : k < zs.length
    · obtain ⟨ad, rfl, hce⟩ := (HZ.out.below HB.out).at_ k (by omega)
      rw [show (intsV zs).getD k undef = .int .i64 (zs[k]) from by simp [intsV, hlt]] at hce
      obtain ⟨z, hzk⟩ : ∃ z, zs[k] = z := ⟨_, rfl⟩
      rw [hzk] at hce
      have HK := Lib.hid hzk
      clear hzk
      have hlz : (str m).size ≤ 2400 := by rw [HSZ.out]; omega
      by_cases hz0 : z < 0
      · go_wp2
        go_ret2
        exact cut_bad w wr l m zs acc k z hlt HK.out HC.out (.inl hz0) HB.out _ rfl
      · by_cases hz1 : ((str m).size : Int) < z
        · go_wp2
          go_ret2
          exact cut_bad w wr l m zs acc k z hlt HK.out HC.out (.inr (by rw [← HSZ.out]; exact hz1)) HB.out _ rfl
        · obtain ⟨p, rfl⟩ := Int.eq_ofNat_of_zero_le (show 0 ≤ z by omega)
          have t1 : (str m).extract 0 p = str (m.take p) := str_take m p
          have t2 : (str m).extract p (str m).size = str (m.drop p) := str_drop m p (by rw [← HSZ.out]; omega)
          have HN := Lib.hid (cut_next l m zs acc k p hlt HK.out HC.out (by rw [← HSZ.out]; omega))
          have hpl : p ≤ (str m).size := by omega
          go_wp2
          go_region_law (refine step_append_one w.heap.size rfl _ _ 30 9 (.string ByteArray.empty) 16 rfl Try.underlying30 Try.info9 rfl (by decide) (.slice A k c) k (textsV acc) wr.heap.size (.string (str (m.take p))) rfl rfl (heap_alloc_new wr _) rfl (HO.out.alloc _).drew (by have := HB.out.size; simp; omega) (by omega) ?_; intro A1 c1 w1 hown1 hg1 hat1)
          go_wp2
          go_roundg (zs.length - (k + 1))
          case measure => omega
          case rel =>
            refine ⟨k + 1, m.drop p, acc ++ [m.take p], A1, c1, rfl, hlt, by go_num, rfl, ?_, rfl, HN.out, ?_, ?_, ?_⟩
            · rw [List.length_drop]; omega
            · rw [List.length_append, HA.out]; rfl
            · have : textsV (acc ++ [m.take p]) = textsV acc ++ [.string (str (m.take p))] := by simp [textsV]
              rw [this]; exact hown1
            · exact (((HB.out.alloc HB.out.size _).drew).grown hg1 (by have := HB.out.size; simp; omega) (own_base HO.out))
    · obtain rfl : k = zs.length := by omega
      by_cases hm0 : m = []
      · subst hm0
        have he : (str []).toList.isEmpty = true := by rw [ByteArray.toList_eq]; rfl
        go_wp2
        go_ret2
        exact cut_end w wr l [] zs acc A c HC.out HA.out HB.out HO.out _ rfl rfl
      · have he : (str m).toList.isEmpty = false := by rw [ByteArray.toList_eq, str_data]; simpa using hm0
        have HM := Lib.hid hm0
        clear hm0
        go_wp2
        go_ret2
        exact cut_end_no w wr l m zs acc HC.out HB.out _ HM.out rfl
theorem cut_fours (xs : List Int) : cutR (rowL xs) (List.replicate xs.length 4) = some (xs.map fun x => Crc.put (un x) 4) := by
  induction xs with
  | nil => rfl
  | cons x xs ih =>
    rw [row_cons, List.length_cons, List.replicate_succ]
    unfold cutR
    have hl := Crc.put_length (un x) 4
    rw [if_neg (by rw [List.length_append, hl]; omega), show (4 : Int).toNat = 4 from rfl, List.drop_left' hl, List.take_left' hl, ih]
    rfl
theorem rowL_append (xs ys : List Int) : rowL (xs ++ ys) = rowL xs ++ rowL ys := by simp [rowL]
end Go.Proofs.Ytleljmijkncahaa

/- Several texts of this seat, laid together (no statement of its own): their conditions stand in each theorem. -/
import Derived.Test.YtladmconpolneaaGreatMl
/- shape.Walk as an iterator. -/
set_option linter.unusedVariables false
set_option linter.unusedSimpArgs false
namespace Go.Proofs.YtladmconpolneaaGreat
open Go.RowKit
attribute [local go_sem] Oper.semAt_some
section
variable {P : Program} {F : Fence} {nF : Nat} {ops : Array Oper} {rest : List Oper} {o : Oper} {a : Act} {Q : Exit → Act → World → Prop}
/-- 'append(v, x)', x an element of some cells that was just made, inside a fence. -/
theorem append_cellsIn {W : World} (base : Nat) (hgd : o.guard = none) (s x : Operand) (t e : TypeId) (z : Value) (size bytes : Nat)
    (ho : o.op = .call { callee := .builtin .append, args := #[s, x], argTypes := #[t, t] })
    (ht : P.underlying t = some (.slice e)) (hinfo : (P.info? e).map (fun i => (i.zero, i.size, i.bytes)) = some (some z, size, bytes)) (hz : z.cells.size = size) (hsz : 0 < size) (hb0 : 0 < bytes)
    (v : Value) (k : Nat) (xs : List Value) (ys : List Value) (hs : a.eval s = v) (hx : a.eval x = .slice (some ⟨W.heap.size, 0, none⟩) 1 1) (hys : ys.length = size) (h1 : ∀ u ∈ ys, u.oneCell' = true)
    (HO : W.ownsRow base e size v k xs) (hbase : base ≤ W.heap.size) (hl : (k + 1) * bytes ≤ 140737488355328)
    (h : ∀ A1 c1 w1, w1.ownsRow base e size (.slice A1 (k + 1) c1) (k + 1) (xs ++ ys) → (W.alloc (.cells ys.toArray e)).grownBy w1 v.ownBlock → wpListIn F nF P ops Q rest (a.put o.dst (.slice A1 (k + 1) c1)) w1) :
    wpListIn F nF P ops Q (o :: rest) a (W.alloc (.cells ys.toArray e)) := by
  obtain ⟨i0, hi, hz0, hz1, hz2⟩ := info_parts hinfo
  have hlen : k + 1 ≤ 140737488355328 := Nat.le_trans (Nat.le_mul_of_pos_right _ hb0) hl
  refine wpListIn_append_own_at (W.alloc (.cells ys.toArray e)) hgd s x t ho base e i0 z size bytes ht hi hz0 hz1 hz2 hz hsz v k xs hs (HO.alloc _) ⟨W.heap.size, 0, none⟩ 1 1 ys hx (by omega)
    (fun j u hj => World.news_of_block (cs := ys.toArray) (t := e) (fr := (0, 0)) (heap_alloc_new W _) j u (by simpa using hj)) h1 (by simp only [maxLen]; omega) hl (by simp; omega) ?_
  intro v1 w1 hown hg _ hat
  obtain ⟨A1, c1, rfl⟩ := own_slice hown
  exact h A1 c1 w1 hown hg
end
/-- All objects stay but cells of a type. -/
def KeepO (T : TypeId) (A B : World) : Prop := A.heap.size ≤ B.heap.size ∧ ∀ (k : Nat) (o : Obj), A.heap[k]? = some o → (∀ (cs : Array Value) (fr : Nat × Nat), o ≠ Obj.cells cs T fr) → B.heap[k]? = some o
theorem KeepO.trans {T : TypeId} {A B C : World} (h : KeepO T A B) (k : KeepO T B C) : KeepO T A C := ⟨Nat.le_trans h.1 k.1, fun i o hi ho => k.2 i o (h.2 i o hi ho) ho⟩
theorem KeepO.below {T : TypeId} {A B : World} (h : Below A.heap.size A B) : KeepO T A B := ⟨h.size, fun k o hk _ => (h.block k (Array.getElem?_eq_some_iff.1 hk).1).trans hk⟩
theorem KeepO.keepT {T : TypeId} {A B : World} (h : KeepO T A B) : KeepT [T] A B := ⟨h.1, fun k c t fr hk ht => h.2 k _ hk (fun cs fr' e => by injection e with _ e2 _; exact ht (by simp [e2]))⟩
theorem KeepO.stays {T : TypeId} {A B : World} {n : Nat} (h : KeepO T A B) : Stays n A B := fun k o _ ho hc => h.2 k o ho (fun cs fr e => by subst e; cases hc)
theorem KeepO.grown {T : TypeId} {A B : World} {row : Option Nat} (hg : A.grownBy B row) (hr : ∀ g, row = some g → ∃ (cs : Array Value) (fr : Nat × Nat), A.heap[g]? = some (.cells cs T fr)) : KeepO T A B := ⟨hg.size, fun k o hk ho => by
  rw [hg.block k (Array.getElem?_eq_some_iff.1 hk).1 (by
    rintro e
    obtain ⟨cs, fr, h⟩ := hr k e.symm
    rw [h] at hk; injection hk with hk; exact ho cs fr hk.symm)]
  exact hk⟩
/-- The steps of 'Walk' in memory. -/
def TWalk (n0 : Nat) (A B : World) : Prop := Below n0 A B ∧ KeepO 133 A B
theorem TWalk.below {n0 : Nat} {A B : World} (h : Below A.heap.size A B) (hn : n0 ≤ A.heap.size) : TWalk n0 A B := ⟨h.mono hn, KeepO.below h⟩
structure WkAt (w0 wr : World) (ns : List Node) (k : Nat) (A : Option Addr) (c d : Nat) (S : List (Nat × Nat)) (pl : Bool) (pre : List (Nat × Nat)) : Prop where
  row : RowAt wr w0.heap.size 133 2 (.slice A S.length c) (stk S)
  bel : Below w0.heap.size w0 wr
  ok : wok (ns.drop k) k pl ⟨d, S⟩
  vk : vok (ns.drop k) k pl ⟨d, S⟩
  vis : pre ++ wvis (ns.drop k) k pl ⟨d, S⟩ = wvis ns 0 false ⟨0, []⟩
  len : S.length ≤ k
set_option maxHeartbeats 3200000 in
set_option maxRecDepth 100000 in
theorem walk_seq (w0 W : World) (ns : List Node) (B cap b1 : Nat) (Vp : Option Addr) (cells : List Value) (TB : List TypeId) (hT1 : 70 ∉ TB) (hT2 : 133 ∉ TB) (h2 : w0.ownsRow B 70 6 (.slice Vp ns.length cap) ns.length cells) (h3 : Rows (NodeR w0) 6 ns cells) (hlen : ns.length ≤ 60000)
    (hw1 : wok ns 0 false ⟨0, []⟩) (hv : vok ns 0 false ⟨0, []⟩) (hW : Below w0.heap.size w0 W) (hb : W.heap[b1]? = some (.cells #[.slice Vp ns.length cap] 65 (0, 0))) :
    SeqT Tryz.prog 63 #[.pointer (some ⟨b1, 0, none⟩)] (fun x : Nat × Nat => #[.int .i64 (x.1 : Int), .int .i64 (x.2 : Int)]) (fun pre x W => (∃ suf, pre ++ x :: suf = wvis ns 0 false ⟨0, []⟩) ∧ Below w0.heap.size w0 W) (TWalk w0.heap.size) (KpB w0.heap.size TB)
      (fun xs W => xs = wvis ns 0 false ⟨0, []⟩) (fun pre W => True) W := by
  intro l J Jx hJ hJx hY h0
  have H2 := Lib.hid h2
  have H3 := Lib.hid h3
  have HT := Lib.hid hlen
  have HY := Lib.hid hY
  have HJ0 := Lib.hid hJ
  have HTB := Lib.hid (And.intro hT1 hT2)
  have c1 : W.cell? ⟨b1, 0, none⟩ = some (.slice Vp ns.length cap) := cell_of_row _ _ _ _ _ _ hb
  have HS0 : Hid (WkAt w0 W ns 0 none 0 0 [] false []) := ⟨RowAt.nil _ _ _ _, hW, by simpa using hw1, by simpa using hv, by simp, Nat.le_refl _⟩
  clear hY hJ hJx h2 h3 hlen hW hb hw1 hv hT1 hT2
  go_enter Tryz.func63, Tryz.ntmps63
  go_wp2
  clear c1
  go_loopg [3, 4, 10] ns.length (fun gk sv dv i wr => ∃ (k : Nat) (A : Option Addr) (c d : Nat) (S : List (Nat × Nat)) (pl : Bool) (pre : List (Nat × Nat)), gk = ns.length - k ∧ k ≤ ns.length ∧ i = .int .i64 (k : Int) ∧ dv = .int .i64 (d : Int) ∧ sv = .slice A S.length c ∧ Hid (d ≤ 65) ∧ Hid (WkAt w0 wr ns k A c d S pl pre) ∧ Hid (J pre wr))
  case atStart => exact ⟨0, none, 0, 0, [], false, [], rfl, Nat.zero_le _, rfl, rfl, rfl, Lib.hid (Nat.zero_le _), HS0, Lib.hid h0⟩
  case round =>
    obtain ⟨k, A, c, d, S, pl, pre, rfl, hk, rfl, rfl, rfl, HD, HW, HJ⟩ := hrel
    have hkb : (k : Int) ≤ 60000 := by have := HT.out; omega
    have hk9 : (0 : Int) ≤ (k : Int) := by omega
    by_cases hkn : k = ns.length
    · subst hkn
      have hv := HW.out.vis
      rw [List.drop_length] at hv
      have HV : Hid (pre = wvis ns 0 false ⟨0, []⟩) := by show _ = _; rw [← hv]; simp [wvis]
      clear hv HW H2 H3
      go_wp2
      go_end0
      exact ⟨⟨_, rfl⟩, .inl ⟨pre, HV.out, HJ.out⟩⟩
    · have hkn' : k < ns.length := by omega
      have hkl : (k : Int) < (ns.length : Int) := by omega
      have hdr : ns.drop k = ns[k] :: ns.drop (k + 1) := List.drop_eq_getElem_cons hkn'
      have hok := HW.out.ok
      have hvk := HW.out.vk
      have hvis := HW.out.vis
      rw [hdr] at hok hvk hvis
      obtain ⟨o1, o2, o3, o4⟩ := hok
      obtain ⟨v1, v2⟩ := hvk
      have HO := Lib.hid (And.intro o1 (And.intro o2 (And.intro o3 (And.intro o4 (And.intro v1 v2)))))
      have HVI : Hid (pre ++ (k, (wpop pl ⟨d, S⟩).d) :: wvis (ns.drop (k + 1)) (k + 1) (ns[k]).leaf (wpush ns[k] (wpop pl ⟨d, S⟩)) = wvis ns 0 false ⟨0, []⟩) := hvis
      obtain ⟨gT, rfl⟩ := own_addr H2.out (by omega)
      obtain ⟨Ai, ca, N, cn, hn⟩ := tree_node H2.out H3.out k hkn'
      have n0 := keepc HW.out.bel hn.c0
      have n1 := keepc HW.out.bel hn.c1
      have n2 := keepc HW.out.bel hn.c2
      have n3 := keepc HW.out.bel hn.c3
      have n4 := keepc HW.out.bel hn.c4
      have n5 := keepc HW.out.bel hn.c5
      have HROW := Lib.hid HW.out.row
      have HBE := Lib.hid HW.out.bel
      have HLEN := Lib.hid HW.out.len
      have hdb : (d : Int) ≤ 60000 := by have := HD.out; omega
      have hd9 : (0 : Int) ≤ (d : Int) := by omega
      clear hn hdr hvis o1 o2 o3 o4 v1 v2 HW hkn
      generalize ns[k] = x at *
      have HBA1 : Hid (Below wr.heap.size wr (wr.alloc (.cells #[.bool x.leaf, .slice Ai x.ids.length ca, .slice N x.nrm.length cn, .int .i64 x.off, .int .i64 x.left, .int .i64 x.right] 70))) := (Below.refl _ _).alloc (Nat.le_refl _) _
      have HG1 : Hid ((wr.alloc (.cells #[.bool x.leaf, .slice Ai x.ids.length ca, .slice N x.nrm.length cn, .int .i64 x.off, .int .i64 x.left, .int .i64 x.right] 70)).heap[wr.heap.size]? = some (.cells #[.bool x.leaf, .slice Ai x.ids.length ca, .slice N x.nrm.length cn, .int .i64 x.off, .int .i64 x.left, .int .i64 x.right] 70 (0, 0))) := heap_alloc_new _ _
      cases pl with
      | false =>
        generalize A = A1 at *
        generalize c = c1 at *
        generalize d = d1 at *
        generalize S = S1 at *
        have HWP : Hid (wpop false ⟨d1, S1⟩ = ⟨d1, S1⟩) := rfl
        have HD1 : Hid (d1 ≤ 64) := HO.out.2.1
        have HL1 := HLEN
        obtain ⟨WY, hWY⟩ : ∃ WY, wr.alloc (.cells #[.bool x.leaf, .slice Ai x.ids.length ca, .slice N x.nrm.length cn, .int .i64 x.off, .int .i64 x.left, .int .i64 x.right] 70) = WY := ⟨_, rfl⟩
        have HWY := Lib.hid hWY
        have HBY : Hid (Below wr.heap.size wr WY) := by show Below _ _ _; rw [← hWY]; exact HBA1.out
        have HGY : Hid (WY.heap[wr.heap.size]? = some (.cells #[.bool x.leaf, .slice Ai x.ids.length ca, .slice N x.nrm.length cn, .int .i64 x.off, .int .i64 x.left, .int .i64 x.right] 70 (0, 0))) := by show _ = _; rw [← hWY]; exact HG1.out
        have HRY := Lib.hid (HROW.out.below HBY.out)
        clear hWY HBA1 HG1
        have HBY1 := Lib.hid (HBE.out.trans (HBY.out.mono HBE.out.size))
        have HJY := Lib.hid (HJ0.out _ _ _ HJ.out (TWalk.below HBY.out HBE.out.size))
        have HVI2 := HVI.out
        rw [HWP.out] at HVI2
        obtain ⟨fn, tmps, assign, body, hy, hR⟩ := HY.out pre (k, d1) WY HJY.out ⟨⟨_, HVI2⟩, HBY1.out⟩
        have hy' : (Instr.yield l #[.int .i64 (k : Int), .int .i64 (d1 : Int)]).run Tryz.prog WY = .ok (.round l fn tmps assign body) WY := hy
        clear hy

        by_cases hS : S1.length = 0
        · have hsi : (S1.length : Int) = 0 := by omega
          clear hS
          refine (wpIn_wide (n := 1)).1 ?_
          gi_wp2
          rw [HWY.out, hy']
          clear hsi
          gi_wp2
          refine hR.mono ?_
          rintro e W3 (⟨rfl, hJ3, hk3⟩ | ⟨rfl, hJx3⟩)
          · have HJ3 := Lib.hid hJ3
            have HR3 : Hid (RowAt W3 w0.heap.size 133 2 (.slice A1 S1.length c1) (stk S1)) := by
              obtain ⟨rc, r1, r2⟩ := HRY.out
              exact ⟨rc, own_keepT r1 hk3.2 HTB.out.2, r2⟩
            have HG3 := Lib.hid (hk3.2.2 _ _ _ _ HGY.out HTB.out.1)
            have HB3 := Lib.hid (HBY1.out.trans hk3.1)
            clear hJ3 hk3 hR hy'
            cases hlf : x.leaf with
            | true =>
              have HWQ : Hid (wpush x (wpop false ⟨d1, S1⟩) = ⟨d1, S1⟩) := by show _ = _; rw [HWP.out]; unfold wpush; rw [if_pos hlf]
              rw [hlf] at HVI HO HG3
              have q0 : W3.cell? ⟨wr.heap.size, 0, none⟩ = some (.bool true) := cell_of_row _ _ _ _ _ _ HG3.out
              clear hlf HVI2
              gi_wp2
              go_roundg (ns.length - (k + 1))
              case measure => omega
              case rel => exact ⟨k + 1, A1, c1, d1, S1, true, pre ++ [(k, d1)], rfl, by omega, by simp, rfl, rfl, Lib.hid (by have := HD1.out; omega), ⟨HR3.out, HB3.out, by have := HO.out.2.2.2.1; rw [HWQ.out] at this; exact this, by have := HO.out.2.2.2.2.2; rw [HWQ.out] at this; exact this, by have := HVI.out; rw [HWQ.out, HWP.out] at this; rw [← this]; simp, by have := HL1.out; omega⟩, HJ3⟩
            | false =>
              have HWQ : Hid (wpush x (wpop false ⟨d1, S1⟩) = ⟨d1 + 1, (x.right.toNat, d1 + 1) :: S1⟩) := by show _ = _; rw [HWP.out]; unfold wpush; rw [if_neg (by rw [hlf]; decide)]
              obtain ⟨hleft, hright⟩ := HO.out.2.2.1 hlf
              have HRI : Hid (((x.right.toNat : Nat) : Int) = x.right) := Int.toNat_of_nonneg hright
              rw [hlf] at HVI HO HG3
              have q0 : W3.cell? ⟨wr.heap.size, 0, none⟩ = some (.bool false) := cell_of_row _ _ _ _ _ _ HG3.out
              have q5 : W3.cell? ⟨wr.heap.size, 5, none⟩ = some (.int .i64 x.right) := cell_of_row _ _ _ _ _ _ HG3.out
              have hd1b : (d1 : Int) ≤ 60000 := by have := HD1.out; omega
              obtain ⟨rc, hrow1, hrow2⟩ := HR3.out
              rw [stk_length] at hrow1
              have HR2 := Lib.hid (And.intro hrow1 hrow2)
              have HL2 := HL1.out
              clear hlf HVI2 hleft hright hrow1 hrow2
              gi_wp2_with (first
                | (gi_at_builtin; refine append_cellsIn (W := W3) w0.heap.size rfl _ _ 131 133 (.agg #[.int .i64 0, .int .i64 0]) 2 16 rfl Tryz.underlying131 Tryz.info133 rfl (by decide) (by decide) (.slice A1 S1.length c1) S1.length rc [.int .i64 x.right, .int .i64 ((d1 : Int) + 1)] rfl rfl rfl (by simp [Value.oneCell']) HR2.out.1 HB3.out.size (by omega) ?_; intro A4 c4 w4 ho4 hg4; have HO4 := Lib.hid ho4; have HG4 := Lib.hid hg4; clear ho4 hg4)
                | fail)
              go_roundg (ns.length - (k + 1))
              case measure => omega
              case rel =>
                have hba : Below W3.heap.size W3 (W3.alloc (.cells [.int .i64 x.right, .int .i64 ((d1 : Int) + 1)].toArray 133)) := (Below.refl _ _).alloc (Nat.le_refl _) _
                have hbg : Below w0.heap.size W3 w4 := (hba.mono HB3.out.size).grown HG4.out (Nat.le_trans HB3.out.size hba.size) (own_base HR2.out.1)
                have hko : KeepO 133 W3 w4 := (KeepO.below hba).trans (KeepO.grown HG4.out (fun g hg => by
                  obtain ⟨cur, hc⟩ := own_blk HR2.out.1 g hg
                  exact ⟨cur, _, (hba.block _ (lt_of_block hc)).trans hc⟩))
                refine ⟨k + 1, A4, c4, d1 + 1, (x.right.toNat, d1 + 1) :: S1, false, pre ++ [(k, d1)], rfl, by omega, by simp, by simp, rfl, Lib.hid (by have := HD1.out; omega), ⟨?_, HB3.out.trans hbg, by have := HO.out.2.2.2.1; rw [HWQ.out] at this; exact this, by have := HO.out.2.2.2.2.2; rw [HWQ.out] at this; exact this, by have := HVI.out; rw [HWQ.out, HWP.out] at this; rw [← this]; simp, by have := HL1.out; rw [List.length_cons]; omega⟩, Lib.hid (HJ0.out _ _ _ HJ3.out ⟨hbg, hko⟩)⟩
                rw [stk_cons]
                refine ⟨_, ?_, HR2.out.2.snoc ⟨rfl, rfl⟩ rfl⟩
                rw [List.length_append, stk_length, List.length_singleton, List.length_cons]
                have := HO4.out
                rw [← HRI.out] at this
                exact this
          · have HJ3 := Lib.hid hJx3
            clear hJx3 hR hy' HVI2
            gi_wp2
            refine bodyPost_ret (results_none rfl _ _ _) rfl ?_
            exact ⟨⟨_, rfl⟩, .inr ⟨_, trivial, HJ3.out⟩⟩
        · obtain ⟨p, r, hpr⟩ : ∃ p r, S1 = p :: r := by
            cases S1 with
            | nil => exact absurd rfl hS
            | cons p r => exact ⟨p, r, rfl⟩
          have hlr : S1.length = r.length + 1 := by rw [hpr]; rfl
          have hrow := HROW.out
          rw [← stk_length] at hrow
          have hst : (stk S1).length = r.length + 1 := by rw [stk_length, hlr]
          obtain ⟨g, rfl⟩ := hrow.addr (by omega)
          obtain ⟨u, -, -⟩ := hrow.cell r.length (by omega)
          have hsx : (stk S1)[r.length]'(by omega) = [(p.1 : Int), (p.2 : Int)] := by
            have : (stk S1)[r.length]? = some [(p.1 : Int), (p.2 : Int)] := by rw [hpr, stk_cons, List.getElem?_append_right (by rw [stk_length]; exact Nat.le_refl _), stk_length, Nat.sub_self]; rfl
            exact (List.getElem?_eq_some_iff.mp this).2
          rw [hsx] at u
          have u0 : wr.cell? ⟨g, r.length * 2, none⟩ = some (.int .i64 (p.1 : Int)) := u 0 _ rfl
          have hne : ((p.1 : Int) == (k : Int)) = false := by
            have := HO.out.2.2.2.2.1 rfl p (by rw [hpr]; exact List.mem_cons_self)
            rw [beq_eq_false_iff_ne]; omega
          have u0' : (wr.alloc (.cells #[.bool x.leaf, .slice Ai x.ids.length ca, .slice N x.nrm.length cn, .int .i64 x.off, .int .i64 x.left, .int .i64 x.right] 70)).cell? ⟨g, r.length * 2, none⟩ = some (.int .i64 (p.1 : Int)) := keepc (by rw [HWY.out]; exact HBY.out) u0
          have hsi : (S1.length : Int) = (r.length : Int) + 1 := by omega
          have hr9 : (0 : Int) ≤ (r.length : Int) := by omega
          have hrl : (r.length : Int) < (r.length : Int) + 1 := by omega
          have hrb : (r.length : Int) ≤ 60000 := by have := HL1.out; omega
          clear hS hpr hrow hst u hsx hlr
          refine (wpIn_wide (n := 1)).1 ?_
          gi_wp2
          rw [HWY.out, hy']
          clear hsi hne u0 u0' hr9 hrl hrb
          gi_wp2
          refine hR.mono ?_
          rintro e W3 (⟨rfl, hJ3, hk3⟩ | ⟨rfl, hJx3⟩)
          · have HJ3 := Lib.hid hJ3
            have HR3 : Hid (RowAt W3 w0.heap.size 133 2 (.slice (some ⟨g, 0, none⟩) S1.length c1) (stk S1)) := by
              obtain ⟨rc, r1, r2⟩ := HRY.out
              exact ⟨rc, own_keepT r1 hk3.2 HTB.out.2, r2⟩
            have HG3 := Lib.hid (hk3.2.2 _ _ _ _ HGY.out HTB.out.1)
            have HB3 := Lib.hid (HBY1.out.trans hk3.1)
            clear hJ3 hk3 hR hy'
            cases hlf : x.leaf with
            | true =>
              have HWQ : Hid (wpush x (wpop false ⟨d1, S1⟩) = ⟨d1, S1⟩) := by show _ = _; rw [HWP.out]; unfold wpush; rw [if_pos hlf]
              rw [hlf] at HVI HO HG3
              have q0 : W3.cell? ⟨wr.heap.size, 0, none⟩ = some (.bool true) := cell_of_row _ _ _ _ _ _ HG3.out
              clear hlf HVI2
              gi_wp2
              go_roundg (ns.length - (k + 1))
              case measure => omega
              case rel => exact ⟨k + 1, some ⟨g, 0, none⟩, c1, d1, S1, true, pre ++ [(k, d1)], rfl, by omega, by simp, rfl, rfl, Lib.hid (by have := HD1.out; omega), ⟨HR3.out, HB3.out, by have := HO.out.2.2.2.1; rw [HWQ.out] at this; exact this, by have := HO.out.2.2.2.2.2; rw [HWQ.out] at this; exact this, by have := HVI.out; rw [HWQ.out, HWP.out] at this; rw [← this]; simp, by have := HL1.out; omega⟩, HJ3⟩
            | false =>
              have HWQ : Hid (wpush x (wpop false ⟨d1, S1⟩) = ⟨d1 + 1, (x.right.toNat, d1 + 1) :: S1⟩) := by show _ = _; rw [HWP.out]; unfold wpush; rw [if_neg (by rw [hlf]; decide)]
              obtain ⟨hleft, hright⟩ := HO.out.2.2.1 hlf
              have HRI : Hid (((x.right.toNat : Nat) : Int) = x.right) := Int.toNat_of_nonneg hright
              rw [hlf] at HVI HO HG3
              have q0 : W3.cell? ⟨wr.heap.size, 0, none⟩ = some (.bool false) := cell_of_row _ _ _ _ _ _ HG3.out
              have q5 : W3.cell? ⟨wr.heap.size, 5, none⟩ = some (.int .i64 x.right) := cell_of_row _ _ _ _ _ _ HG3.out
              have hd1b : (d1 : Int) ≤ 60000 := by have := HD1.out; omega
              obtain ⟨rc, hrow1, hrow2⟩ := HR3.out
              rw [stk_length] at hrow1
              have HR2 := Lib.hid (And.intro hrow1 hrow2)
              have HL2 := HL1.out
              clear hlf HVI2 hleft hright hrow1 hrow2
              gi_wp2_with (first
                | (gi_at_builtin; refine append_cellsIn (W := W3) w0.heap.size rfl _ _ 131 133 (.agg #[.int .i64 0, .int .i64 0]) 2 16 rfl Tryz.underlying131 Tryz.info133 rfl (by decide) (by decide) (.slice (some ⟨g, 0, none⟩) S1.length c1) S1.length rc [.int .i64 x.right, .int .i64 ((d1 : Int) + 1)] rfl rfl rfl (by simp [Value.oneCell']) HR2.out.1 HB3.out.size (by omega) ?_; intro A4 c4 w4 ho4 hg4; have HO4 := Lib.hid ho4; have HG4 := Lib.hid hg4; clear ho4 hg4)
                | fail)
              go_roundg (ns.length - (k + 1))
              case measure => omega
              case rel =>
                have hba : Below W3.heap.size W3 (W3.alloc (.cells [.int .i64 x.right, .int .i64 ((d1 : Int) + 1)].toArray 133)) := (Below.refl _ _).alloc (Nat.le_refl _) _
                have hbg : Below w0.heap.size W3 w4 := (hba.mono HB3.out.size).grown HG4.out (Nat.le_trans HB3.out.size hba.size) (own_base HR2.out.1)
                have hko : KeepO 133 W3 w4 := (KeepO.below hba).trans (KeepO.grown HG4.out (fun g hg => by
                  obtain ⟨cur, hc⟩ := own_blk HR2.out.1 g hg
                  exact ⟨cur, _, (hba.block _ (lt_of_block hc)).trans hc⟩))
                refine ⟨k + 1, A4, c4, d1 + 1, (x.right.toNat, d1 + 1) :: S1, false, pre ++ [(k, d1)], rfl, by omega, by simp, by simp, rfl, Lib.hid (by have := HD1.out; omega), ⟨?_, HB3.out.trans hbg, by have := HO.out.2.2.2.1; rw [HWQ.out] at this; exact this, by have := HO.out.2.2.2.2.2; rw [HWQ.out] at this; exact this, by have := HVI.out; rw [HWQ.out, HWP.out] at this; rw [← this]; simp, by have := HL1.out; rw [List.length_cons]; omega⟩, Lib.hid (HJ0.out _ _ _ HJ3.out ⟨hbg, hko⟩)⟩
                rw [stk_cons]
                refine ⟨_, ?_, HR2.out.2.snoc ⟨rfl, rfl⟩ rfl⟩
                rw [List.length_append, stk_length, List.length_singleton, List.length_cons]
                have := HO4.out
                rw [← HRI.out] at this
                exact this
          · have HJ3 := Lib.hid hJx3
            clear hJx3 hR hy' HVI2
            gi_wp2
            refine bodyPost_ret (results_none rfl _ _ _) rfl ?_
            exact ⟨⟨_, rfl⟩, .inr ⟨_, trivial, HJ3.out⟩⟩
      | true =>
        obtain ⟨e1, S1, hS⟩ := HO.out.1 rfl
        subst hS
        generalize c = c1 at *
        have hrow := HROW.out
        rw [← stk_length] at hrow
        have hst : (stk ((k, e1) :: S1)).length = S1.length + 1 := by rw [stk_length]; rfl
        obtain ⟨g, rfl⟩ := hrow.addr (by omega)
        obtain ⟨u, -, -⟩ := hrow.cell S1.length (by omega)
        have hsx : (stk ((k, e1) :: S1))[S1.length]'(by omega) = [(k : Int), (e1 : Int)] := by
          have : (stk ((k, e1) :: S1))[S1.length]? = some [(k : Int), (e1 : Int)] := by rw [stk_cons, List.getElem?_append_right (by rw [stk_length]; exact Nat.le_refl _), stk_length, Nat.sub_self]; rfl
          exact (List.getElem?_eq_some_iff.mp this).2
        rw [hsx] at u
        have u0 : wr.cell? ⟨g, S1.length * 2, none⟩ = some (.int .i64 (k : Int)) := u 0 _ rfl
        have u1 : wr.cell? ⟨g, S1.length * 2 + 1, none⟩ = some (.int .i64 (e1 : Int)) := u 1 _ rfl
        have hcut := hrow.cut S1.length (by omega) (by omega)
        have hcap := hrow.cap
        rw [stk_cons, List.take_left' (stk_length S1)] at hcut
        generalize e1 = d1 at *
        have HWP : Hid (wpop true ⟨d, (k, d1) :: S1⟩ = ⟨d1, S1⟩) := rfl
        have HD1 : Hid (d1 ≤ 64) := HO.out.2.1
        have HL1 : Hid (S1.length ≤ k) := by have := HLEN.out; rw [List.length_cons] at this; show _ ≤ _; omega
        have HR1 := Lib.hid (hcut.below HBA1.out)
        have v0 := keepc HBA1.out u0
        have v1 := keepc HBA1.out u1
        have hsl9 : (0 : Int) ≤ (S1.length : Int) := by omega
        have hsl1 : (S1.length : Int) < (S1.length : Int) + 1 := by omega
        have hslc : (S1.length : Int) ≤ (c1 : Int) := by rw [hst] at hcap; omega
        have hslb : (S1.length : Int) ≤ 60000 := by have := HL1.out; omega
        have hd1b : (d1 : Int) ≤ 64 := by have := HD1.out; omega
        clear hrow hst u hsx hcut hcap
        refine (wpIn_wide (n := 1)).1 ?_
        gi_wp2
        refine (wpIn_wide (n := 1)).2 ?_
        go_quiet (fail)
        clear hsl1 hslc v0 v1 u0 u1
        obtain ⟨WY, hWY⟩ : ∃ WY, (wr.alloc (.cells #[.bool x.leaf, .slice Ai x.ids.length ca, .slice N x.nrm.length cn, .int .i64 x.off, .int .i64 x.left, .int .i64 x.right] 70)).drewN nq = WY := ⟨_, rfl⟩
        have HBY : Hid (Below wr.heap.size wr WY) := by show Below _ _ _; rw [← hWY]; exact bel_drewN HBA1.out _
        have HGY : Hid (WY.heap[wr.heap.size]? = some (.cells #[.bool x.leaf, .slice Ai x.ids.length ca, .slice N x.nrm.length cn, .int .i64 x.off, .int .i64 x.left, .int .i64 x.right] 70 (0, 0))) := by show _ = _; rw [← hWY]; exact HG1.out
        have HRY : Hid (RowAt WY w0.heap.size 133 2 (.slice (some ⟨g, 0, none⟩) S1.length c1) (stk S1)) := by show RowAt _ _ _ _ _ _; rw [← hWY]; exact HR1.out.below (bel_drewN (Below.refl _ _) _)
        rw [hWY]
        clear hWY HBA1 HG1 HR1
        have HBY1 := Lib.hid (HBE.out.trans (HBY.out.mono HBE.out.size))
        have HJY := Lib.hid (HJ0.out _ _ _ HJ.out (TWalk.below HBY.out HBE.out.size))
        have HVI2 := HVI.out
        rw [HWP.out] at HVI2
        obtain ⟨fn, tmps, assign, body, hy, hR⟩ := HY.out pre (k, d1) WY HJY.out ⟨⟨_, HVI2⟩, HBY1.out⟩
        have hy' : (Instr.yield l #[.int .i64 (k : Int), .int .i64 (d1 : Int)]).run Tryz.prog WY = .ok (.round l fn tmps assign body) WY := hy
        clear hy n0 n1 n2 n3 n4 n5
        gi_wp2
        refine hR.mono ?_
        rintro e W3 (⟨rfl, hJ3, hk3⟩ | ⟨rfl, hJx3⟩)
        · have HJ3 := Lib.hid hJ3
          have HR3 : Hid (RowAt W3 w0.heap.size 133 2 (.slice (some ⟨g, 0, none⟩) S1.length c1) (stk S1)) := by
            obtain ⟨rc, r1, r2⟩ := HRY.out
            exact ⟨rc, own_keepT r1 hk3.2 HTB.out.2, r2⟩
          have HG3 := Lib.hid (hk3.2.2 _ _ _ _ HGY.out HTB.out.1)
          have HB3 := Lib.hid (HBY1.out.trans hk3.1)
          clear hJ3 hk3 hR hy'
          cases hlf : x.leaf with
          | true =>
            have HWQ : Hid (wpush x (wpop true ⟨d, (k, d1) :: S1⟩) = ⟨d1, S1⟩) := by show _ = _; rw [HWP.out]; unfold wpush; rw [if_pos hlf]
            rw [hlf] at HVI HO HG3
            have q0 : W3.cell? ⟨wr.heap.size, 0, none⟩ = some (.bool true) := cell_of_row _ _ _ _ _ _ HG3.out
            clear hlf HVI2
            gi_wp2
            go_roundg (ns.length - (k + 1))
            case measure => omega
            case rel => exact ⟨k + 1, some ⟨g, 0, none⟩, c1, d1, S1, true, pre ++ [(k, d1)], rfl, by omega, by simp, rfl, rfl, Lib.hid (by have := HD1.out; omega), ⟨HR3.out, HB3.out, by have := HO.out.2.2.2.1; rw [HWQ.out] at this; exact this, by have := HO.out.2.2.2.2.2; rw [HWQ.out] at this; exact this, by have := HVI.out; rw [HWQ.out, HWP.out] at this; rw [← this]; simp, by have := HL1.out; omega⟩, HJ3⟩
          | false =>
            have HWQ : Hid (wpush x (wpop true ⟨d, (k, d1) :: S1⟩) = ⟨d1 + 1, (x.right.toNat, d1 + 1) :: S1⟩) := by show _ = _; rw [HWP.out]; unfold wpush; rw [if_neg (by rw [hlf]; decide)]
            obtain ⟨hleft, hright⟩ := HO.out.2.2.1 hlf
            have HRI : Hid (((x.right.toNat : Nat) : Int) = x.right) := Int.toNat_of_nonneg hright
            rw [hlf] at HVI HO HG3
            have q0 : W3.cell? ⟨wr.heap.size, 0, none⟩ = some (.bool false) := cell_of_row _ _ _ _ _ _ HG3.out
            have q5 : W3.cell? ⟨wr.heap.size, 5, none⟩ = some (.int .i64 x.right) := cell_of_row _ _ _ _ _ _ HG3.out
            have hd1b : (d1 : Int) ≤ 60000 := by have := HD1.out; omega
            obtain ⟨rc, hrow1, hrow2⟩ := HR3.out
            rw [stk_length] at hrow1
            have HR2 := Lib.hid (And.intro hrow1 hrow2)
            have HL2 := HL1.out
            clear hlf HVI2 hleft hright hrow1 hrow2
            gi_wp2_with (first
              | (gi_at_builtin; refine append_cellsIn (W := W3) w0.heap.size rfl _ _ 131 133 (.agg #[.int .i64 0, .int .i64 0]) 2 16 rfl Tryz.underlying131 Tryz.info133 rfl (by decide) (by decide) (.slice (some ⟨g, 0, none⟩) S1.length c1) S1.length rc [.int .i64 x.right, .int .i64 ((d1 : Int) + 1)] rfl rfl rfl (by simp [Value.oneCell']) HR2.out.1 HB3.out.size (by omega) ?_; intro A4 c4 w4 ho4 hg4; have HO4 := Lib.hid ho4; have HG4 := Lib.hid hg4; clear ho4 hg4)
              | fail)
            go_roundg (ns.length - (k + 1))
            case measure => omega
            case rel =>
              have hba : Below W3.heap.size W3 (W3.alloc (.cells [.int .i64 x.right, .int .i64 ((d1 : Int) + 1)].toArray 133)) := (Below.refl _ _).alloc (Nat.le_refl _) _
              have hbg : Below w0.heap.size W3 w4 := (hba.mono HB3.out.size).grown HG4.out (Nat.le_trans HB3.out.size hba.size) (own_base HR2.out.1)
              have hko : KeepO 133 W3 w4 := (KeepO.below hba).trans (KeepO.grown HG4.out (fun g hg => by
                obtain ⟨cur, hc⟩ := own_blk HR2.out.1 g hg
                exact ⟨cur, _, (hba.block _ (lt_of_block hc)).trans hc⟩))
              refine ⟨k + 1, A4, c4, d1 + 1, (x.right.toNat, d1 + 1) :: S1, false, pre ++ [(k, d1)], rfl, by omega, by simp, by simp, rfl, Lib.hid (by have := HD1.out; omega), ⟨?_, HB3.out.trans hbg, by have := HO.out.2.2.2.1; rw [HWQ.out] at this; exact this, by have := HO.out.2.2.2.2.2; rw [HWQ.out] at this; exact this, by have := HVI.out; rw [HWQ.out, HWP.out] at this; rw [← this]; simp, by have := HL1.out; rw [List.length_cons]; omega⟩, Lib.hid (HJ0.out _ _ _ HJ3.out ⟨hbg, hko⟩)⟩
              rw [stk_cons]
              refine ⟨_, ?_, HR2.out.2.snoc ⟨rfl, rfl⟩ rfl⟩
              rw [List.length_append, stk_length, List.length_singleton, List.length_cons]
              have := HO4.out
              rw [← HRI.out] at this
              exact this
        · have HJ3 := Lib.hid hJx3
          clear hJx3 hR hy' HVI2
          gi_wp2
          refine bodyPost_ret (results_none rfl _ _ _) rfl ?_
          exact ⟨⟨_, rfl⟩, .inr ⟨_, trivial, HJ3.out⟩⟩
end Go.Proofs.YtladmconpolneaaGreat

/- shape.Depth, shape.Count. -/
set_option linter.unusedVariables false
set_option linter.unusedSimpArgs false
namespace Go.Proofs.YtladmconpolneaaGreat
open Go.RowKit
attribute [local go_sem] Oper.semAt_some
theorem walkf_any (V : Option Addr) (len cap : Nat) (w : World) : Calls Tryz.prog 28 #[.slice V len cap] w fun e w' => e = .returned (.func (.func 63) #[] #[.pointer (some ⟨w.heap.size, 0, none⟩)]) ∧ w' = w.alloc (.cells #[.slice V len cap] 65) := by
  go_enter Tryz.func28, Tryz.ntmps28
  go_wp2
  go_ret
  exact ⟨rfl, rfl⟩
abbrev WSeq (w W : World) (ns : List Node) (b1 : Nat) (TB : List TypeId) : Prop :=
  SeqT Tryz.prog 63 #[.pointer (some ⟨b1, 0, none⟩)] (fun x : Nat × Nat => #[.int .i64 (x.1 : Int), .int .i64 (x.2 : Int)]) (fun pre x W => (∃ suf, pre ++ x :: suf = wvis ns 0 false ⟨0, []⟩) ∧ Below w.heap.size w W) (TWalk w.heap.size) (KpB w.heap.size TB)
    (fun xs W => xs = wvis ns 0 false ⟨0, []⟩) (fun pre W => True) W
/-- A counter of the caller's, between two rounds. -/
structure CtAt (w W : World) (b : Nat) (m : Int) : Prop where
  box : W.heap[b]? = some (.cells #[.int .i64 m] 3 (0, 0))
  bel : Below w.heap.size w W
theorem CtAt.keep {w W W' : World} {b : Nat} {m : Int} {T : List TypeId} (h : CtAt w W b m) (hk : KeepT T W W') (h3 : 3 ∉ T) (hb : Below w.heap.size W W') : CtAt w W' b m := ⟨hk.2 _ _ _ _ h.box h3, h.bel.trans hb⟩
set_option maxHeartbeats 1600000 in
theorem depth_any (w : World) (ns : List Node) (B cap D : Nat) (V : Option Addr) (cells : List Value) (h2 : w.ownsRow B 70 6 (.slice V ns.length cap) ns.length cells) (h3 : Rows (NodeR w) 6 ns cells) (hlen : ns.length ≤ 60000)
    (hw1 : wok ns 0 false ⟨0, []⟩) (hv : vok ns 0 false ⟨0, []⟩) (hD : ∀ p ∈ wvis ns 0 false ⟨0, []⟩, p.2 ≤ D) :
    Calls Tryz.prog 27 #[.slice V ns.length cap] w fun e w' => ∃ m : Nat, e = .returned (.int .i64 (m : Int)) ∧ m ≤ D ∧ Below w.heap.size w w' := by
  have HL : Hid (∀ W, Calls Tryz.prog 28 #[.slice V ns.length cap] W fun e w' => e = .returned (.func (.func 63) #[] #[.pointer (some ⟨W.heap.size, 0, none⟩)]) ∧ w' = W.alloc (.cells #[.slice V ns.length cap] 65)) := walkf_any V ns.length cap
  have HSQ : Hid (∀ W b1, Below w.heap.size w W → W.heap[b1]? = some (.cells #[.slice V ns.length cap] 65 (0, 0)) → WSeq w W ns b1 [3]) := fun W b1 hb h1 => walk_seq w W ns B cap b1 V cells [3] (by simp) (by simp) h2 h3 hlen hw1 hv hb h1
  have HD := Lib.hid hD
  clear h2 h3 hlen hw1 hv hD
  refine calls_marks Tryz.func27 rfl ?_
  simp only [Tryz.ntmps27, List.size_toArray, List.length_cons, List.length_nil, Nat.reduceAdd, Nat.reduceSub, Array.replicate_succ, Array.replicate_zero, List.push_toArray, List.append_toArray, List.nil_append, List.cons_append]
  go_wp2_with (first
    | (go_at_call 28; refine (HL.out _).mono ?_; rintro e w2 ⟨rfl, rfl⟩)
    | fail)
  have hB3 : Below w.heap.size w (w.alloc (.cells #[.int .i64 0] 3)) := (Below.refl _ _).alloc (Nat.le_refl _) _
  have HC0 : Hid (CtAt w ((w.alloc (.cells #[.int .i64 0] 3)).alloc (.cells #[.slice V ns.length cap] 65)) w.heap.size 0) := ⟨by rw [Below.heap_alloc _ _ _ (by simp)]; exact heap_alloc_new _ _, hB3.alloc (by simp) _⟩
  have HG5 : Hid (((w.alloc (.cells #[.int .i64 0] 3)).alloc (.cells #[.slice V ns.length cap] 65)).heap[w.heap.size + 1]? = some (.cells #[.slice V ns.length cap] 65 (0, 0))) := alloc_at0 _ _ _ (by simp)
  clear hB3
  generalize (w.alloc (.cells #[.int .i64 0] 3)).alloc (.cells #[.slice V ns.length cap] 65) = W0 at *
  have HSZ : Hid (w.heap.size ≤ W0.heap.size) := HC0.out.bel.size
  have hlt := lt_of_block HC0.out.box
  have hkeep : ∀ o o' : Obj, KeepT [] W0 ((W0.alloc o).alloc o') := fun o o' => (KeepT.below ((Below.refl _ _).alloc (Nat.le_refl _) _)).trans (KeepT.below ((Below.refl _ _).alloc (Nat.le_refl _) _))
  have hbel : ∀ o o' : Obj, Below w.heap.size W0 ((W0.alloc o).alloc o') := fun o o' => ((Below.refl _ _).alloc HSZ.out _).alloc (by have := HSZ.out; simp; omega) _
  refine wp_rangeT (α := Nat × Nat) (gf := 63) (lb := #[.pointer (some ⟨w.heap.size + 1, 0, none⟩)]) rfl (Go.Proofs.enters_of Tryz.func63 (by kernel_rfl) rfl) (encs := fun x : Nat × Nat => #[.int .i64 (x.1 : Int), .int .i64 (x.2 : Int)])
    (V := fun pre x W => (∃ suf, pre ++ x :: suf = wvis ns 0 false ⟨0, []⟩) ∧ Below w.heap.size w W) (T := TWalk w.heap.size) (Kp := KpB w.heap.size [3]) (S := fun xs W => xs = wvis ns 0 false ⟨0, []⟩) (Sp := fun _ _ => True)
    (fun o o' _ _ => HSQ.out _ _ (HC0.out.bel.trans (hbel o o')) ((hkeep o o').2 _ _ _ _ HG5.out (by simp))) (fun _ => rfl)
    (fun pre W => ∃ m : Nat, m ≤ D ∧ CtAt w W w.heap.size (m : Int)) (fun _ _ _ => False)
    ?_ ?_ ?_ ?_ ?_ ?_ ?_ ?_ ?_ ?_ ?round ?done ?stop
  · intro A B h; exact h.2.stays
  · rintro s A B ⟨m, hm, h⟩ ht; exact ⟨m, hm, h.keep ht.2.keepT (by simp) ht.1⟩
  · intro c s A B h _; exact h
  · rintro s W o o' ⟨m, hm, h⟩ h4 h5 h6; exact ⟨m, hm, h.keep (KeepT.putObj o' h4 h5) (by simp) (bel_putObj (Below.refl _ _) (by have := HSZ.out; omega))⟩
  · intro c s W o o' h; exact h.elim
  · intro A B C h k; exact h.trans k
  · intro W o o' h1 h2; exact KpB.putObj o' h1 h2 (by have := HSZ.out; omega)
  · intro s W o' h; exact h
  · intro s W o' h; exact h
  · intro o o' _ _; exact ⟨0, Nat.zero_le _, HC0.out.keep (hkeep o o') (by simp) (hbel o o')⟩
  case round =>
    rintro l pre ⟨pa, pd⟩ W ⟨m, hm, hI⟩ ⟨⟨suf, hs⟩, hbv⟩ _
    have hpd : pd ≤ D := HD.out (pa, pd) (by rw [← hs]; simp)
    gi_wp2
    refine ⟨Stays.refl _ _, ?_⟩
    rintro o ho
    try simp only [forall_exists_index, and_imp]
    intro o1 ho1 ho2
    have hk0 := KeepT.putObj o ho1 ho2
    have HI1 := Lib.hid (hI.keep hk0 (by simp) (bel_putObj (Below.refl _ _) (r := W0.heap.size + 1) (by have := HSZ.out; omega)))
    have HKP : Hid (KpB w.heap.size [3] W (W.putObj (W0.heap.size + 1) o)) := KpB.putObj o ho1 ho2 (by have := HSZ.out; omega)
    generalize W.putObj (W0.heap.size + 1) o = W1 at *
    have c3 : W1.cell? ⟨w.heap.size, 0, none⟩ = some (.int .i64 (m : Int)) := cell_of_row _ _ _ _ _ _ HI1.out.box
    have f3 : W1.frozen? ⟨w.heap.size, 0, none⟩ = false := frozen_of_row _ _ _ _ _ HI1.out.box
    have HM := Lib.hid (And.intro hm hpd)
    clear hI hs hbv ho1 hk0 hm hpd
    have hfin : ∀ m' : Nat, m' ≤ D → Stays W0.heap.size W1 (W1.setCell ⟨w.heap.size, 0, none⟩ (.int .i64 (m' : Int))) ∧ KpB w.heap.size [3] W (W1.setCell ⟨w.heap.size, 0, none⟩ (.int .i64 (m' : Int))) ∧ ∃ m : Nat, m ≤ D ∧ CtAt w (W1.setCell ⟨w.heap.size, 0, none⟩ (.int .i64 (m' : Int))) w.heap.size (m : Int) := fun m' hm' =>
      ⟨Stays.setCell HI1.out.box, HKP.out.trans ⟨(Below.refl w.heap.size W1).setCell (p := ⟨w.heap.size, 0, none⟩) (Nat.le_refl _) _, KeepT.set HI1.out.box (by simp)⟩, m', hm', heap_setCell_same W1 w.heap.size 0 _ _ _ HI1.out.box, HI1.out.bel.setCell (p := ⟨w.heap.size, 0, none⟩) (Nat.le_refl _) _⟩
    have HFIN := Lib.hid hfin
    clear hfin
    gi_wp2
    all_goals first | exact HFIN.out m HM.out.1 | exact HFIN.out pd HM.out.2
  case done =>
    rintro xs W hS ⟨m, hm, hI⟩ hK
    have c3 : W.cell? ⟨w.heap.size, 0, none⟩ = some (.int .i64 (m : Int)) := cell_of_row _ _ _ _ _ _ hI.box
    have HI1 := Lib.hid hI
    have HM := Lib.hid hm
    have HK := Lib.hid hK
    clear hS hI hK hm
    go_wp2
    refine ⟨by simp, .inl ⟨_, _, rfl, run_takeDeferred HK.out, ?_⟩⟩
    refine ⟨_, results_tmp rfl _ _ _, ?_⟩
    exact ⟨m, rfl, HM.out, bel_putObj HI1.out.bel HSZ.out⟩
  case stop =>
    rintro c pre W _ h _
    exact h.elim
abbrev LSeq (w W : World) (ns : List Node) (b1 : Nat) (TB : List TypeId) : Prop :=
  SeqT Tryz.prog 102 #[.pointer (some ⟨b1, 0, none⟩)] (fun x : LV => #[.slice x.2.1 x.1.length x.2.2]) (fun pre x W => RT W 3 x.2.1 x.1.length (natV x.1) ∧ ∃ k, k < ns.length ∧ pre.map (·.1) = lf (ns.take k) ∧ lf (ns.take (k + 1)) = lf (ns.take k) ++ [x.1] ∧ Below w.heap.size w W) (fun A B => Below A.heap.size A B) (KpB w.heap.size TB)
    (fun xs W => xs.map (·.1) = lf ns) (fun pre W => True) W
theorem lf_length_le (ns : List Node) : (lf ns).length ≤ ns.length := by unfold lf; rw [List.length_map]; exact List.length_filter_le _ _
set_option maxHeartbeats 1600000 in
theorem count_any (w : World) (ns : List Node) (B cap : Nat) (V : Option Addr) (cells : List Value) (h2 : w.ownsRow B 70 6 (.slice V ns.length cap) ns.length cells) (h3 : Rows (NodeR w) 6 ns cells) (hlen : ns.length ≤ 60000 ∧ ∀ x ∈ ns, x.ids.length ≤ 60000) :
    Calls Tryz.prog 25 #[.slice V ns.length cap] w fun e w' => e = .returned (.tuple #[.int .i64 (ns.length : Int), .int .i64 ((lf ns).length : Int)]) ∧ Below w.heap.size w w' := by
  have HL : Hid (∀ W, Calls Tryz.prog 57 #[.slice V ns.length cap] W fun e w' => e = .returned (.func (.func 102) #[] #[.pointer (some ⟨W.heap.size, 0, none⟩)]) ∧ w' = W.alloc (.cells #[.slice V ns.length cap] 65)) := leaves_any V ns.length cap
  have HSQ : Hid (∀ W b1, Below w.heap.size w W → W.heap[b1]? = some (.cells #[.slice V ns.length cap] 65 (0, 0)) → LSeq w W ns b1 [3]) := fun W b1 hb h1 => leaves_seq w W ns B cap b1 V cells [3] h2 h3 hlen hb h1
  have HN := Lib.hid hlen.1
  clear h2 h3 hlen
  refine calls_marks Tryz.func25 rfl ?_
  simp only [Tryz.ntmps25, List.size_toArray, List.length_cons, List.length_nil, Nat.reduceAdd, Nat.reduceSub, Array.replicate_succ, Array.replicate_zero, List.push_toArray, List.append_toArray, List.nil_append, List.cons_append]
  go_wp2_with (first
    | (go_at_call 57; refine (HL.out _).mono ?_; rintro e w2 ⟨rfl, rfl⟩)
    | fail)
  have hB3 : Below w.heap.size w (w.alloc (.cells #[.int .i64 0] 3)) := (Below.refl _ _).alloc (Nat.le_refl _) _
  have HC0 : Hid (CtAt w ((w.alloc (.cells #[.int .i64 0] 3)).alloc (.cells #[.slice V ns.length cap] 65)) w.heap.size 0) := ⟨by rw [Below.heap_alloc _ _ _ (by simp)]; exact heap_alloc_new _ _, hB3.alloc (by simp) _⟩
  have HG5 : Hid (((w.alloc (.cells #[.int .i64 0] 3)).alloc (.cells #[.slice V ns.length cap] 65)).heap[w.heap.size + 1]? = some (.cells #[.slice V ns.length cap] 65 (0, 0))) := alloc_at0 _ _ _ (by simp)
  clear hB3
  generalize (w.alloc (.cells #[.int .i64 0] 3)).alloc (.cells #[.slice V ns.length cap] 65) = W0 at *
  have HSZ : Hid (w.heap.size ≤ W0.heap.size) := HC0.out.bel.size
  have hlt := lt_of_block HC0.out.box
  have hkeep : ∀ o o' : Obj, KeepT [] W0 ((W0.alloc o).alloc o') := fun o o' => (KeepT.below ((Below.refl _ _).alloc (Nat.le_refl _) _)).trans (KeepT.below ((Below.refl _ _).alloc (Nat.le_refl _) _))
  have hbel : ∀ o o' : Obj, Below w.heap.size W0 ((W0.alloc o).alloc o') := fun o o' => ((Below.refl _ _).alloc HSZ.out _).alloc (by have := HSZ.out; simp; omega) _
  refine wp_rangeT (α := LV) (gf := 102) (lb := #[.pointer (some ⟨w.heap.size + 1, 0, none⟩)]) rfl (Go.Proofs.enters_of Tryz.func102 (by kernel_rfl) rfl) (encs := fun x : LV => #[.slice x.2.1 x.1.length x.2.2])
    (V := fun pre x W => RT W 3 x.2.1 x.1.length (natV x.1) ∧ ∃ k, k < ns.length ∧ pre.map (·.1) = lf (ns.take k) ∧ lf (ns.take (k + 1)) = lf (ns.take k) ++ [x.1] ∧ Below w.heap.size w W) (T := fun A B => Below A.heap.size A B) (Kp := KpB w.heap.size [3]) (S := fun xs W => xs.map (·.1) = lf ns) (Sp := fun _ _ => True)
    (fun o o' _ _ => HSQ.out _ _ (HC0.out.bel.trans (hbel o o')) ((hkeep o o').2 _ _ _ _ HG5.out (by simp))) (fun _ => rfl)
    (fun pre W => CtAt w W w.heap.size (pre.length : Int)) (fun _ _ _ => False)
    ?_ ?_ ?_ ?_ ?_ ?_ ?_ ?_ ?_ ?_ ?round ?done ?stop
  · intro A B h; exact Stays.below h
  · intro s A B h hb; exact h.keep (T := []) (KeepT.below hb) (by simp) (hb.mono h.bel.size)
  · intro c s A B h _; exact h
  · intro s W o o' h h4 h5 h6; exact h.keep (KeepT.putObj o' h4 h5) (by simp) (bel_putObj (Below.refl _ _) (by have := HSZ.out; omega))
  · intro c s W o o' h; exact h.elim
  · intro A B C h k; exact h.trans k
  · intro W o o' h1 h2; exact KpB.putObj o' h1 h2 (by have := HSZ.out; omega)
  · intro s W o' h; exact h
  · intro s W o' h; exact h
  · intro o o' _ _; exact HC0.out.keep (hkeep o o') (by simp) (hbel o o')
  case round =>
    rintro l pre ⟨ids, Ai, ci⟩ W hI ⟨hrt, k, hk, hp, hs, hbv⟩ _
    have hpl : pre.length ≤ 60000 := by
      have h1 : pre.length = (lf (ns.take k)).length := by rw [← hp, List.length_map]
      have h2 := lf_length_le (ns.take k)
      have h3 := HN.out
      rw [List.length_take] at h2
      omega
    gi_wp2
    refine ⟨Stays.refl _ _, ?_⟩
    rintro o ho
    try simp only [forall_exists_index, and_imp]
    intro o1 ho1 ho2
    have hk0 := KeepT.putObj o ho1 ho2
    have HI1 := Lib.hid (hI.keep hk0 (by simp) (bel_putObj (Below.refl _ _) (r := W0.heap.size + 1) (by have := HSZ.out; omega)))
    have HKP : Hid (KpB w.heap.size [3] W (W.putObj (W0.heap.size + 1) o)) := KpB.putObj o ho1 ho2 (by have := HSZ.out; omega)
    generalize W.putObj (W0.heap.size + 1) o = W1 at *
    have c3 : W1.cell? ⟨w.heap.size, 0, none⟩ = some (.int .i64 (pre.length : Int)) := cell_of_row _ _ _ _ _ _ HI1.out.box
    have f3 : W1.frozen? ⟨w.heap.size, 0, none⟩ = false := frozen_of_row _ _ _ _ _ HI1.out.box
    have hpl9 : (pre.length : Int) ≤ 60000 := by omega
    clear hI hrt hk hp hs hbv ho1 hk0 hpl
    gi_wp2
    refine ⟨Stays.setCell HI1.out.box, HKP.out.trans ⟨(Below.refl w.heap.size W1).setCell (p := ⟨w.heap.size, 0, none⟩) (Nat.le_refl _) _, KeepT.set HI1.out.box (by simp)⟩, ?_, HI1.out.bel.setCell (p := ⟨w.heap.size, 0, none⟩) (Nat.le_refl _) _⟩
    rw [List.length_append, List.length_singleton]
    exact heap_setCell_same W1 w.heap.size 0 _ _ _ HI1.out.box
  case done =>
    rintro xs W hS hI hK
    have hxl : xs.length = (lf ns).length := by rw [← hS, List.length_map]
    rw [hxl] at hI
    have c3 : W.cell? ⟨w.heap.size, 0, none⟩ = some (.int .i64 ((lf ns).length : Int)) := cell_of_row _ _ _ _ _ _ hI.box
    have HI1 := Lib.hid hI
    have HK := Lib.hid hK
    clear hS hI hK hxl
    go_wp2
    go_quiet (fail)
    go_wp2
    have HK2 : (W.drewN nq).heap[W0.heap.size]? = some (.deferred (some [])) := HK.out
    refine ⟨by simp, .inl ⟨_, _, rfl, run_takeDeferred HK2, ?_⟩⟩
    refine ⟨_, results_tmp2 rfl _ _ _, ?_⟩
    exact ⟨rfl, bel_putObj (bel_drewN HI1.out.bel _) HSZ.out⟩
  case stop =>
    rintro c pre W _ h _
    exact h.elim
end Go.Proofs.YtladmconpolneaaGreat

/- layout.Check, search.Check. -/
set_option linter.unusedVariables false
set_option linter.unusedSimpArgs false
namespace Go.Proofs.YtladmconpolneaaGreat
open Go.RowKit
structure FOk (ts : List (List Node)) (n dim depth : Nat) : Prop where
  cnt : 1 ≤ ts.length ∧ ts.length ≤ 256
  ok : ∀ t ∈ ts, TOk t n dim
  vk : ∀ t ∈ ts, vok t 0 false ⟨0, []⟩
  vd : ∀ t ∈ ts, ∀ p ∈ wvis t 0 false ⟨0, []⟩, p.2 ≤ depth
set_option maxHeartbeats 1600000 in
set_option maxRecDepth 100000 in
theorem lcheck_any (w : World) (B bi dim n lfn depth : Nat) (F : List Int) (ts : List (List Node)) (TA : Option Addr) (tc : Nat) (hi : ItemsAt w B bi dim n F) (hf : ForestAt w (.slice TA ts.length tc) ts) (hok : FOk ts n dim depth) (hl : 1 ≤ lfn ∧ lfn ≤ 1024) (hdp : depth ≤ 64) (hn : 1 ≤ n ∧ n ≤ 64) (hd : 1 ≤ dim ∧ dim ≤ 1024) :
    Calls Tryz.prog 70 #[.agg #[.pointer (some ⟨bi, 0, none⟩), .int .i64 (lfn : Int), .int .i64 (depth : Int), .slice TA ts.length tc]] w fun e w' => e = .returned (.int .i64 0) ∧ Below w.heap.size w w' := by
  have HI := Lib.hid hi
  have HF := Lib.hid hf
  have HOK := Lib.hid hok
  have HLN : Hid (∀ W, Below w.heap.size w W → Calls Tryz.prog 73 #[.pointer (some ⟨bi, 0, none⟩)] W fun e w' => e = .returned (.int .i64 (n : Int)) ∧ Below W.heap.size W w') := fun W hb => (len_any W (hi.below hb)).mono (by rintro e w' ⟨rfl, nn, rfl⟩; exact ⟨rfl, bel_drewN (Below.refl _ _) _⟩)
  have HDM : Hid (∀ W, Below w.heap.size w W → Calls Tryz.prog 72 #[.pointer (some ⟨bi, 0, none⟩)] W fun e w' => e = .returned (.int .i64 (dim : Int)) ∧ Below W.heap.size W w') := fun W hb => (dim_any W (hi.below hb)).mono (by rintro e w' ⟨rfl, rfl⟩; exact ⟨rfl, Below.refl _ _⟩)
  have HSC : Hid (∀ W, Below w.heap.size w W → ∀ k (hk : k < ts.length) A cap, W.cell? ⟨(match TA with | some a => a.block | none => 0), k, none⟩ = some (.slice A (ts[k]).length cap) → True) := fun _ _ _ _ _ _ _ => trivial
  have HB0 : Hid (∀ o, Below w.heap.size w (w.alloc o)) := fun o => (Below.refl _ _).alloc (Nat.le_refl _) _
  have HG := Lib.hid (heap_alloc_new w (.cells #[.pointer (some ⟨bi, 0, none⟩), .int .i64 (lfn : Int), .int .i64 (depth : Int), .slice TA ts.length tc] 62))
  have a1 : ((n : Int) == 0) = false := by rw [beq_eq_false_iff_ne]; omega
  have a2 : ¬ (lfn : Int) < 1 := by omega
  have a3 : ¬ (lfn : Int) > 1024 := by omega
  have a4 : ¬ (depth : Int) < 0 := by omega
  have a5 : ¬ (depth : Int) > 64 := by omega
  have hc := hok.cnt
  have a6 : ¬ (ts.length : Int) < 1 := by omega
  have a7 : ¬ (ts.length : Int) > 256 := by omega
  obtain ⟨W0, hW0⟩ : ∃ W, w.alloc (.cells #[.pointer (some ⟨bi, 0, none⟩), .int .i64 (lfn : Int), .int .i64 (depth : Int), .slice TA ts.length tc] 62) = W := ⟨_, rfl⟩
  have HW0 := Lib.hid hW0
  have HBW : Hid (Below w.heap.size w W0) := by show Below _ _ _; rw [← hW0]; exact HB0.out _
  rw [hW0] at HG
  clear hi hf hok hl hdp hc hW0 HSC
  go_enter Tryz.func70, Tryz.ntmps70
  go_wp2_with (first
    | (go_at_call 73; rw [HW0.out]; refine (HLN.out _ HBW.out).mono ?_; rintro e w2 ⟨rfl, hb⟩; have HB2 := Lib.hid (HBW.out.trans (hb.mono HBW.out.size))
       have HG2 := Lib.hid ((hb.block _ (lt_of_block HG.out)).trans HG.out)
       have q0 : w2.cell? ⟨w.heap.size, 0, none⟩ = some (.pointer (some ⟨bi, 0, none⟩)) := cell_of_row _ _ _ _ _ _ HG2.out
       have q1 : w2.cell? ⟨w.heap.size, 1, none⟩ = some (.int .i64 (lfn : Int)) := cell_of_row _ _ _ _ _ _ HG2.out
       have q2 : w2.cell? ⟨w.heap.size, 2, none⟩ = some (.int .i64 (depth : Int)) := cell_of_row _ _ _ _ _ _ HG2.out
       have q3 : w2.cell? ⟨w.heap.size, 3, none⟩ = some (.slice TA ts.length tc) := cell_of_row _ _ _ _ _ _ HG2.out
       clear hb)
    | fail)
  clear q1 a1 a2 a3 a4 a5 a6
  go_loopg [4, 48] ts.length (fun gk tv i wr => ∃ k : Nat, gk = ts.length - k ∧ k ≤ ts.length ∧ i = .int .i64 (k : Int) ∧ Hid (Below w2.heap.size w2 wr))
  case atStart => exact ⟨0, rfl, Nat.zero_le _, rfl, Lib.hid (Below.refl _ _)⟩
  case round =>
    obtain ⟨k, rfl, hk, rfl, HB⟩ := hrel
    by_cases hkn : k = ts.length
    · subst hkn
      go_wp2
      go_ret
      exact ⟨rfl, HB2.out.trans (HB.out.mono HB2.out.size)⟩
    · have hkn' : k < ts.length := by omega
      have hkl : (k : Int) < (ts.length : Int) := by omega
      have hk9 : (0 : Int) ≤ (k : Int) := by omega
      have hkb : (k : Int) ≤ 256 := by omega
      have HBX := Lib.hid (HB2.out.trans (HB.out.mono HB2.out.size))
      obtain ⟨fc, hfo, _⟩ := HF.out
      obtain ⟨gF, rfl⟩ := own_addr hfo (by omega)
      have hmem : ts[k] ∈ ts := List.getElem_mem hkn'
      have htk := HOK.out.ok _ hmem
      have hvk := HOK.out.vk _ hmem
      have hvd := HOK.out.vd _ hmem
      obtain ⟨A, cap, cells, hct, ho, hr⟩ := (HF.out.keep (KeepF.below HBX.out)).tree k hkn'
      have HCK : Hid (∀ W, Below wr.heap.size wr W → Calls Tryz.prog 26 #[.slice A (ts[k]).length cap, .int .i64 (n : Int), .int .i64 (dim : Int)] W fun e w' => e = .returned (.int .i64 0) ∧ Below W.heap.size W w') := fun W hb => scheck_any W ts[k] 0 cap n dim A cells (own_belowW ho hb) (rows_belowW hr hb) htk hd hn
      have HDK : Hid (∀ W, Below wr.heap.size wr W → Calls Tryz.prog 27 #[.slice A (ts[k]).length cap] W fun e w' => ∃ m : Nat, e = .returned (.int .i64 (m : Int)) ∧ m ≤ depth ∧ Below W.heap.size W w') := fun W hb => depth_any W ts[k] 0 cap depth A cells (own_belowW ho hb) (rows_belowW hr hb) htk.len.2 htk.w1 hvk hvd
      have HLK : Hid (∀ W, Below wr.heap.size wr W → Calls Tryz.prog 73 #[.pointer (some ⟨bi, 0, none⟩)] W fun e w' => e = .returned (.int .i64 (n : Int)) ∧ Below W.heap.size W w') := fun W hb => HLN.out W (HBX.out.trans (hb.mono HBX.out.size))
      have HMK : Hid (∀ W, Below wr.heap.size wr W → Calls Tryz.prog 72 #[.pointer (some ⟨bi, 0, none⟩)] W fun e w' => e = .returned (.int .i64 (dim : Int)) ∧ Below W.heap.size W w') := fun W hb => HDM.out W (HBX.out.trans (hb.mono HBX.out.size))
      have q0' := keepc HB.out q0
      have q2' := keepc HB.out q2
      have q3' := keepc HB.out q3
      have HKEEP := Lib.hid (fun (W : World) (hb : Below wr.heap.size wr W) => And.intro (keepc hb q0') (keepc hb q2'))
      have HBZ : Hid (Below wr.heap.size wr wr) := Below.refl _ _
      clear hfo hmem htk hvk hvd ho hr
      generalize (ts[k]).length = tl at *
      go_wp2_with fail
      go_region_held3 (fun W => W.cell? ⟨w.heap.size, 0, none⟩ = some (.pointer (some ⟨bi, 0, none⟩)) ∧ W.cell? ⟨w.heap.size, 2, none⟩ = some (.int .i64 (depth : Int))) (first | go_keep | exact HKEEP.out _ HBN.out)
        (first
          | (go_at_call 73; refine (HLK.out _ (bel_drew (Below.refl _ _))).mono ?_; rintro e w5 ⟨rfl, hb⟩; have HBN : Hid (Below wr.heap.size wr w5) := (bel_drew (Below.refl _ _)).trans hb; clear hb)
          | (go_at_call 72; refine (HMK.out _ HBN.out).mono ?_; rintro e w6 ⟨rfl, hb⟩; have HBM : Hid (Below wr.heap.size wr w6) := HBN.out.trans (hb.mono HBN.out.size); clear HBN; have HBN := HBM; clear HBM hb)
          | (go_at_call 26; refine (HCK.out _ HBN.out).mono ?_; rintro e w7 ⟨rfl, hb⟩; have HBM : Hid (Below wr.heap.size wr w7) := HBN.out.trans (hb.mono HBN.out.size); clear HBN; have HBN := HBM; clear HBM hb)
          | (go_at_call 27; refine (HDK.out _ HBN.out).mono ?_; rintro e w8 ⟨m, rfl, hm, hb⟩; have hmd : ¬ (m : Int) > (depth : Int) := by omega
             have HBM : Hid (Below wr.heap.size wr w8) := HBN.out.trans (hb.mono HBN.out.size); clear HBN; have HBN := HBM; clear HBM hb hm))
      go_wp2
      go_roundg (ts.length - (k + 1))
      case measure => omega
      case rel => exact ⟨k + 1, rfl, by omega, by simp, Lib.hid (HB.out.trans (HBN.out.mono HB.out.size))⟩
end Go.Proofs.YtladmconpolneaaGreat

/- A grown tree is as it should be. Plain Lean. -/
set_option linter.unusedVariables false
set_option linter.unusedSimpArgs false
namespace Go.Proofs.YtladmconpolneaaGreat
open Go.RowKit
theorem chosen_mem {F : List Int} {dim : Nat} {ids : List Nat} {nrm : List Int} {off : Int} {L R : List Nat} (h : Chosen F dim ids nrm off L R) : (∀ i ∈ L, i ∈ ids) ∧ (∀ i ∈ R, i ∈ ids) :=
  ⟨fun i hi => (chosen_perm h).mem_iff.1 (List.mem_append_left _ hi), fun i hi => (chosen_perm h).mem_iff.1 (List.mem_append_right _ hi)⟩
theorem good_nodeOk {F : List Int} {dim leaf depth n : Nat} (hF : F.length = n * dim) (hb : Bd 1048576 F) (hd : dim ≤ 1024) {t : BT} {ids : List Nat} {d : Nat} (h : Good F dim leaf depth t ids d) (hi : ∀ i ∈ ids, i < n) : ∀ a, ∀ x ∈ t.nodes a, NodeOk dim x := by
  induction h with
  | leaf ids d h =>
    intro a x hx
    simp [BT.nodes] at hx
    subst hx
    exact .leaf ids
  | split ids d nrm off L R l r h hc hl hr ih1 ih2 =>
    intro a x hx
    rw [BT.nodes, List.mem_cons, List.mem_append] at hx
    have hm := chosen_mem hc
    rcases hx with rfl | hx | hx
    · cases hc with
      | good i k hi' hk' hg =>
        have hbi := rowL_bd hb dim i
        have hbk := rowL_bd hb dim k
        have hli := rowL_length hF i (hi i hi')
        refine .split _ _ _ _ (by rw [subL_length, hli]) (subL_bd hbi hbk) (offL_bd hbi hbk (by rw [hli]; exact hd))
      | flat ht =>
        refine .split _ _ _ _ (by simp) ?_ ⟨by decide, by decide⟩
        intro x hx
        rw [List.mem_replicate] at hx
        rw [hx.2]
        decide
    · exact ih1 (fun i h => hi i (hm.1 i h)) _ x hx
    · exact ih2 (fun i h => hi i (hm.2 i h)) _ x hx
theorem lf_cons (x : Node) (l : List Node) : lf (x :: l) = if x.leaf then x.ids :: lf l else lf l := by
  unfold lf
  rw [List.filter_cons]
  split <;> rfl
theorem lf_append (l r : List Node) : lf (l ++ r) = lf l ++ lf r := by
  unfold lf
  rw [List.filter_append, List.map_append]
theorem lf_tree : ∀ (t : BT) (a : Nat), (lf (t.nodes a)).flatten = t.ids
  | .leaf l, a => by simp [BT.nodes, lf_cons, lf, BT.ids, leafN]
  | .split nrm off l r, a => by
    rw [BT.nodes, lf_cons, lf_append]
    show (lf (l.nodes (a + 1)) ++ lf (r.nodes (a + 1 + l.size))).flatten = _
    rw [List.flatten_append, lf_tree l, lf_tree r]
    rfl
theorem nodes_pos (t : BT) (a : Nat) : 0 < (t.nodes a).length := by rw [t.nodes_length]; exact t.size_pos
/-- All of a grown tree. -/
structure Fine (F : List Int) (dim leaf depth n : Nat) (ns : List Node) (t : BT) : Prop where
  good : Good F dim leaf depth t (List.range n) 0
  nodes : ns = t.nodes 0
  tok : TOk ns n dim
  vk : vok ns 0 false ⟨0, []⟩
  vd : ∀ p ∈ wvis ns 0 false ⟨0, []⟩, p.2 ≤ depth
  size : ns.length + 1 = 2 * t.leaves
  leaves : t.leaves ≤ n
theorem fine_of {F : List Int} {dim leaf depth n : Nat} {ns : List Node} (hF : F.length = n * dim) (hb : Bd 1048576 F) (hd : dim ≤ 1024) (hl : 1 ≤ leaf) (hdp : depth ≤ 64) (hn : 1 ≤ n) (hn2 : n ≤ 20000) (h : Reach F dim leaf depth n ns []) : ∃ t, Fine F dim leaf depth n ns t := by
  obtain ⟨t, hg, rfl⟩ := reach_tree h
  have hh := good_height hg (Nat.zero_le _)
  have hlv := good_size hl hg (by simp; omega)
  rw [List.length_range] at hlv
  have hsz := t.size_leaves
  have hlen := t.nodes_length 0
  have hp := good_perm hg
  have hfl := lf_tree t 0
  have hfll : (lf (t.nodes 0)).flatten.length = n := by rw [hfl, hp.length_eq, List.length_range]
  have hok := good_nodeOk hF hb hd hg (fun i hi => by simpa using hi) 0
  refine ⟨t, hg, rfl, ⟨⟨nodes_pos t 0, by rw [hlen]; omega⟩, hok, wok_whole t (by omega), wrun_whole t, last_whole t, by rw [hfl]; exact (hp.nodup_iff).2 List.nodup_range, fun i hi => by rw [hfl] at hi; simpa using hp.mem_iff.1 hi, hfll, ?_⟩, vok_whole t, ?_, by rw [hlen]; exact hsz, hlv⟩
  · intro x hx
    cases hok x hx with
    | leaf ids =>
      have hm : ids ∈ lf (t.nodes 0) := by
        unfold lf
        exact List.mem_map.2 ⟨leafN ids, List.mem_filter.2 ⟨hx, rfl⟩, rfl⟩
      obtain ⟨s, r, hsr⟩ := List.append_of_mem hm
      rw [hsr] at hfll
      simp at hfll
      show ids.length ≤ 60000
      omega
    | split nrm off left right h1 h2 h3 => exact Nat.zero_le _
  · intro p hp
    rw [wvis_whole] at hp
    have := vis_depth t 0 0 p hp
    omega
end Go.Proofs.YtladmconpolneaaGreat

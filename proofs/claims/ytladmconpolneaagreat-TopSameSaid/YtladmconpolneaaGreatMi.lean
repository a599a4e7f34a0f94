/- Several texts of this seat, laid together (no statement of its own): their conditions stand in each theorem. -/
import Derived.Test.YtladmconpolneaaGreatMh
import Derived.OrdersHeld
import Derived.OrdersIn
import Derived.OwnWalkIn
import Derived.Deep.RegionHeld3
/- shape.Leaves as an iterator. -/
set_option linter.unusedVariables false
set_option linter.unusedSimpArgs false
namespace Go.Proofs.YtladmconpolneaaGreat
open Go.RowKit
attribute [local go_sem] Oper.semAt_some
/-- What a round must keep: whatever lay ahead of all, and the cells of all types but some. -/
def KpB (n0 : Nat) (TB : List TypeId) (A B : World) : Prop := Below n0 A B ∧ KeepT TB A B
theorem KpB.trans {n0 : Nat} {TB : List TypeId} {A B C : World} (h : KpB n0 TB A B) (k : KpB n0 TB B C) : KpB n0 TB A C := ⟨h.1.trans k.1, h.2.trans k.2⟩
theorem KpB.putObj {n0 r : Nat} {TB : List TypeId} {W : World} {o : Obj} (o' : Obj) (h : W.heap[r]? = some o) (hc : o.isCells = false) (hr : n0 ≤ r) : KpB n0 TB W (W.putObj r o') := ⟨bel_putObj (Below.refl _ _) hr, (KeepT.putObj o' h hc).mono (by simp)⟩
abbrev LV := List Nat × Option Addr × Nat
def lf (ns : List Node) : List (List Nat) := (ns.filter fun x => x.leaf).map fun x => x.ids
theorem lf_take_succ (ns : List Node) (k : Nat) (hk : k < ns.length) : lf (ns.take (k + 1)) = if (ns[k]).leaf then lf (ns.take k) ++ [(ns[k]).ids] else lf (ns.take k) := by
  unfold lf
  rw [List.take_succ_eq_append_getElem hk, List.filter_append]
  cases h : (ns[k]).leaf <;> simp [h]
set_option maxHeartbeats 800000 in
theorem leaves_seq (w0 W : World) (ns : List Node) (B cap b1 : Nat) (Vp : Option Addr) (cells : List Value) (TB : List TypeId) (h2 : w0.ownsRow B 70 6 (.slice Vp ns.length cap) ns.length cells) (h3 : Rows (NodeR w0) 6 ns cells) (hlen : ns.length ≤ 60000 ∧ ∀ x ∈ ns, x.ids.length ≤ 60000)
    (hW : Below w0.heap.size w0 W) (hb : W.heap[b1]? = some (.cells #[.slice Vp ns.length cap] 65 (0, 0))) :
    SeqT Tryz.prog 102 #[.pointer (some ⟨b1, 0, none⟩)] (fun x : LV => #[.slice x.2.1 x.1.length x.2.2]) (fun pre x W => RT W 3 x.2.1 x.1.length (natV x.1) ∧ ∃ k, k < ns.length ∧ pre.map (·.1) = lf (ns.take k) ∧ lf (ns.take (k + 1)) = lf (ns.take k) ++ [x.1] ∧ Below w0.heap.size w0 W) (fun A B => Below A.heap.size A B) (KpB w0.heap.size TB)
      (fun xs W => xs.map (·.1) = lf ns) (fun pre W => True) W := by
  intro l J Jx hJ hJx hY h0
  have H2 := Lib.hid h2
  have H3 := Lib.hid h3
  have HT := Lib.hid hlen
  have HB := Lib.hid hW
  have HY := Lib.hid hY
  have HJ0 := Lib.hid hJ
  have c1 : W.cell? ⟨b1, 0, none⟩ = some (.slice Vp ns.length cap) := cell_of_row _ _ _ _ _ _ hb
  clear hY hJ hJx h2 h3 hlen hW hb
  go_enter Tryz.func102, Tryz.ntmps102
  go_wp2
  clear c1
  go_loopg [7] ns.length (fun gk i wr => ∃ (k : Nat) (pre : List LV), gk = ns.length - k ∧ k ≤ ns.length ∧ i = .int .i64 (k : Int) ∧ Hid (J pre wr) ∧ Hid (pre.map (·.1) = lf (ns.take k)) ∧ Hid (Below w0.heap.size w0 wr))
  case atStart => exact ⟨0, [], rfl, Nat.zero_le _, rfl, Lib.hid h0, Lib.hid (by simp [lf]), HB⟩
  case round =>
    obtain ⟨k, pre, rfl, hk, rfl, HJ, HP, HB1⟩ := hrel
    by_cases hkn : k = ns.length
    · subst hkn
      go_wp2
      go_end0
      exact ⟨⟨_, rfl⟩, .inl ⟨pre, by rw [HP.out, List.take_length], HJ.out⟩⟩
    · have hkn' : k < ns.length := by omega
      have hkl : (k : Int) < (ns.length : Int) := by omega
      have hk9 : (0 : Int) ≤ (k : Int) := by omega
      have hkb : (k : Int) ≤ 60000 := by have := HT.out.1; omega
      obtain ⟨gT, rfl⟩ := own_addr H2.out (by omega)
      obtain ⟨Ai, ca, N, cn, hn⟩ := tree_node H2.out H3.out k hkn'
      have n0 := keepc HB1.out hn.c0
      have n1 := keepc HB1.out hn.c1
      have n2 := keepc HB1.out hn.c2
      have n3 := keepc HB1.out hn.c3
      have n4 := keepc HB1.out hn.c4
      have n5 := keepc HB1.out hn.c5
      have HID : Hid (RT wr 3 Ai (ns[k]).ids.length (natV (ns[k]).ids)) := hn.ids.keep fun q cs fr hq => HB1.out.block _ (lt_of_block hq)
      have HS := Lib.hid (lf_take_succ ns k hkn')
      have HIL := Lib.hid (HT.out.2 _ (List.getElem_mem hkn'))
      clear hn
      generalize ns[k] = x at *
      cases hlf : x.leaf with
      | false =>
        rw [hlf] at n0 HS
        have HS2 : Hid (lf (ns.take (k + 1)) = lf (ns.take k)) := HS
        have HBA : Hid (Below wr.heap.size wr (wr.alloc (.cells #[.bool false, .slice Ai x.ids.length ca, .slice N x.nrm.length cn, .int .i64 x.off, .int .i64 x.left, .int .i64 x.right] 70))) := (Below.refl _ _).alloc (Nat.le_refl _) _
        clear HS hlf
        go_wp2
        go_roundg (ns.length - (k + 1))
        case measure => omega
        case rel => exact ⟨k + 1, pre, rfl, by omega, by simp, Lib.hid (HJ0.out _ _ _ HJ.out HBA.out), by rw [HS2.out]; exact HP, Lib.hid (HB1.out.trans (HBA.out.mono HB1.out.size))⟩
      | true =>
        rw [hlf] at n0 HS
        have HS2 : Hid (lf (ns.take (k + 1)) = lf (ns.take k) ++ [x.ids]) := HS
        have HBA : Hid (Below wr.heap.size wr (wr.alloc (.cells #[.bool true, .slice Ai x.ids.length ca, .slice N x.nrm.length cn, .int .i64 x.off, .int .i64 x.left, .int .i64 x.right] 70))) := (Below.refl _ _).alloc (Nat.le_refl _) _
        have HCL := Lib.hid (cloneI_any x.ids Ai x.ids.length ca _ (HID.out.1.below HBA.out) (by have := HIL.out; omega))
        clear HS hlf
        refine (wpIn_wide (n := 1)).1 ?_
        gi_wp2_with (first
          | (refine ⟨trivial, ?_⟩; gi_at_call 81; refine (callsIn_wide.2 HCL.out).mono ?_; rintro e w5 ⟨A5, c5, rfl, ho5, hb5⟩
             have hB5 := HBA.out.trans (hb5.mono HBA.out.size)
             obtain ⟨fn, tmps, assign, body, hy, hR⟩ := HY.out pre (x.ids, A5, c5) w5 (HJ0.out _ _ _ HJ.out hB5) ⟨RT.of_own ho5, k, hkn', HP.out, HS2.out, HB1.out.trans (hB5.mono HB1.out.size)⟩
             have hy' : (Instr.yield l #[.slice A5 x.ids.length c5]).run Tryz.prog w5 = .ok (.round l fn tmps assign body) w5 := hy
             have HB5 := Lib.hid hB5
             clear ho5 hb5 hB5 hy)
          | fail)
        refine hR.mono ?_
        rintro e W3 (⟨rfl, hJ3, hk3⟩ | ⟨rfl, hJx3⟩)
        · have HJ3 := Lib.hid hJ3
          have HB3 := Lib.hid ((HB1.out.trans (HB5.out.mono HB1.out.size)).trans hk3.1)
          clear hJ3 hk3 hR hy'
          gi_wp2
          go_roundg (ns.length - (k + 1))
          case measure => omega
          case rel => exact ⟨k + 1, pre ++ [(x.ids, A5, c5)], rfl, by omega, by simp, HJ3, Lib.hid (by rw [HS2.out, List.map_append, HP.out]; rfl), HB3⟩
        · have HJ3 := Lib.hid hJx3
          clear hJx3 hR hy'
          gi_wp2
          refine bodyPost_ret (results_none rfl _ _ _) rfl ?_
          exact ⟨⟨_, rfl⟩, .inr ⟨_, trivial, HJ3.out⟩⟩
end Go.Proofs.YtladmconpolneaaGreat

/- The heap of entries, drained as an iterator. -/
set_option linter.unusedVariables false
set_option linter.unusedSimpArgs false
namespace Go.Proofs.YtladmconpolneaaGreat
open Go.RowKit
attribute [local go_sem] Oper.semAt_some
section
variable {F : Fence} {nF : Nat} {P : Program} {ops : Array Oper} {rest : List Oper} {o : Oper} {a : Act} {Q : Exit → Act → World → Prop}
theorem wpListIn_store_row {w : World} (hgd : o.guard = none) (ty : TypeId) (x y : Operand) (ho : o.op = .store ty x y) (g : Nat) (hx : a.eval x = .pointer (some ⟨g, 0, none⟩)) (t : TypeId) (c c' : Array Value) (hy : a.eval y = .agg c')
    (hg : w.heap[g]? = some (.cells c t (0, 0))) (hi : (P.info? ty).map (·.size) = some c'.size) (hsz : c.size = c'.size) (h1 : c'.all (·.oneCell') = true)
    (h : wpListIn F nF P ops Q rest (a.put o.dst undef) (w.setRow g c')) : wpListIn F nF P ops Q (o :: rest) a w := by
  refine wpListIn_plain hgd fun K hK => ?_
  have hr := run_storeVar_row (P := P) w g t ty c c' hg hi hsz h1
  unfold Oper.wpIn
  refine ⟨by simp [Oper.about, ho], ?_⟩
  rw [Oper.semAt_plain F _ _ (by rw [ho]; intro c hc'; cases hc')]
  simp [execOp, ho, hx, hy, Instr.storeAt, Instr.sureAddr, hr, Result.andThen]
  exact hK _ _ h
theorem wpListIn_load_row {w : World} (hgd : o.guard = none) (ty : TypeId) (x : Operand) (ho : o.op = .load ty x)
    (g : Nat) (hx : a.eval x = .pointer (some ⟨g, 0, none⟩)) (t : TypeId) (cs : Array Value) (fr : Nat × Nat) (d : TypeDesc) (hg : w.heap[g]? = some (.cells cs t fr))
    (hu : P.underlying ty = some d) (hd : (match d with | .struct _ | .array _ _ => true | _ => false) = true) (hi : (P.info? ty).map (·.size) = some cs.size)
    (h : wpListIn F nF P ops Q rest (a.put o.dst (.agg cs)) w) : wpListIn F nF P ops Q (o :: rest) a w := by
  refine wpListIn_plain hgd fun K hK => ?_
  unfold Oper.wpIn
  refine ⟨by simp [Oper.about, ho], ?_⟩
  rw [Oper.semAt_plain F _ _ (by rw [ho]; intro c hc'; cases hc')]
  simp only [execOp, ho, hx, Instr.loadAt, Instr.sureAddr, Sem.run_bind, Sem.run_pure, Result.andThen_ok, run_loadVar_row w g t ty cs fr d hg hu hd hi]
  exact hK _ _ h
end
theorem stop_here {p : Prop} (h : Hid p) : p := h
def dropsL (l : List El) : Nat → List El
  | 0 => l
  | k + 1 => popL ltE (dropsL l k)
def drainN (l : List El) (k : Nat) : List El := (List.range k).map fun i => (dropsL l i).getD 0 []
theorem drainN_succ (l : List El) (k : Nat) : drainN l (k + 1) = drainN l k ++ [(dropsL l k).getD 0 []] := by simp [drainN, List.range_succ]
theorem drainN_length (l : List El) (k : Nat) : (drainN l k).length = k := by simp [drainN]
theorem sinkD_length (lt : El → El → Bool) (f : Nat) : ∀ (l : List El) (k : Nat), (sinkF lt f l k).length = l.length := by
  induction f with
  | zero => intro l k; rfl
  | succ f ih =>
    intro l k
    simp only [sinkF]
    split
    · rfl
    · rw [ih, swapL_length]
theorem popD_length (lt : El → El → Bool) (l : List El) : (popL lt l).length = l.length - 1 := by unfold popL; rw [sinkD_length, List.length_take, List.length_set]; omega
theorem dropsL_length (l : List El) (k : Nat) : (dropsL l k).length = l.length - k := by
  induction k with
  | zero => rfl
  | succ k ih => rw [dropsL, popD_length, ih]; omega
/-- The iterator's own steps: only the record and the row turn. -/
def StepD (h : Nat) (rb : Option Nat) (A B : World) : Prop := Below 0 A B ∧ ∀ k, k < A.heap.size → k ≠ h → rb ≠ some k → B.heap[k]? = A.heap[k]?
/-- What a round keeps. -/
def KpD (ks : List Nat) (rb : Option Nat) (A B : World) : Prop := Below 0 A B ∧ ∀ k, k ∈ ks ∨ rb = some k → B.heap[k]? = A.heap[k]?
theorem KpD.trans {ks : List Nat} {rb : Option Nat} {A B C : World} (h : KpD ks rb A B) (k : KpD ks rb B C) : KpD ks rb A C := ⟨h.1.trans k.1, fun i hi => (k.2 i hi).trans (h.2 i hi)⟩
theorem SelAt.keepD {W W' : World} {B s q h bx : Nat} {most at_ : Int} {v : Value} {l : List El} {rb : Option Nat} (x : SelAt W B s q h most at_ v l) (hv : v.ownBlock = rb) (hk : KpD [bx, h, s, q] rb W W') : SelAt W' B s q h most at_ v l :=
  ⟨(hk.2 s (.inl (by simp))).trans x.box, (hk.2 q (.inl (by simp))).trans x.var, x.base, x.heap.move (hk.2 h (.inl (by simp))) (fun k e => hk.2 k (.inr (by rw [← hv, e])))⟩
theorem drain_any (h : Nat) (w : World) : Calls Tryz.prog 171 #[.pointer (some ⟨h, 0, none⟩)] w fun e w' => e = .returned (.func (.func 206) #[] #[.pointer (some ⟨w.heap.size, 0, none⟩)]) ∧ w'.heap[w.heap.size]? = some (.cells #[.pointer (some ⟨h, 0, none⟩)] 265 (0, 0)) ∧ Below w.heap.size w w' := by
  go_enter Tryz.func171, Tryz.ntmps171
  go_wp2
  go_ret
  exact ⟨rfl, heap_alloc_new _ _, (Below.refl _ _).alloc (Nat.le_refl _) _⟩
set_option maxHeartbeats 1600000 in
set_option maxRecDepth 100000 in
theorem drain_seq (W : World) (B s q h bx : Nat) (most at_ : Int) (v : Value) (l : List El) (hx : SelAt W B s q h most at_ v l) (hb : W.heap[bx]? = some (.cells #[.pointer (some ⟨h, 0, none⟩)] 265 (0, 0))) (hn : l.length ≤ 60000) (hB : B ≤ W.heap.size) :
    SeqT Tryz.prog 206 #[.pointer (some ⟨bx, 0, none⟩)] (fun x : El => #[.agg (i64V x).toArray]) (fun pre x _ => x.length = 3 ∧ ∃ k, k < l.length ∧ pre = drainN l k) (StepD h v.ownBlock) (KpD [bx, h, s, q] v.ownBlock)
      (fun xs W' => xs = drainN l l.length ∧ ∃ v', SelAt W' B s q h most at_ v' [] ∧ v'.ownBlock = v.ownBlock) (fun _ _ => True) W := by
  intro y J Jx hJ hJx hY h0
  have HX := Lib.hid hx
  have HB := Lib.hid hb
  have HBW := Lib.hid hB
  have HN := Lib.hid hn
  have HY := Lib.hid hY
  have HJ0 := Lib.hid hJ
  obtain ⟨rb, hrb⟩ : ∃ rb, v.ownBlock = rb := ⟨_, rfl⟩
  rw [hrb] at HY HJ0 ⊢
  have HRB := Lib.hid hrb
  clear hY hJ hJx hx hb hn hrb hB
  go_enter Tryz.func206, Tryz.ntmps206
  go_wp2
  go_loopg [] l.length (fun gk wr => ∃ (k : Nat) (v1 : Value), gk = l.length - k ∧ k ≤ l.length ∧ Hid (J (drainN l k) wr) ∧ Hid (SelAt wr B s q h most at_ v1 (dropsL l k)) ∧ Hid (v1.ownBlock = rb) ∧ Hid (wr.heap[bx]? = some (.cells #[.pointer (some ⟨h, 0, none⟩)] 265 (0, 0))) ∧ Hid (B ≤ wr.heap.size))
  case atStart => exact ⟨0, v, rfl, Nat.zero_le _, Lib.hid h0, HX, HRB, HB, HBW⟩
  case round =>
    obtain ⟨k, v1, rfl, hk, HJ, HX1, HR1, HB1, HW1⟩ := hrel
    have c1 : wr.cell? ⟨bx, 0, none⟩ = some (.pointer (some ⟨h, 0, none⟩)) := cell_of_row _ _ _ _ _ _ HB1.out
    have HL := Lib.hid (hlenE_any B h (FE q) v1 (dropsL l k) wr HX1.out.heap)
    rw [dropsL_length] at HL
    by_cases hkn : k = l.length
    · subst hkn
      rw [Nat.sub_self] at HL
      go_wp2_with (first
        | (go_at_call 204; refine HL.out.mono ?_; rintro e w2 ⟨rfl, rfl⟩)
        | fail)
      go_end0
      refine ⟨⟨_, rfl⟩, .inl ⟨_, ⟨rfl, v1, ?_, HR1.out⟩, HJ.out⟩⟩
      have hd : dropsL l l.length = [] := List.eq_nil_of_length_eq_zero (by rw [dropsL_length]; omega)
      have := HX1.out
      rw [hd] at this
      exact this
    · have hkl : k < l.length := by omega
      obtain ⟨x, r, hxr⟩ : ∃ x r, dropsL l k = x :: r := by
        cases hd : dropsL l k with
        | nil => have := dropsL_length l k; rw [hd] at this; simp at this; omega
        | cons x r => exact ⟨x, r, rfl⟩
      have hx3 : x.length = 3 := by
        have hr := HX1.out.heap.row
        rw [hxr] at hr
        obtain ⟨A, c, rfl⟩ := hr.slice
        obtain ⟨g, rfl⟩ := hr.addr (by simp)
        exact (hr.cell 0 (by simp)).2.2
      have HS := Lib.hid (drainN_succ l k)
      rw [hxr] at HS
      have HS2 : Hid (drainN l (k + 1) = drainN l k ++ [x]) := HS
      have HPP := Lib.hid (hpopE_own q B h v1 (dropsL l k) ltE wr HX1.out.heap HX1.out.first HW1.out (by rw [dropsL_length]; have := HN.out; omega))
      have hlp : (0 : Int) < ((l.length - k : Nat) : Int) := by omega
      obtain ⟨xa, xb, xc, rfl⟩ := El.three hx3
      have HI := Lib.hid Tryz.size270
      have HXR := Lib.hid hxr
      clear HS hkn hx3 hxr
      obtain ⟨m, hm⟩ : ∃ m, l.length - k = m := ⟨_, rfl⟩
      rw [hm] at HL hlp
      have HM := Lib.hid hm
      clear hm
      refine (wpIn_wide (n := 1)).1 ?_
      gi_wp2_with (first
        | (refine wpListIn_store_row rfl 270 (.tmp 3) (.tmp 11) rfl w5.heap.size rfl 270 zero3 #[.int .i64 xa, .int .i64 xb, .int .i64 xc] rfl (heap_alloc_new _ _) HI.out rfl (by simp [Value.oneCell']) ?_
           have HBA : Hid (Below w5.heap.size w5 ((w5.alloc (.cells zero3 270)).setRow w5.heap.size #[.int .i64 xa, .int .i64 xb, .int .i64 xc])) := bel_setRow ((Below.refl _ _).alloc (Nat.le_refl _) _) (Nat.le_refl _)
           have G6 : Hid (((w5.alloc (.cells zero3 270)).setRow w5.heap.size #[.int .i64 xa, .int .i64 xb, .int .i64 xc]).heap[w5.heap.size]? = some (.cells #[.int .i64 xa, .int .i64 xb, .int .i64 xc] 270 (0, 0))) := setRow_heap (w5.alloc (.cells zero3 270)) w5.heap.size zero3 _ 270 (0, 0) (heap_alloc_new _ _)
           generalize (w5.alloc (.cells zero3 270)).setRow w5.heap.size #[.int .i64 xa, .int .i64 xb, .int .i64 xc] = W5 at *)
        | (refine wpListIn_load_row rfl 270 (.tmp 3) rfl w5.heap.size rfl 270 #[.int .i64 xa, .int .i64 xb, .int .i64 xc] (0, 0) _ G6.out Tryz.underlying270 rfl HI.out ?_
           obtain ⟨fn, tmps, assign, body, hy, hR⟩ := HY.out (drainN l k) [xa, xb, xc] W5 (HJ0.out _ _ _ HJ.out ⟨HSD.out.1.trans (HBA.out.mono (Nat.zero_le _)), fun i h1 h2 h3 => (HBA.out.block _ (Nat.lt_of_lt_of_le h1 HSD.out.1.size)).trans (HSD.out.2 i h1 h2 h3)⟩) ⟨rfl, k, hkl, rfl⟩
           have hy' : (Instr.yield y #[.agg #[.int .i64 xa, .int .i64 xb, .int .i64 xc]]).run Tryz.prog W5 = .ok (.round y fn tmps assign body) W5 := hy
           have HX7 := Lib.hid (HX6.out.below HBA.out)
           have HB7 : Hid (W5.heap[bx]? = some (.cells #[.pointer (some ⟨h, 0, none⟩)] 265 (0, 0))) := (HBA.out.block _ (lt_of_block HB6.out)).trans HB6.out
           have HW7 : Hid (B ≤ W5.heap.size) := Nat.le_trans HW6.out HBA.out.size
           clear hy)
        | (refine ⟨trivial, ?_⟩; gi_at_call 204; refine (callsIn_wide.2 HL.out).mono ?_; rintro e w2 ⟨rfl, hw2⟩; obtain rfl := hw2.symm)
        | (refine ⟨trivial, ?_⟩; gi_at_call 170; refine (callsIn_wide.2 HPP.out).mono ?_; rintro e w5 ⟨hp, -⟩; obtain ⟨rfl, v6, hh6, hb6, hk6, hs6, ho6⟩ := hp _ _ HXR.out
           have HX6 := Lib.hid (HX1.out.heapTo hk6 hh6)
           have HSD : Hid (StepD h rb wr w5) := ⟨hb6.mono (Nat.zero_le _), fun i h1 h2 h3 => hs6.2.1 i h1 h2 (by rw [HR1.out]; exact h3)⟩
           have HR6 : Hid (v6.ownBlock = rb) := ho6.trans HR1.out
           have HB6 : Hid (w5.heap[bx]? = some (.cells #[.pointer (some ⟨h, 0, none⟩)] 265 (0, 0))) := hk6.2 _ _ _ _ HB1.out (by decide)
           have HW6 : Hid (B ≤ w5.heap.size) := Nat.le_trans HW1.out hb6.size
           clear hp hh6 hb6 hk6 hs6 ho6)
        | fail)
      refine hR.mono ?_
      rintro e W3 (⟨rfl, hJ3, hk3⟩ | ⟨rfl, hJx3⟩)
      · have HJ3 := Lib.hid hJ3
        have HX3 := Lib.hid (HX7.out.keepD HR6.out hk3)
        have HB3 : Hid (W3.heap[bx]? = some (.cells #[.pointer (some ⟨h, 0, none⟩)] 265 (0, 0))) := (hk3.2 bx (.inl (by simp))).trans HB7.out
        have HW3 : Hid (B ≤ W3.heap.size) := Nat.le_trans HW7.out hk3.1.size
        clear hJ3 hk3 hR hy'
        gi_wp2
        go_roundg (l.length - (k + 1))
        case measure => omega
        case rel => exact ⟨k + 1, v6, rfl, by omega, by rw [HS2.out]; exact HJ3, HX3, HR6, HB3, HW3⟩
      · have HJ3 := Lib.hid hJx3
        clear hJx3 hR hy'
        gi_wp2
        refine bodyPost_ret (results_none rfl _ _ _) rfl ?_
        exact ⟨⟨_, rfl⟩, .inr ⟨_, trivial, HJ3.out⟩⟩
end Go.Proofs.YtladmconpolneaaGreat

/- A range over a function whose rounds never stop it. -/
set_option linter.unusedVariables false
set_option linter.unusedSimpArgs false
namespace Go.Proofs.YtladmconpolneaaGreat
open Go.RowKit
/-- What an iterator does at world W, where no round stops it. -/
def SeqN {α : Type} (P : Program) (gf : Nat) (lb : Array Value) (encs : α → Array Value) (V : List α → α → World → Prop) (T Kp : World → World → Prop) (S Sp : List α → World → Prop) (W : World) : Prop :=
  ∀ (l : Nat) (J Jx : List α → World → Prop), (∀ s W, ¬ Jx s W) → (∀ s A B, J s A → T A B → J s B) → (∀ s A B, Jx s A → T A B → Jx s B) →
    (∀ pre x W1, J pre W1 → V pre x W1 → YieldAt Fence.wide 0 P l (encs x) W1 fun e W' => (e = .returned (.bool true) ∧ J (pre ++ [x]) W' ∧ Kp W1 W') ∨ (e = .returned (.bool false) ∧ Jx (pre ++ [x]) W')) →
    J [] W → Calls P gf (#[.func (.yield l) #[] #[]] ++ lb) W fun e W' => (∃ v, e = .returned v) ∧ ((∃ xs, S xs W' ∧ J xs W') ∨ (∃ pre, Sp pre W' ∧ Jx pre W'))
theorem wp_rangeN {P : Program} {α : Type} {g : Operand} {ps : Array Tmp} {assign body : Code} {Q : Exit → Act → World → Prop} {a : Act} {w : World} {gf : Nat} {lb : Array Value}
    (hg : a.eval g = .func (.func gf) #[] lb) (eg : ∀ args w, (callFunc gf args).run P w = .ok (.enter gf args) w)
    {encs : α → Array Value} {V : List α → α → World → Prop} {T Kp : World → World → Prop} {S Sp : List α → World → Prop}
    (hseq : ∀ o o', o.isCells = false → o'.isCells = false → SeqN P gf lb encs V T Kp S Sp ((w.alloc o).alloc o')) (hps : ∀ x, (encs x).size = ps.size)
    (I : List α → World → Prop) (Ix : Code → List α → World → Prop)
    (hF : ∀ c s W, ¬ Ix c s W)
    (hT : ∀ A B, T A B → Stays w.heap.size A B) (hIT : ∀ s A B, I s A → T A B → I s B) (hIxT : ∀ c s A B, Ix c s A → T A B → Ix c s B)
    (hIp : ∀ s W o o', I s W → W.heap[w.heap.size + 1]? = some o → o.isCells = false → o'.isCells = false → I s (W.putObj (w.heap.size + 1) o'))
    (hIxp : ∀ c s W o o', Ix c s W → W.heap[w.heap.size + 1]? = some o → o.isCells = false → o'.isCells = false → Ix c s (W.putObj (w.heap.size + 1) o'))
    (hKt : ∀ A B C, Kp A B → Kp B C → Kp A C) (hKp : ∀ W o o', W.heap[w.heap.size + 1]? = some o → o.isCells = false → Kp W (W.putObj (w.heap.size + 1) o'))
    (hSp : ∀ s W o', S s W → S s (W.putObj (w.heap.size + 1) o')) (hSpp : ∀ s W o', Sp s W → Sp s (W.putObj (w.heap.size + 1) o'))
    (h0 : ∀ o o', o.isCells = false → o'.isCells = false → I [] ((w.alloc o).alloc o'))
    (hround : ∀ (l : Nat) (pre : List α) (x : α) (W : World), I pre W → V pre x W → W.heap[w.heap.size + 1]?.isSome = true →
      assign.wpIn (Fence.wide.inRound l) 0 P (Exit.then (fun a' W' => Stays w.heap.size W W' ∧ ∀ o, o.isCells = false → (∃ o₁, W'.heap[w.heap.size + 1]? = some o₁ ∧ o₁.isCells = false) →
        body.wpIn (Fence.wide.inRound l) 0 P (fun e a W3 => RoundPost w.heap.size (fun _ W3 => Kp W W3) I Ix (pre ++ [x]) (W'.putObj (w.heap.size + 1) o) e a W3) a' (W'.putObj (w.heap.size + 1) o)) (fun _ _ _ => False)) { tmps := (ps.zip (encs x)).foldl (fun t (p, v) => t.setIfInBounds p v) a.tmps, defers := [] } W)
    (hdone : ∀ (xs : List α) (W : World), S xs W → I xs W → W.heap[w.heap.size]? = some (.deferred (some [])) → Q .normal { a with defers := { target := .collected w.heap.size, args := #[] } :: a.defers } W)
    (hstop : ∀ (c : Code) (pre : List α) (W : World), Sp pre W → Ix c pre W → W.heap[w.heap.size]? = some (.deferred (some [])) → c.wp P Q { a with defers := { target := .collected w.heap.size, args := #[] } :: a.defers } W) :
    (Code.rangeFunc g ps assign body).wp P Q a w := by
  refine (wpIn_wide (n := 1)).1 (wpIn_rangeFunc ?_)
  intro fn hfn
  let D : Obj := .deferred (some [])
  let rec0 : LoopState → Option Code → Loop := fun st pe => { state := st, pending := pe, fn, tmps := a.tmps, params := ps, assign, body, defers := w.heap.size }
  obtain ⟨W1, hW1⟩ : ∃ W1, (w.alloc D).alloc (.loop (rec0 .ready none)) = W1 := ⟨_, rfl⟩
  have hL1 : W1.heap[w.heap.size + 1]? = some (.loop (rec0 .ready none)) := by
    rw [← hW1]; exact alloc_at0 _ _ _ (by simp)
  have hK1 : W1.heap[w.heap.size]? = some D := by
    rw [← hW1, Below.heap_alloc _ _ _ (by simp)]; exact heap_alloc_new _ _
  refine ⟨w.heap.size + 1, [{ target := .collected w.heap.size, args := #[] }], W1, { target := .fn (.func gf) lb, args := #[.func (.yield (w.heap.size + 1)) #[] #[]] }, W1, gf, #[.func (.yield (w.heap.size + 1)) #[] #[]] ++ lb, W1, ?_, ?_, ?_, ?_, ?_, ?_⟩
  · rw [← hW1]; exact run_enterLoop_outer _ _ _ _ _
  · simp only [resolve, hg]
    simp [go_sem]
  · intro f' _; trivial
  · simp [invoke, go_sem, eg]
  · intro _; exact Nat.le_refl _
  · refine callsIn_wide.2 ?_
    have hs := hseq D (.loop (rec0 .ready none)) rfl rfl
    rw [hW1] at hs
    refine (hs (w.heap.size + 1)
      (fun pre W => I pre W ∧ W.heap[w.heap.size + 1]? = some (.loop (rec0 .ready none)) ∧ W.heap[w.heap.size]? = some D)
      (fun pre W => ∃ c, Ix c pre W ∧ W.heap[w.heap.size + 1]? = some (.loop (rec0 .done (some c))) ∧ W.heap[w.heap.size]? = some D)
      (fun s W ⟨c, h, _⟩ => hF c s W h)
      (fun s A B ⟨h1, h2, h3⟩ ht => ⟨hIT s A B h1 ht, hT A B ht _ _ (.inr rfl) h2 rfl, hT A B ht _ _ (.inl rfl) h3 rfl⟩)
      (fun s A B ⟨c, h1, h2, h3⟩ ht => ⟨c, hIxT c s A B h1 ht, hT A B ht _ _ (.inr rfl) h2 rfl, hT A B ht _ _ (.inl rfl) h3 rfl⟩)
      ?_ ⟨by rw [← hW1]; exact h0 _ _ rfl rfl, hL1, hK1⟩).mono ?_
    · rintro pre x W ⟨hi, hl, hk⟩ hv
      have hy := run_yield (P := P) (args := encs x) hl (hps x)
      refine ⟨fn, _, assign, body, hy, roundIn_of_wpIn hfn (wpIn_mono (hround _ pre x W hi hv (by rw [hl]; rfl)) ?_)⟩
      rintro e a2 W2 hp
      cases e with
      | normal =>
        obtain ⟨hst, hb⟩ := hp
        have hl2 := hst _ _ (.inr rfl) hl rfl
        have hk2 := hst _ _ (.inl rfl) hk rfl
        refine ⟨_, run_beginRound hl2 rfl, ?_⟩
        have hlt : w.heap.size + 1 < W2.heap.size := (Array.getElem?_eq_some_iff.1 hl2).1
        have hl3 : (W2.putObj (w.heap.size + 1) (.loop { rec0 .ready none with state := .busy })).heap[w.heap.size + 1]? = some (.loop { rec0 .ready none with state := .busy }) := World.putObj_heap_same hlt
        have hk3 : (W2.putObj (w.heap.size + 1) (.loop { rec0 .ready none with state := .busy })).heap[w.heap.size]? = some D := (World.putObj_heap_other (by omega)).trans hk2
        refine wpIn_mono (hb _ rfl ⟨_, hl2, rfl⟩) ?_
        have fin : ∀ (jump : Option Code) (W3 : World), Stays w.heap.size (W2.putObj (w.heap.size + 1) (.loop { rec0 .ready none with state := .busy })) W3 →
            (Instr.endRound (w.heap.size + 1) jump).run P W3 = .ok (.bool jump.isNone) (W3.putObj (w.heap.size + 1) (.loop (rec0 (if jump.isNone then .ready else .done) jump))) ∧
            W3.heap[w.heap.size + 1]? = some (.loop { rec0 .ready none with state := .busy }) ∧
            (W3.putObj (w.heap.size + 1) (.loop (rec0 (if jump.isNone then .ready else .done) jump))).heap[w.heap.size + 1]? = some (.loop (rec0 (if jump.isNone then .ready else .done) jump)) ∧
            (W3.putObj (w.heap.size + 1) (.loop (rec0 (if jump.isNone then .ready else .done) jump))).heap[w.heap.size]? = some D := fun jump W3 hs3 => by
          have h4 := hs3 _ _ (.inr rfl) hl3 rfl
          have h5 := hs3 _ _ (.inl rfl) hk3 rfl
          exact ⟨run_endRound (P := P) jump h4, h4, World.putObj_heap_same (Array.getElem?_eq_some_iff.1 h4).1, (World.putObj_heap_other (by omega)).trans h5⟩
        rintro e a3 W3 hp
        cases e with
        | normal =>
          obtain ⟨hs3, hkp, hi3⟩ := hp
          obtain ⟨hr, hl4, hl5, hk5⟩ := fin none W3 hs3
          exact ⟨_, _, hr, .inl ⟨rfl, ⟨hIp _ _ _ _ hi3 hl4 rfl rfl, hl5, hk5⟩, hKt _ _ _ hkp (hKp _ _ _ hl4 rfl)⟩⟩
        | ret =>
          obtain ⟨hs3, hi3⟩ := hp
          obtain ⟨hr, hl4, hl5, hk5⟩ := fin (some .ret) W3 hs3
          exact ⟨_, _, hr, .inr ⟨rfl, .ret, hIxp _ _ _ _ _ hi3 hl4 rfl rfl, hl5, hk5⟩⟩
        | exit id =>
          obtain ⟨hs3, hi3⟩ := hp
          obtain ⟨hr, hl4, hl5, hk5⟩ := fin (some (.exit id)) W3 hs3
          exact ⟨_, _, hr, .inr ⟨rfl, .exit id, hIxp _ _ _ _ _ hi3 hl4 rfl rfl, hl5, hk5⟩⟩
        | goto t =>
          obtain ⟨hs3, hi3⟩ := hp
          obtain ⟨hr, hl4, hl5, hk5⟩ := fin (some (.goto t)) W3 hs3
          exact ⟨_, _, hr, .inr ⟨rfl, .goto t, hIxp _ _ _ _ _ hi3 hl4 rfl rfl, hl5, hk5⟩⟩
        | panic ch => exact hp.elim
        | outgrown => exact hp.elim
      | exit id => exact hp.elim
      | goto t => exact hp.elim
      | ret => exact hp.elim
      | panic ch => exact hp.elim
      | outgrown => exact hp.elim
    · rintro e W2 ⟨⟨v, rfl⟩, (⟨xs, hS, hi, hl, hk⟩ | ⟨pre, hSq, c, hi, hl, hk⟩)⟩
      · exact ⟨none, _, run_endLoop (P := P) hl (by simp [rec0]), hdone xs _ (hSp _ _ _ hS) (hIp _ _ _ _ hi hl rfl rfl) ((World.putObj_heap_other (by omega)).trans hk)⟩
      · exact ⟨some c, _, run_endLoop (P := P) hl (by simp [rec0]), wpIn_wide.2 (hstop c pre _ (hSpp _ _ _ hSq) (hIxp _ _ _ _ _ hi hl rfl rfl) ((World.putObj_heap_other (by omega)).trans hk))⟩
end Go.Proofs.YtladmconpolneaaGreat

/- A region that draws its order, inside a round of a range over a function: what yields in every world of a class may be taken first (the kit's OrdersHeld and OrdersIn put together, for operations that defer nothing). -/
set_option linter.unusedVariables false
set_option linter.unusedSimpArgs false
namespace Go.Proofs.YtladmconpolneaaGreat
open Go
section
variable {F : Fence} {n : Nat} {P : Program} {ops : Array Oper} {Q : Exit → Act → World → Prop} {md : Region.Mode} {S : World → Prop}
def YieldsJ (P : Program) (ops : Array Oper) (S : World → Prop) (o : Oper) (v : Value) (a : Act) : Prop := YieldsIf P ops S o v a ∧ ∀ w, o.about P w a.eval = none
theorem YieldsJ.wpOpIn {i : Nat} {o : Oper} {v : Value} {a : Act} (hnd : ∀ c, o.op ≠ .defer c) (hi : ops[i]? = some o) (hy : YieldsJ P ops S o v a)
    {K : Act → World → Prop} {w : World} (hS : S w) (h : K (a.put o.dst v) w) : wpOpIn F n P ops Q i K a w := by
  unfold Go.wpOpIn
  simp only [hi]
  have hab : ∀ f, o.about P w a.eval = some f → F.fn f := fun f hf => by rw [hy.2 w] at hf; cases hf
  rcases hy.1 with ⟨hw, hv⟩ | ⟨hw, rfl⟩
  · simp only [hw, if_true, Oper.wpIn, Oper.semAt_plain F _ _ hnd, hv w hS, Oper.uponIn]; exact ⟨hab, h⟩
  · simp only [hw, Bool.false_eq_true, if_false]; exact ⟨hab, h⟩
theorem YieldsJ.of_same {o : Oper} {v : Value} {a a' : Act} (hy : YieldsJ P ops S o v a) (he : execOp a'.eval o = execOp a.eval o)
    (hw : Region.wanted o (yielded ops a'.tmps) = Region.wanted o (yielded ops a.tmps)) (hb : ∀ w, o.about P w a'.eval = o.about P w a.eval) : YieldsJ P ops S o v a' :=
  ⟨hy.1.of_same he hw, fun w => by rw [hb w]; exact hy.2 w⟩
theorem wpOpIn_putJ {j : Nat} {oi oj : Oper} {v : Value} (hnd : ∀ c, oj.op ≠ .defer c) (hj : ops[j]? = some oj) (hap : oi.apart ops oj = true)
    (hsi : ∀ cs b, oi.op ≠ .select cs b) (hsj : ∀ cs b, oj.op ≠ .select cs b)
    (hQ : ∀ c a w, Q (.panic c) (a.put oi.dst v) w → Q (.panic c) a w) {K : Act → World → Prop} {a : Act} {w : World}
    (hy : YieldsJ P ops S oi v a) (h : wpOpIn F n P ops Q j K (a.put oi.dst v) w) :
    wpOpIn F n P ops Q j (fun a' w' => YieldsJ P ops S oi v a' ∧ K (a'.put oi.dst v) w') a w := by
  obtain ⟨h1, h2, h3⟩ := Oper.apart_spec hap
  have keep : ∀ (a : Act), YieldsJ P ops S oi v a → ∀ u, YieldsJ P ops S oi v (a.put oj.dst u) := fun a hy u =>
    hy.of_same (execOp_put oi hsi a oj.dst u h3) (wanted_put oi a oj.dst u h3) (fun w => about_put oi w a oj.dst u h3)
  have keepD : ∀ d, YieldsJ P ops S oi v { a with defers := d :: a.defers } := fun d => hy.of_same rfl rfl (fun _ => rfl)
  unfold wpOpIn at *
  simp only [hj] at *
  rw [wanted_put oj a oi.dst v h1, about_put oj w a oi.dst v h1] at h
  split
  · rename_i hw
    simp only [hw, if_true] at h
    unfold Oper.wpIn at *
    rw [about_put oj w a oi.dst v h1] at h
    refine ⟨h.1, ?_⟩
    have h := h.2
    rw [Oper.semAt_plain F _ _ hnd, execOp_put oj hsj a oi.dst v h1] at h
    rw [Oper.semAt_plain F _ _ hnd]
    generalize (execOp a.eval oj).run P w = r at *
    cases r with
    | ok x w' =>
      cases x <;> simp only [Oper.uponIn] at h ⊢
      case value u => exact ⟨keep a hy u, by rw [← Act.put_comm a v u h2]; exact h⟩
      case skip => exact ⟨keep a hy _, by rw [← Act.put_comm a v undef h2]; exact h⟩
      case defer d =>
        refine ⟨keep _ (keepD d) _, ?_⟩
        rw [← Act.put_comm _ v undef h2, ← Act.put_defers]
        exact h
      case enter f args =>
        refine ⟨h.1, CallsIn.mono h.2 fun e w'' he => ?_⟩
        cases e with
        | returned u => exact ⟨keep a hy u, by rw [← Act.put_comm a v u h2]; exact he⟩
        | panicked c => exact hQ _ _ _ he
        | outgrown => exact he
      case row row args => exact ⟨h.1, RowsIn.mono h.2 fun u w'' he => ⟨keep a hy u, by rw [← Act.put_comm a v u h2]; exact he⟩⟩
      case round l f tmps assign body =>
        refine ⟨h.1, RoundIn.mono h.2 fun e w'' he => ?_⟩
        cases e with
        | returned u => exact ⟨keep a hy u, by rw [← Act.put_comm a v u h2]; exact he⟩
        | panicked c => exact hQ _ _ _ he
        | outgrown => exact he
    | halt x w' =>
      cases x <;> simp only [Oper.uponIn] at h ⊢
      case panic u => exact hQ _ _ _ h
  · rename_i hw
    simp only [hw] at h
    exact ⟨h.1, keep a hy _, by rw [← Act.put_comm a v undef h2]; exact h.2⟩
def wpAnyJ (F : Fence) (n : Nat) (P : Program) (md : Region.Mode) (ops : Array Oper) (Q : Exit → Act → World → Prop) (S : World → Prop) : Nat → Array Bool → Act → World → Prop
  | 0, listed, a, w => Region.ready md ops listed = [] ∧ Q .normal a w
  | fuel + 1, listed, a, w =>
    (Region.ready md ops listed = [] → Q .normal a w) ∧
    ∀ i ∈ Region.ready md ops listed, wpOpIn F n P ops Q i (fun a' w' => S w' ∧ wpAnyJ F n P md ops Q S fuel (listed.setIfInBounds i true) a' w') a w
theorem wpAnyIn_of_J : ∀ (fuel : Nat) (listed : Array Bool) (a : Act) (w : World), wpAnyJ F n P md ops Q S fuel listed a w → wpAnyIn F n P md ops Q fuel listed a w
  | 0, _, _, _, h => h
  | fuel + 1, _, _, _, h => ⟨h.1, fun i hi => wpOpIn_mono (fun a' w' h' => wpAnyIn_of_J fuel _ a' w' h'.2) (h.2 i hi)⟩
theorem wpAnyJ_first {i : Nat} {oi : Oper} {v : Value} (hnd : ∀ (j : Nat) (o : Oper) c, ops[j]? = some o → o.op ≠ .defer c) (hi : ops[i]? = some oi) (hsel : ∀ (j : Nat) (o : Oper) cs b, ops[j]? = some o → o.op ≠ .select cs b)
    (hQ : ∀ c a w, Q (.panic c) (a.put oi.dst v) w → Q (.panic c) a w) :
    ∀ (fuel : Nat) (listed : Array Bool) (a : Act) (w : World),
      (∀ j oj, ops[j]? = some oj → j ≠ i → listed.getD j true = false → (∀ e ∈ oj.after, Region.binds md e = true → e.on ≠ i) → oi.apart ops oj = true) →
      i ∈ Region.ready md ops listed → YieldsJ P ops S oi v a → S w →
      wpAnyJ F n P md ops Q S fuel (listed.setIfInBounds i true) (a.put oi.dst v) w → wpAnyJ F n P md ops Q S (fuel + 1) listed a w := by
  intro fuel
  induction fuel with
  | zero =>
    intro listed a w _ hr hy hS H
    refine ⟨fun h => (by rw [h] at hr; cases hr), fun j hj => ?_⟩
    by_cases hji : j = i
    · subst hji; exact hy.wpOpIn (fun c => hnd j oi c hi) hi hS ⟨hS, H⟩
    · have := ready_mono hj hji
      rw [H.1] at this
      cases this
  | succ fuel ih =>
    intro listed a w hfree hr hy hS H
    refine ⟨fun h => (by rw [h] at hr; cases hr), fun j hj => ?_⟩
    by_cases hji : j = i
    · subst hji; exact hy.wpOpIn (fun c => hnd j oi c hi) hi hS ⟨hS, H⟩
    · have h1 := H.2 j (ready_mono hj hji)
      obtain ⟨hjun, oj, hoj, hall⟩ := mem_ready.1 hj
      have hnot : ∀ e ∈ oj.after, Region.binds md e = true → e.on ≠ i := fun e he hb heq => by
        have h1 := hall e he hb
        have h0 := (mem_ready.1 hr).1
        rw [heq] at h1
        rcases Nat.lt_or_ge i listed.size with h' | h'
        · simp [h'] at h0 h1; rw [h0] at h1; cases h1
        · simp [Array.getElem?_eq_none h'] at h1
      have h2 := wpOpIn_putJ (fun c => hnd j oj c hoj) hoj (hfree j oj hoj hji hjun hnot) (fun cs b => hsel i oi cs b hi) (fun cs b => hsel j oj cs b hoj) hQ hy h1
      have hfree' : ∀ k ok, ops[k]? = some ok → k ≠ i → (listed.setIfInBounds j true).getD k true = false →
          (∀ e ∈ ok.after, Region.binds md e = true → e.on ≠ i) → oi.apart ops ok = true := fun k ok hk hki hun hno => by
        refine hfree k ok hk hki ?_ hno
        by_cases hjk : j = k
        · subst hjk; exact hjun
        · rw [getD_set_ne true hjk] at hun; exact hun
      refine wpOpIn_mono (fun a' w' h3 => ⟨h3.2.1, ih (listed.setIfInBounds j true) a' w' hfree' (ready_mono hr (Ne.symm hji)) h3.1 h3.2.1 ?_⟩) h2
      rw [Array.setIfInBounds_comm _ _ hji]
      exact h3.2.2
def noDefer (ops : Array Oper) : Bool := ops.all fun o => match o.op with | .defer _ => false | _ => true
theorem noDefer_spec (h : noDefer ops = true) : ∀ (j : Nat) (o : Oper) c, ops[j]? = some o → o.op ≠ .defer c := fun j o c hj e => by
  unfold noDefer at h
  rw [Array.all_eq_true] at h
  obtain ⟨hlt, rfl⟩ := Array.getElem?_eq_some_iff.1 hj
  have := h j hlt
  rw [e] at this
  cases this
theorem wpAnyJ_take {i : Nat} {oi : Oper} {v : Value} {fuel : Nat} {listed : Array Bool} {a : Act} {w : World} (hnd : noDefer ops = true) (hi : ops[i]? = some oi)
    (hs : Region.noSelect ops = true) (hf : Region.free md ops listed i = true) (hr : (Region.ready md ops listed).contains i = true)
    (hQ : ∀ c a w, Q (.panic c) (a.put oi.dst v) w → Q (.panic c) a w) (hy : YieldsJ P ops S oi v a) (hS : S w)
    (h : wpAnyJ F n P md ops Q S fuel (listed.setIfInBounds i true) (a.put oi.dst v) w) : wpAnyJ F n P md ops Q S (fuel + 1) listed a w :=
  wpAnyJ_first (noDefer_spec hnd) hi (Region.noSelect_spec hs) hQ fuel listed a w (Region.free_spec hi hf) (by simpa using hr) hy hS h
/-- Only one may come up. -/
theorem wpAnyJ_one {i : Nat} {o : Oper} {fuel : Nat} {listed : Array Bool} {a : Act} {w : World} (hr : Region.ready md ops listed = [i]) (ho : ops[i]? = some o) (hg : o.guard = none)
    (h : o.wpIn F n P a w (fun a' w' => S w' ∧ wpAnyJ F n P md ops Q S fuel (listed.setIfInBounds i true) a' w') Q) : wpAnyJ F n P md ops Q S (fuel + 1) listed a w :=
  ⟨fun h0 => absurd (hr ▸ h0) (by simp), by
    rw [hr]
    intro j hj
    rw [List.mem_singleton] at hj
    subst hj
    unfold wpOpIn
    simp only [ho, Region.wanted, hg, if_true]
    exact h⟩
theorem wpAnyJ_done {listed : Array Bool} {a : Act} {w : World} (hr : Region.ready md ops listed = []) (h : Q .normal a w) :
    ∀ fuel, wpAnyJ F n P md ops Q S fuel listed a w
  | 0 => ⟨hr, h⟩
  | _ + 1 => ⟨fun _ => h, by rw [hr]; simp⟩
theorem wpOpIn_noPanic {i : Nat} {a : Act} {w : World} {K : Act → World → Prop} (hh : wpOpIn F n P ops (NoPanic Q) i K a w) : wpOpIn F n P ops Q i K a w := by
  unfold wpOpIn at *
  split
  · simpa [*] using hh
  · rename_i o ho
    simp only [ho] at hh
    split
    · rename_i hw
      simp only [hw, if_true] at hh
      unfold Oper.wpIn at *
      refine ⟨hh.1, ?_⟩
      have hh := hh.2
      generalize (o.semAt F.round a.eval).run P w = r at *
      cases r with
      | ok x w' =>
        cases x <;> simp only [Oper.uponIn] at hh ⊢ <;>
          first
            | exact hh
            | exact ⟨hh.1, CallsIn.mono hh.2 (fun e w'' he => by cases e <;> first | exact he | exact (he : False).elim)⟩
            | exact ⟨hh.1, RoundIn.mono hh.2 (fun e w'' he => by cases e <;> first | exact he | exact (he : False).elim)⟩
      | halt x w' => cases x <;> simp only [Oper.uponIn] at hh ⊢ <;> first | exact hh | exact (hh : False).elim
    · rename_i hw
      simp only [hw] at hh
      exact hh
theorem wpAnyIn_noPanic : ∀ (fuel : Nat) (listed : Array Bool) (a : Act) (w : World), wpAnyIn F n P md ops (NoPanic Q) fuel listed a w → wpAnyIn F n P md ops Q fuel listed a w
  | 0, _, _, _, h => h
  | fuel + 1, _, _, _, h => ⟨h.1, fun i hi => wpOpIn_mono (fun a' w' h' => wpAnyIn_noPanic fuel _ a' w' h') (wpOpIn_noPanic (h.2 i hi))⟩
/-- The beginning. -/
theorem wpIn_region_J {id : Nat} {a : Act} {w : World} (S : World → Prop) (hm : P.follows .mixedOrders = true)
    (h : wpAnyJ F n P .any ops (NoPanic Q) S ops.size (Array.replicate ops.size false) a w.drew) : (Code.region id ops true).wpIn F n P Q a w :=
  wpIn_region_any hm (wpAnyIn_noPanic _ _ _ _ (wpAnyIn_of_J _ _ _ _ h))
end
end Go.Proofs.YtladmconpolneaaGreat

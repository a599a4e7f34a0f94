/- TopShape, walked. -/
import Derived.Test.YtladmconpolneaaGreatMt
set_option linter.unusedVariables false
set_option linter.unusedSimpArgs false
namespace Go.Proofs.YtladmconpolneaaGreat
open Go.RowKit
attribute [local go_sem] Oper.semAt_some
section
variable {P : Program} {F : Fence} {n : Nat} {ops : Array Oper} {C : World → Prop} {md : Region.Mode}
def noDeferR (ops : Array Oper) : Bool := ops.all fun o => match o.op with
  | .defer _ => false
  | _ => true
theorem noDeferR_at (h : noDeferR ops = true) {i : Nat} {o : Oper} (ho : ops[i]? = some o) (c : Call) : o.op ≠ .defer c := by
  obtain ⟨hi, rfl⟩ := Array.getElem?_eq_some_iff.1 ho
  have := Array.all_eq_true.1 h i hi
  intro e
  rw [e] at this
  cases this
theorem quietR_op {o : Oper} {a : Act} {K : Act → Prop} {K' : Act → World → Prop} {Q' : Exit → Act → World → Prop} {w : World} (hro : ∀ c, o.op ≠ .defer c) (hw : C w) (h : ∀ a w', C w' → K a → K' a w')
    (ha : o.askedIn F P a C) (hh : o.quietIn F n P a C K) : o.wpIn F n P a w K' Q' := by
  obtain ⟨v, h1, h2⟩ := hh
  have h3 := h1 w hw
  unfold Oper.quietAtIn at h3
  unfold Oper.wpIn
  refine ⟨ha w hw, ?_⟩
  rw [Oper.semAt_eq _ _ _ hro]
  generalize (execOp a.eval o).run P w = r at *
  cases r with
  | ok x w' =>
    cases x <;> simp only [Oper.quietUponIn] at h3 <;> simp only [Oper.uponIn]
    case value u =>
      obtain ⟨e1, e2⟩ := h3
      rw [e1, e2]
      exact h _ _ hw h2
    case skip =>
      obtain ⟨e1, e2⟩ := h3
      rw [e1, ← e2]
      exact h _ _ hw h2
    case enter f args =>
      obtain ⟨e1, hd, hc⟩ := h3
      rw [e1]
      exact ⟨hd, hc.mono fun e w'' ⟨he, hw''⟩ => by subst he; exact h _ _ hw'' h2⟩
  | halt x w' => simp only [Oper.quietUponIn] at h3
theorem quietR_at {i : Nat} {a : Act} {K : Act → Prop} {K' : Act → World → Prop} {Q' : Exit → Act → World → Prop} {w : World} (hro : noDeferR ops = true) (hC : C w) (h : ∀ a w', C w' → K a → K' a w')
    (hh : qOpIn F n P ops C i K a) : wpOpIn F n P ops Q' i K' a w := by
  unfold qOpIn at hh
  unfold wpOpIn
  split
  · rename_i ho; simp only [ho] at hh; exact h _ _ hC hh
  · rename_i o ho
    simp only [ho] at hh
    obtain ⟨ha, hh⟩ := hh
    split
    · rename_i hw; simp only [hw, if_true] at hh; exact quietR_op (noDeferR_at hro ho) hC h ha hh
    · rename_i hw; simp only [hw] at hh; exact ⟨ha w hC, h _ _ hC hh⟩
theorem quietR_any {Q : Act → Prop} {Q' : Exit → Act → World → Prop} (hro : noDeferR ops = true) (hQ : ∀ a w, C w → Q a → Q' .normal a w) : ∀ (fuel : Nat) (listed : Array Bool) (a : Act) (w : World), C w →
    wpAnyQIn F n P md ops C Q fuel listed a → wpAnyIn F n P md ops Q' fuel listed a w
  | 0, _, _, _, hw, h => ⟨h.1, hQ _ _ hw h.2⟩
  | fuel + 1, _, _, _, hw, h => ⟨fun h0 => hQ _ _ hw (h.1 h0), fun i hi => quietR_at hro hw (fun a' w' hw' => quietR_any hro hQ fuel _ a' w' hw') (h.2 i hi)⟩
/-- A quiet region, in a round of a range over a function. -/
theorem quietR {id : Nat} {Q : Exit → Act → World → Prop} {a : Act} {w : World} {l : List Oper} (hro : noDeferR l.toArray = true) (hm : P.follows .mixedOrders = true) (hB : Region.lexB .any l.toArray = true)
    (h : wpQuietIn F n P l.toArray (fun w' => ∃ n, w' = w.drewN n) (fun a' => ∀ w', (∃ n, w' = w.drewN n) → Q .normal a' w') l a) : (Code.region id l.toArray true).wpIn F n P Q a w := by
  simp only [Region.lexB, Bool.and_eq_true] at hB
  refine wpIn_region_any hm (quietR_any (C := fun w' => ∃ n, w' = w.drewN n) (Q := fun a' => ∀ w', (∃ n, w' = w.drewN n) → Q .normal a' w') hro (fun _ w' hw' h => h w' hw') _ _ _ _ ⟨1, rfl⟩ ?_)
  have := wpAnyQIn_lex (F := F) (n := n) (C := fun w' => ∃ n, w' = w.drewN n) (md := .any) hB.1 l 0 (Array.replicate l.toArray.size false) a (by simp) (by simpa using hB.2) h
  simpa using this
end
theorem lf_length : ∀ (t : BT) (a : Nat), (lf (t.nodes a)).length = t.leaves
  | .leaf l, a => by simp [BT.nodes, lf, BT.leaves, leafN]
  | .split nrm off l r, a => by
    rw [BT.nodes, lf_cons, lf_append]
    show (lf (l.nodes (a + 1)) ++ lf (r.nodes (a + 1 + l.size))).length = _
    rw [List.length_append, lf_length l, lf_length r]
    rfl
/-- All of a grown forest's trees. -/
structure ShapeT (n dim leaf depth : Nat) (ns : List Node) : Prop where
  tok : TOk ns n dim
  vk : vok ns 0 false ⟨0, []⟩
  vd : ∀ p ∈ wvis ns 0 false ⟨0, []⟩, p.2 ≤ depth
  lvs : (lf ns).length ≤ n
  size : ns.length + 1 = 2 * (lf ns).length
  deep : ∀ p ∈ wvis ns 0 false ⟨0, []⟩, ∃ x, ns[p.1]? = some x ∧ (x.leaf = true → x.ids.length ≤ leaf ∨ p.2 = depth)
theorem vis_at : ∀ (t : BT) (a d : Nat) (p : Nat × Nat), p ∈ t.vis a d → a ≤ p.1 ∧ p.1 < a + t.size
  | .leaf _, a, d, p, h => by simp [BT.vis] at h; subst h; exact ⟨Nat.le_refl _, by show a < a + 1; omega⟩
  | .split _ _ l r, a, d, p, h => by
    have := l.size_pos
    simp only [BT.vis, List.mem_cons, List.mem_append] at h
    rw [BT.size]
    rcases h with rfl | h | h
    · exact ⟨Nat.le_refl _, by show a < _; omega⟩
    · have := vis_at l _ _ p h; omega
    · have := vis_at r _ _ p h; omega
theorem shape_of {F : List Int} {dim leaf depth n : Nat} {ns : List Node} (hF : F.length = n * dim) (hb : Bd 1048576 F) (hd : dim ≤ 1024) (hl : 1 ≤ leaf) (hdp : depth ≤ 64) (hn : 1 ≤ n) (hn2 : n ≤ 20000) (h : Reach F dim leaf depth n ns []) : ShapeT n dim leaf depth ns := by
  obtain ⟨t, f⟩ := fine_of hF hb hd hl hdp hn hn2 h
  have e := lf_length t 0
  rw [← f.nodes] at e
  refine ⟨f.tok, f.vk, f.vd, by rw [e]; exact f.leaves, by rw [e]; exact f.size, fun p hp => ?_⟩
  rw [f.nodes, wvis_whole] at hp
  have hat := vis_at t 0 0 p hp
  have hlt : p.1 < ns.length := by rw [f.nodes, t.nodes_length]; omega
  refine ⟨ns[p.1], List.getElem?_eq_getElem hlt, fun hx => ?_⟩
  have := vis_leaf f.good 0 [] [] rfl p hp ns[p.1] (by rw [List.nil_append, List.append_nil, ← f.nodes]; exact List.getElem?_eq_getElem hlt) hx
  exact this
/-- What forest.Build yields of items: a forest of grown trees, or an error. -/
def BuildOr (w : World) (bi dim n : Nat) (p : Par) (F : List Int) (e : Ending) (w' : World) : Prop :=
  (∃ er : Int, er ≠ 0 ∧ e = .returned (.tuple #[.agg #[.pointer none, .int .i64 0, .int .i64 0, .slice none 0 0], .int .i64 er]) ∧ Below w.heap.size w w') ∨
  (∃ leaf depth : Nat, ∃ TA tc ts, e = .returned (.tuple #[.agg #[.pointer (some ⟨bi, 0, none⟩), .int .i64 (leaf : Int), .int .i64 (depth : Int), .slice TA ts.length tc], .int .i64 0]) ∧ ForestAt w' (.slice TA ts.length tc) ts ∧
    Nums p leaf depth ts.length ∧ 1 ≤ n ∧ (∀ t ∈ ts, Reach F dim leaf depth n t []) ∧ Below w.heap.size w w')
theorem build_or (w : World) (B bi dim n : Nat) (F : List Int) (h : ItemsAt w B bi dim n F) (p : Par) (L : Option Addr) (c : Nat) (hL : Reads w L p.list.length (u64V p.list)) (hll : p.list.length ≤ 1000) (hu : ∀ x ∈ p.list, U64 x) (hn : n ≤ 20000) :
    Calls Tryz.prog 20 #[.pointer (some ⟨bi, 0, none⟩), .agg (parV p L c)] w (BuildOr w bi dim n p F) := by
  by_cases hE : forestE p n = 0
  · have hg : growE p = 0 := by
      unfold forestE at hE
      split at hE
      · assumption
      · exact hE
    have hn0 : n ≠ 0 := by
      intro h0
      unfold forestE at hE
      rw [if_pos hg, if_pos h0] at hE
      cases hE
    obtain ⟨leaf, depth, trees, N⟩ := nums_of hg
    refine (fbuild_any w B bi dim n leaf depth trees F h p N.el N.ed N.et L c hL hll hu hg ⟨by omega, hn⟩ N.lf.1 N.tr.2).mono ?_
    rintro e w' ⟨TA, tc, ts, rfl, hf, hl, hr, hb⟩
    subst hl
    exact .inr ⟨leaf, depth, TA, tc, ts, rfl, hf, N, by omega, hr, hb⟩
  · refine (fbuild_bad w B bi dim n F h p L c hE).mono ?_
    rintro e w' ⟨rfl, hb⟩
    exact .inl ⟨_, hE, rfl, hb⟩
/-- A mark among the deferred calls: a range over a function that is done. -/
def markAt (r : Nat) : Deferred := { target := .collected r, args := #[] }
structure Marks (n : Nat) (W : World) (rs : List Nat) : Prop where
  all : ∀ r ∈ rs, n ≤ r ∧ W.heap[r]? = some (.deferred (some []))
  nd : rs.Nodup
theorem Marks.nil (n : Nat) (W : World) : Marks n W [] := ⟨by simp, List.nodup_nil⟩
theorem Marks.lt {n : Nat} {W : World} {rs : List Nat} (h : Marks n W rs) (r : Nat) (hr : r ∈ rs) : r < W.heap.size := (Array.getElem?_eq_some_iff.1 (h.all r hr).2).1
theorem Marks.push {n r : Nat} {W W' : World} {rs : List Nat} (h : Marks n W rs) (hb : Below W.heap.size W W') (hn : n ≤ W.heap.size) (hr : W.heap.size ≤ r) (hk : W'.heap[r]? = some (.deferred (some []))) : Marks n W' (r :: rs) := by
  refine ⟨fun x hx => ?_, List.nodup_cons.2 ⟨fun hx => ?_, h.nd⟩⟩
  · rcases List.mem_cons.1 hx with rfl | hx
    · exact ⟨Nat.le_trans hn hr, hk⟩
    · exact ⟨(h.all x hx).1, (hb.block x (h.lt x hx)).trans (h.all x hx).2⟩
  · have := h.lt r hx; omega
theorem Marks.set {n g : Nat} {W : World} {rs : List Nat} {v : Value} (h : Marks n W rs) (hg : W.heap[g]? = some (.cells #[v] 4 (0, 0))) (u : Value) : Marks n (W.setCell ⟨g, 0, none⟩ u) rs :=
  ⟨fun x hx => ⟨(h.all x hx).1, (Below.heap_setCell W ⟨g, 0, none⟩ u x (by
    rintro rfl
    have := (h.all _ hx).2
    rw [hg] at this
    cases this)).trans (h.all x hx).2⟩, h.nd⟩
theorem leave_marks {w : World} {n g : Nat} (tmps : Array Value) (hp : tmps.getD 6 undef = .pointer (some ⟨g, 0, none⟩)) : ∀ (rs : List Nat) (W : World), Marks n W rs → W.heap[g]? = some (.cells #[.bool true] 4 (0, 0)) → Below n w W →
    LeavesInM Fence.wide 0 Tryz.prog Tryz.f8 tmps (fun e w' => e = .returned (.bool true) ∧ Below n w w') (rs.map markAt) .returning W
  | [], W, _, hg, hb => ⟨.bool true, results_cell_one rfl _ _ g _ hp (loadVar_bool _ _ _ (cell_of_row _ _ _ #[.bool true] 4 (0, 0) hg)), rfl, hb⟩
  | r :: rs, W, hm, hg, hb => by
    have h1 := hm.all r (by simp)
    have hne : r ≠ g := fun e => by rw [e, hg] at h1; cases h1.2
    refine ⟨by simp, .inl ⟨r, _, rfl, run_takeDeferred h1.2, leave_marks tmps hp rs _ ⟨fun x hx => ?_, (List.nodup_cons.1 hm.nd).2⟩ ?_ ?_⟩⟩
    · have hx1 := hm.all x (by simp [hx])
      refine ⟨hx1.1, (World.putObj_heap_other ?_).trans hx1.2⟩
      rintro rfl
      exact (List.nodup_cons.1 hm.nd).1 hx
    · exact (World.putObj_heap_other (fun e => hne e.symm)).trans hg
    · exact bel_putObj hb h1.1
set_option maxRecDepth 100000 in
set_option maxHeartbeats 3200000 in
theorem shape_law (dim : Int) (vs : List (List Int)) (A : Option Addr) (ca : Nat) (p : Par) (L : Option Addr) (c : Nat) (w : World)
    (h : ListsAt w A vs) (hs : Small vs) (hn : vs.length ≤ 281474976710656) (hp : ParAt w p L) :
    Calls Tryz.prog 8 #[.int .i64 dim, .slice A vs.length ca, .agg (parV p L c)] w fun e w' => e = .returned (.bool true) ∧ Below w.heap.size w w' := by
  obtain ⟨W0, hW0⟩ : ∃ W, (w.alloc (.cells (parV p L c) 28)).alloc (.cells #[.bool false] 4) = W := ⟨_, rfl⟩
  have HB0 : Hid (Below w.heap.size w W0) := by show Below _ _ _; rw [← hW0]; exact ((Below.refl _ _).alloc (Nat.le_refl _) _).alloc (by simp) _
  have G0 : Hid (W0.heap[w.heap.size]? = some (.cells (parV p L c) 28 (0, 0))) := by show _ = _; rw [← hW0, Below.heap_alloc _ _ _ (by simp)]; exact heap_alloc_new _ _
  have G1 : Hid (W0.heap[w.heap.size + 1]? = some (.cells #[.bool false] 4 (0, 0))) := by show _ = _; rw [← hW0]; exact alloc_at0 _ _ _ (by simp)
  have HW0 := Lib.hid hW0
  have HLI : Hid (∀ W, Calls Tryz.prog 9 #[] W fun e w' => e = .returned (.bool true) ∧ Below W.heap.size W w') := fun W => lives_any W
  have HPS : Hid (∀ W, Below W0.heap.size W0 W → PSt w.heap.size p L c W) := fun W hb => PSt.of ((hb.block _ (lt_of_block G0.out)).trans G0.out)
  have HBI : Hid (∀ W, Below w.heap.size w W → Calls Tryz.prog 10 #[.slice A vs.length ca, .agg (parV p L c), .slice none 0 0] W (BigPost (NotBig vs p 0) W)) := fun W hb => big_any vs A ca p L c none 0 0 W (h.below hb) hs hn
  have HIT : Hid (∀ W, Below w.heap.size w W → vs.length ≤ 40 → Calls Tryz.prog 18 #[.int .i64 dim, .slice A vs.length ca] W (ItemsPost W dim vs)) := fun W hb hn => items_any dim vs A ca W (h.below hb) (by omega)
  have HP : Hid (∀ W, Below w.heap.size w W → Reads W L p.list.length (u64V p.list)) := fun W hb => hp.rt.below hb
  have HU := Lib.hid hp.u64
  rw [par_cell] at *
  clear h hs hn hp hW0
  refine calls_marks Tryz.func8 rfl ?_
  simp only [Tryz.ntmps8, List.size_toArray, List.length_cons, List.length_nil, Nat.reduceAdd, Nat.reduceSub, Array.replicate_succ, Array.replicate_zero, List.push_toArray, List.append_toArray, List.nil_append, List.cons_append]
  go_wp2_with (first
    | (go_at_call 9; rw [HW0.out]; refine (HLI.out W0).mono ?_; rintro e w1 ⟨rfl, hb1⟩
       have HB01 := Lib.hid hb1
       have HB1 := Lib.hid (HB0.out.trans (hb1.mono HB0.out.size))
       obtain ⟨d0, d1, d2, d3, d4, d5⟩ := HPS.out w1 hb1
       clear hb1)
    | (go_at_call 10; refine (HBI.out w1 HB1.out).mono ?_; rintro e w2 ⟨bo, rfl, hbo, hb2⟩
       have HB02 := Lib.hid (HB01.out.trans (hb2.mono HB01.out.size))
       have HB2 := Lib.hid (HB1.out.trans (hb2.mono HB1.out.size))
       obtain ⟨q0, q1, q2, q3, q4, q5⟩ := HPS.out w2 HB02.out
       have HG2 := Lib.hid ((HB02.out.block _ (lt_of_block G1.out)).trans G1.out)
       have cq : w2.cell? ⟨w.heap.size + 1, 0, none⟩ = some (.bool false) := cell_of_row _ _ _ _ _ _ HG2.out
       have fq : w2.frozen? ⟨w.heap.size + 1, 0, none⟩ = false := frozen_of_row _ _ _ _ _ HG2.out
       have HBO := Lib.hid hbo
       clear hb2 hbo d0 d1 d2 d3 d4 d5
       cases bo)
    | (go_at_call 18
       have HNB := Lib.hid (HBO.out (by first | rfl | trivial))
       refine (HIT.out w2 HB2.out HNB.out.cnt).mono ?_; rintro e w3 ⟨hb3, hor⟩
       rcases hor with ⟨rfl, -⟩ | ⟨bi, rfl, hd1, hd2, -, hi⟩
       case' inl =>
         have HB03 := Lib.hid (HB02.out.trans (hb3.mono HB02.out.size))
         have HB3 := Lib.hid (HB2.out.trans (hb3.mono HB2.out.size))
         have HG3 := Lib.hid ((HB03.out.block _ (lt_of_block G1.out)).trans G1.out)
         have cr : w3.cell? ⟨w.heap.size + 1, 0, none⟩ = some (.bool false) := cell_of_row _ _ _ _ _ _ HG3.out
         have fr : w3.frozen? ⟨w.heap.size + 1, 0, none⟩ = false := frozen_of_row _ _ _ _ _ HG3.out
         clear hb3 q0 q1 q2 q3 q4 q5 cq fq
       case' inr =>
         obtain ⟨d, rfl⟩ := Int.eq_ofNat_of_zero_le (show 0 ≤ dim by omega)
         have HB03 := Lib.hid (HB02.out.trans (hb3.mono HB02.out.size))
         have HB3 := Lib.hid (HB2.out.trans (hb3.mono HB2.out.size))
         have HG3 := Lib.hid ((HB03.out.block _ (lt_of_block G1.out)).trans G1.out)
         obtain ⟨r0, r1, r2, r3, r4, r5⟩ := HPS.out w3 HB03.out
         have HD := Lib.hid (And.intro hd1 hd2)
         have hi : ItemsAt w3 w2.heap.size bi d vs.length vs.flatten := hi
         have HI3 := Lib.hid hi
         have HBU := build_or w3 w2.heap.size bi d vs.length vs.flatten hi p L c (HP.out w3 HB3.out) (by have := HNB.out.list; omega) HU.out (by have := HNB.out.cnt; omega)
         rw [par_cell] at HBU
         have HBU := Lib.hid HBU
         clear hb3 q0 q1 q2 q3 q4 q5 cq fq hd1 hd2 hi)
    | (go_at_call 20
       refine HBU.out.mono ?_; rintro e w4 hor
       rcases hor with ⟨er, her, rfl, hb4⟩ | ⟨leaf, depth, TA, tc, ts, rfl, hf, N, hn1, hr, hb4⟩
       case' inl =>
         have HB04 := Lib.hid (HB03.out.trans (hb4.mono HB03.out.size))
         have HB4 := Lib.hid (HB3.out.trans (hb4.mono HB3.out.size))
         have HBA : Hid (Below w4.heap.size w4 (w4.alloc (.cells #[.pointer none, .int .i64 0, .int .i64 0, .slice none 0 0] 62))) := (Below.refl _ _).alloc (Nat.le_refl _) _
         have HG4 := Lib.hid (((HB04.out.trans (HBA.out.mono HB04.out.size)).block _ (lt_of_block G1.out)).trans G1.out)
         have cs : (w4.alloc (.cells #[.pointer none, .int .i64 0, .int .i64 0, .slice none 0 0] 62)).cell? ⟨w.heap.size + 1, 0, none⟩ = some (.bool false) := cell_of_row _ _ _ _ _ _ HG4.out
         have fs : (w4.alloc (.cells #[.pointer none, .int .i64 0, .int .i64 0, .slice none 0 0] 62)).frozen? ⟨w.heap.size + 1, 0, none⟩ = false := frozen_of_row _ _ _ _ _ HG4.out
         have her' : (er == 0) = false := by simpa using her
         clear hb4 her r0 r1 r2 r3 r4 r5
       case' inr =>
         have HB04 := Lib.hid (HB03.out.trans (hb4.mono HB03.out.size))
         have HB4 := Lib.hid (HB3.out.trans (hb4.mono HB3.out.size))
         have HF4 := Lib.hid hf
         have HN4 := Lib.hid (And.intro N (And.intro hn1 hr))
         have HI4 := Lib.hid (HI3.out.below hb4)
         clear hb4 hf N hn1 hr r0 r1 r2 r3 r4 r5)
    | fail)
  rotate_left
  · refine leave_marks _ ?_ [] _ (Marks.nil _ _) (heap_setCell_same _ _ 0 _ _ _ HG4.out) ((HB4.out.trans (HBA.out.mono HB4.out.size)).setCell (Nat.le_succ _) _)
    rfl
  · refine leave_marks _ ?_ [] _ (Marks.nil _ _) (heap_setCell_same w3 _ 0 _ _ _ HG3.out) (HB3.out.setCell (Nat.le_succ _) _)
    rfl
  · refine leave_marks _ ?_ [] _ (Marks.nil _ _) (heap_setCell_same w2 _ 0 _ _ _ HG2.out) (HB2.out.setCell (Nat.le_succ _) _)
    rfl
  obtain ⟨W5, hW5⟩ : ∃ W, w4.alloc (.cells #[.pointer (some ⟨bi, 0, none⟩), .int .i64 (leaf : Int), .int .i64 (depth : Int), .slice TA ts.length tc] 62) = W := ⟨_, rfl⟩
  have HB45 : Hid (Below w4.heap.size w4 W5) := by show Below _ _ _; rw [← hW5]; exact (Below.refl _ _).alloc (Nat.le_refl _) _
  have HG5 : Hid (W5.heap[w4.heap.size]? = some (.cells #[.pointer (some ⟨bi, 0, none⟩), .int .i64 (leaf : Int), .int .i64 (depth : Int), .slice TA ts.length tc] 62 (0, 0))) := by show _ = _; rw [← hW5]; exact heap_alloc_new _ _
  have HB05 := Lib.hid (HB04.out.trans (HB45.out.mono HB04.out.size))
  have HB5 := Lib.hid (HB4.out.trans (HB45.out.mono HB4.out.size))
  have HGB5 := Lib.hid ((HB05.out.block _ (lt_of_block G1.out)).trans G1.out)
  have HF5 := Lib.hid (HF4.out.keep (KeepF.below HB45.out))
  obtain ⟨r0, r1, r2, r3, r4, r5⟩ := HPS.out W5 HB05.out
  have HN := Lib.hid HN4.out.1
  rw [HN.out.el] at r1
  rw [HN.out.ed] at r2
  rw [HN.out.et] at r0
  rw [hW5]
  clear hW5 r3 r4 r5 HB45
  refine wp_loop_ghost_k (fun k a' wr => ∃ (u11 u12 u13 u14 u15 u41 u42 u43 u44 u45 u46 u47 u48 u49 u50 u51 u52 u53 u54 u55 u56 u57 u58 u59 u60 u61 u62 u63 u64 u65 u66 u67 u68 u69 u70 u71 u72 u73 u74 u75 u76 u77 u78 u79 u82 u83 u84 u85 u86 u87 u88 u89 u90 u91 u92 u93 u94 u95 u96 u97 u98 u99 u100 u101 u102 u103 u104 : Value) (rs : List Nat) (j : Nat), (k = ts.length - j ∧ j ≤ ts.length ∧ u41 = .int .i64 (j : Int) ∧ Hid (Below W5.heap.size W5 wr) ∧ Hid (Marks w.heap.size wr rs)) ∧ a' = ⟨#[.int .i64 (d : Int), .slice A vs.length ca, .agg #[.int .i64 p.trees, .int .i64 p.leaf, .int .i64 p.depth, .bool p.scripted, .int .u64 p.seed, .slice L p.list.length c], undef, undef, .pointer (some ⟨w.heap.size, 0, none⟩), .pointer (some ⟨w.heap.size + 1, 0, none⟩), .pointer (some ⟨bi, 0, none⟩), .pointer (some ⟨w4.heap.size, 0, none⟩), .int .i64 0, undef, u11, u12, u13, u14, u15, .bool true, .bool false, .slice A vs.length ca, .agg #[.int .i64 p.trees, .int .i64 p.leaf, .int .i64 p.depth, .bool p.scripted, .int .u64 p.seed, .slice L p.list.length c], .bool false, .int .i64 (d : Int), .slice A vs.length ca, .pointer (some ⟨bi, 0, none⟩), .pointer (some ⟨bi, 0, none⟩), .bool false, .tuple #[.agg #[.pointer (some ⟨bi, 0, none⟩), .int .i64 (leaf : Int), .int .i64 (depth : Int), .slice TA ts.length tc], .int .i64 0], .pointer (some ⟨bi, 0, none⟩), .agg #[.int .i64 p.trees, .int .i64 p.leaf, .int .i64 p.depth, .bool p.scripted, .int .u64 p.seed, .slice L p.list.length c], .tuple #[.agg #[.pointer (some ⟨bi, 0, none⟩), .int .i64 (leaf : Int), .int .i64 (depth : Int), .slice TA ts.length tc], .int .i64 0], .agg #[.pointer (some ⟨bi, 0, none⟩), .int .i64 (leaf : Int), .int .i64 (depth : Int), .slice TA ts.length tc], .int .i64 0, .int .i64 0, .bool false, undef, undef, undef, undef, .pointer (some ⟨w4.heap.size, 3, none⟩), .slice TA ts.length tc, .int .i64 (ts.length : Int), u41, u42, u43, u44, u45, u46, u47, u48, u49, u50, u51, u52, u53, u54, u55, u56, u57, u58, u59, u60, u61, u62, u63, u64, u65, u66, u67, u68, u69, u70, u71, u72, u73, u74, u75, u76, u77, u78, u79, undef, undef, u82, u83, u84, u85, u86, u87, u88, u89, u90, u91, u92, u93, u94, u95, u96, u97, u98, u99, u100, u101, u102, u103, u104, undef, undef, undef, undef, undef, undef], rs.map markAt⟩) ts.length ?_ ?_
  · exact ⟨_, _, _, _, _, _, _, _, _, _, _, _, _, _, _, _, _, _, _, _, _, _, _, _, _, _, _, _, _, _, _, _, _, _, _, _, _, _, _, _, _, _, _, _, _, _, _, _, _, _, _, _, _, _, _, _, _, _, _, _, _, _, _, _, _, _, _, [], 0, ⟨rfl, Nat.zero_le _, rfl, Lib.hid (Below.refl _ _), Lib.hid (Marks.nil _ _)⟩, rfl⟩
  intro gk a0 wr hinv J K hJ hK
  obtain ⟨u11, hinv⟩ := hinv
  obtain ⟨u12, hinv⟩ := hinv
  obtain ⟨u13, hinv⟩ := hinv
  obtain ⟨u14, hinv⟩ := hinv
  obtain ⟨u15, hinv⟩ := hinv
  obtain ⟨u41, hinv⟩ := hinv
  obtain ⟨u42, hinv⟩ := hinv
  obtain ⟨u43, hinv⟩ := hinv
  obtain ⟨u44, hinv⟩ := hinv
  obtain ⟨u45, hinv⟩ := hinv
  obtain ⟨u46, hinv⟩ := hinv
  obtain ⟨u47, hinv⟩ := hinv
  obtain ⟨u48, hinv⟩ := hinv
  obtain ⟨u49, hinv⟩ := hinv
  obtain ⟨u50, hinv⟩ := hinv
  obtain ⟨u51, hinv⟩ := hinv
  obtain ⟨u52, hinv⟩ := hinv
  obtain ⟨u53, hinv⟩ := hinv
  obtain ⟨u54, hinv⟩ := hinv
  obtain ⟨u55, hinv⟩ := hinv
  obtain ⟨u56, hinv⟩ := hinv
  obtain ⟨u57, hinv⟩ := hinv
  obtain ⟨u58, hinv⟩ := hinv
  obtain ⟨u59, hinv⟩ := hinv
  obtain ⟨u60, hinv⟩ := hinv
  obtain ⟨u61, hinv⟩ := hinv
  obtain ⟨u62, hinv⟩ := hinv
  obtain ⟨u63, hinv⟩ := hinv
  obtain ⟨u64, hinv⟩ := hinv
  obtain ⟨u65, hinv⟩ := hinv
  obtain ⟨u66, hinv⟩ := hinv
  obtain ⟨u67, hinv⟩ := hinv
  obtain ⟨u68, hinv⟩ := hinv
  obtain ⟨u69, hinv⟩ := hinv
  obtain ⟨u70, hinv⟩ := hinv
  obtain ⟨u71, hinv⟩ := hinv
  obtain ⟨u72, hinv⟩ := hinv
  obtain ⟨u73, hinv⟩ := hinv
  obtain ⟨u74, hinv⟩ := hinv
  obtain ⟨u75, hinv⟩ := hinv
  obtain ⟨u76, hinv⟩ := hinv
  obtain ⟨u77, hinv⟩ := hinv
  obtain ⟨u78, hinv⟩ := hinv
  obtain ⟨u79, hinv⟩ := hinv
  obtain ⟨u82, hinv⟩ := hinv
  obtain ⟨u83, hinv⟩ := hinv
  obtain ⟨u84, hinv⟩ := hinv
  obtain ⟨u85, hinv⟩ := hinv
  obtain ⟨u86, hinv⟩ := hinv
  obtain ⟨u87, hinv⟩ := hinv
  obtain ⟨u88, hinv⟩ := hinv
  obtain ⟨u89, hinv⟩ := hinv
  obtain ⟨u90, hinv⟩ := hinv
  obtain ⟨u91, hinv⟩ := hinv
  obtain ⟨u92, hinv⟩ := hinv
  obtain ⟨u93, hinv⟩ := hinv
  obtain ⟨u94, hinv⟩ := hinv
  obtain ⟨u95, hinv⟩ := hinv
  obtain ⟨u96, hinv⟩ := hinv
  obtain ⟨u97, hinv⟩ := hinv
  obtain ⟨u98, hinv⟩ := hinv
  obtain ⟨u99, hinv⟩ := hinv
  obtain ⟨u100, hinv⟩ := hinv
  obtain ⟨u101, hinv⟩ := hinv
  obtain ⟨u102, hinv⟩ := hinv
  obtain ⟨u103, hinv⟩ := hinv
  obtain ⟨u104, hinv⟩ := hinv
  obtain ⟨rs, hinv⟩ := hinv
  obtain ⟨j, hinv⟩ := hinv
  obtain ⟨hrel, ha⟩ := hinv
  subst ha
  obtain ⟨rfl, hj, rfl, HB, HM⟩ := hrel
  try dsimp only
  have q0 := keepc HB.out r0
  have q1 := keepc HB.out r1
  have q2 := keepc HB.out r2
  have c3 : W5.cell? ⟨w4.heap.size, 3, none⟩ = some (.slice TA ts.length tc) := cell_of_row _ _ _ _ _ _ HG5.out
  have q3 := keepc HB.out c3
  have HBX := Lib.hid (HB5.out.trans (HB.out.mono HB5.out.size))
  have HGBX := Lib.hid ((HB.out.block _ (lt_of_block HGB5.out)).trans HGB5.out)
  have cB : wr.cell? ⟨w.heap.size + 1, 0, none⟩ = some (.bool false) := cell_of_row _ _ _ _ _ _ HGBX.out
  have fB : wr.frozen? ⟨w.heap.size + 1, 0, none⟩ = false := frozen_of_row _ _ _ _ _ HGBX.out
  clear r0 r1 r2 c3
  by_cases hjn : j = ts.length
  · subst hjn
    go_wp2
    refine leave_marks _ ?_ rs _ (HM.out.set HGBX.out _) (heap_setCell_same _ _ 0 _ _ _ HGBX.out) (HBX.out.setCell (Nat.le_succ _) _)
    rfl
  · have hlt : j < ts.length := by omega
    have hkl : (j : Int) < (ts.length : Int) := by omega
    have hk9 : (0 : Int) ≤ (j : Int) := by omega
    have hkb : (j : Int) ≤ 256 := by have := HN.out.tr.2; omega
    have hnb : vs.length ≤ 40 := HNB.out.cnt
    have hn1 : 1 ≤ vs.length := HN4.out.2.1
    obtain ⟨fc, hfo, _⟩ := HF5.out
    obtain ⟨gF, rfl⟩ := own_addr hfo (by omega)
    obtain ⟨TB, cap, cells, hct, ho, hr⟩ := (HF5.out.keep (KeepF.below HB.out)).tree j hlt
    have HDI : Hid (1 ≤ d ∧ d ≤ 1024) := by have := HD.out; exact ⟨by omega, by omega⟩
    have HS := Lib.hid (shape_of HI4.out.len HI4.out.bd HDI.out.2 HN.out.lf.1 HN.out.dp hn1 (by omega) (HN4.out.2.2 _ (List.getElem_mem hlt)))
    have HBT := Lib.hid (And.intro HB.out.size (And.intro HBX.out.size HGBX.out))
    clear hfo HN4 HI4 HI3 HBU HF4 HF5 HIT HBI HLI HBO HNB
    generalize ts[j] = t at *
    have HCN : Hid (∀ W, Below wr.heap.size wr W → Calls Tryz.prog 25 #[.slice TB t.length cap] W fun e w' => e = .returned (.tuple #[.int .i64 (t.length : Int), .int .i64 ((lf t).length : Int)]) ∧ Below W.heap.size W w') := fun W hb => count_any W t 0 cap TB cells (own_belowW ho hb) (rows_belowW hr hb) ⟨HS.out.tok.len.2, HS.out.tok.il⟩
    have HCK : Hid (∀ W, Below wr.heap.size wr W → Calls Tryz.prog 26 #[.slice TB t.length cap, .int .i64 (vs.length : Int), .int .i64 (d : Int)] W fun e w' => e = .returned (.int .i64 0) ∧ Below W.heap.size W w') := fun W hb => scheck_any W t 0 cap vs.length d TB cells (own_belowW ho hb) (rows_belowW hr hb) HS.out.tok HDI.out ⟨hn1, by omega⟩
    have HDK : Hid (∀ W, Below wr.heap.size wr W → Calls Tryz.prog 27 #[.slice TB t.length cap] W fun e w' => ∃ m : Nat, e = .returned (.int .i64 (m : Int)) ∧ m ≤ depth ∧ Below W.heap.size W w') := fun W hb => depth_any W t 0 cap depth TB cells (own_belowW ho hb) (rows_belowW hr hb) HS.out.tok.len.2 HS.out.tok.w1 HS.out.vk HS.out.vd
    have HWK : Hid (∀ W, Calls Tryz.prog 28 #[.slice TB t.length cap] W fun e w' => e = .returned (.func (.func 63) #[] #[.pointer (some ⟨W.heap.size, 0, none⟩)]) ∧ w' = W.alloc (.cells #[.slice TB t.length cap] 65)) := walkf_any TB t.length cap
    have HHO := Lib.hid (And.intro ho hr)
    have hsz := HS.out.size
    have hlv := HS.out.lvs
    have htl := HS.out.tok.len.2
    have e1 : IntKind.i64.wrap (2 * ((lf t).length : Int)) = (t.length : Int) + 1 := by rw [IntKind.wrap_i64]; omega
    have e2 : IntKind.i64.wrap ((t.length : Int) + 1 - 1) = (t.length : Int) := by rw [IntKind.wrap_i64]; omega
    have e3 : IntKind.i64.wrap (t.length : Int) = (t.length : Int) := by rw [IntKind.wrap_i64]; omega
    have e4 : IntKind.i64.wrap (2 * (vs.length : Int)) = 2 * (vs.length : Int) := by rw [IntKind.wrap_i64]; omega
    have e5 : IntKind.i64.wrap (2 * (vs.length : Int) - 1) = 2 * (vs.length : Int) - 1 := by rw [IntKind.wrap_i64]; omega
    have e6 : decide (2 * (vs.length : Int) - 1 < (t.length : Int)) = false := by simp; omega
    have HBA1 : Hid (Below wr.heap.size wr (wr.alloc (.cells #[.slice TB t.length cap] 65))) := (Below.refl _ _).alloc (Nat.le_refl _) _
    have HGA1 : Hid ((wr.alloc (.cells #[.slice TB t.length cap] 65)).heap[wr.heap.size]? = some (.cells #[.slice TB t.length cap] 65 (0, 0))) := heap_alloc_new _ _
    have HQ2 := Lib.hid q2
    clear ho hr hsz hlv htl hjn
    go_wp2_with (first
      | (go_at_call 25; refine (HCN.out _ HBA1.out).mono ?_; rintro e w6 ⟨rfl, hb⟩
         have HB6 : Hid (Below wr.heap.size wr w6) := HBA1.out.trans (hb.mono HBA1.out.size)
         have HG6 := Lib.hid ((hb.block _ (lt_of_block HGA1.out)).trans HGA1.out)
         have x1 : w6.cell? ⟨wr.heap.size, 0, none⟩ = some (.slice TB t.length cap) := cell_of_row _ _ _ _ _ _ HG6.out
         have x2 := keepc HB6.out HQ2.out
         have HKEEP := Lib.hid (fun (W : World) (hb : Below w6.heap.size w6 W) => And.intro (keepc hb x1) (keepc hb x2))
         clear hb)
      | fail)
    go_region_held3 (fun W => W.cell? ⟨wr.heap.size, 0, none⟩ = some (.slice TB t.length cap) ∧ W.cell? ⟨w.heap.size, 2, none⟩ = some (.int .i64 (depth : Int))) (first | go_keep | exact HKEEP.out _ HBN.out)
      (first
        | (go_at_call 26; refine (HCK.out _ (HB6.out.trans (bel_drew (Below.refl _ _) |>.mono HB6.out.size))).mono ?_; rintro e w7 ⟨rfl, hb⟩; have HBN : Hid (Below w6.heap.size w6 w7) := (bel_drew (Below.refl _ _)).trans hb; clear hb)
        | (go_at_call 27; refine (HDK.out _ (HB6.out.trans (HBN.out.mono HB6.out.size))).mono ?_; rintro e w8 ⟨m, rfl, hm, hb⟩; have hmd : decide ((depth : Int) < (m : Int)) = false := by simp; omega
           have hmd2 : decide (depth < m) = false := by simp; omega
           have HBM : Hid (Below w6.heap.size w6 w8) := HBN.out.trans (hb.mono HBN.out.size); clear HBN; have HBN := HBM; clear HBM hb hm))
    obtain ⟨y1, y2⟩ := HKEEP.out _ HBN.out
    go_wp2_with (first
      | (go_at_call 28; refine (HWK.out w8).mono ?_; rintro e w9 ⟨rfl, rfl⟩)
      | fail)
    obtain ⟨WR, hWR⟩ : ∃ W, w8.alloc (.cells #[.slice TB t.length cap] 65) = W := ⟨_, rfl⟩
    have HB8 : Hid (Below w8.heap.size w8 WR) := by show Below _ _ _; rw [← hWR]; exact (Below.refl _ _).alloc (Nat.le_refl _) _
    have HG8 : Hid (WR.heap[w8.heap.size]? = some (.cells #[.slice TB t.length cap] 65 (0, 0))) := by show _ = _; rw [← hWR]; exact heap_alloc_new _ _
    have HB6R := Lib.hid (HBN.out.trans (HB8.out.mono HBN.out.size))
    have HBR := Lib.hid (HB6.out.trans (HB6R.out.mono HB6.out.size))
    obtain ⟨z1, z2⟩ := HKEEP.out _ HB6R.out
    have zl := keepc HBR.out q1
    have HOR := Lib.hid (own_belowW HHO.out.1 HBR.out)
    have HRR := Lib.hid (rows_belowW HHO.out.2 HBR.out)
    have HSQ : Hid (∀ W, Below WR.heap.size WR W → WSeq WR W t w8.heap.size []) := fun W hb => walk_seq WR W t 0 cap w8.heap.size TB cells [] (by simp) (by simp) HOR.out HRR.out HS.out.tok.len.2 HS.out.tok.w1 HS.out.vk hb ((hb.block _ (lt_of_block HG8.out)).trans HG8.out)
    rw [hWR]
    clear hWR y1 y2 q0 q1 q2 q3 x1 x2 cB fB hct e1 e2 e3 e4 e5 e6 hmd hmd2
    have hbel : ∀ o o' : Obj, Below WR.heap.size WR ((WR.alloc o).alloc o') := fun o o' => ((Below.refl _ _).alloc (Nat.le_refl _) _).alloc (by simp) _
    refine wp_rangeT (α := Nat × Nat) (gf := 63) (lb := #[.pointer (some ⟨w8.heap.size, 0, none⟩)]) rfl (Go.Proofs.enters_of Tryz.func63 (by kernel_rfl) rfl) (encs := fun x : Nat × Nat => #[.int .i64 (x.1 : Int), .int .i64 (x.2 : Int)])
      (V := fun pre x W => (∃ suf, pre ++ x :: suf = wvis t 0 false ⟨0, []⟩) ∧ Below WR.heap.size WR W) (T := TWalk WR.heap.size) (Kp := KpB WR.heap.size []) (S := fun xs W => xs = wvis t 0 false ⟨0, []⟩) (Sp := fun _ _ => True)
      (fun o o' _ _ => HSQ.out _ (hbel o o')) (fun _ => rfl)
      (fun pre W => Below WR.heap.size WR W) (fun _ _ _ => False)
      ?_ ?_ ?_ ?_ ?_ ?_ ?_ ?_ ?_ ?_ ?round ?done ?stop
    · intro A B h; exact h.2.stays
    · intro s A B h ht; exact h.trans ht.1
    · intro c s A B h _; exact h
    · intro s W o o' h h4 h5 h6; exact bel_putObj h (Nat.le_succ _)
    · intro c s W o o' h; exact h.elim
    · intro A B C h k; exact h.trans k
    · intro W o o' h1 h2; exact KpB.putObj o' h1 h2 (Nat.le_succ _)
    · intro s W o' h; exact h
    · intro s W o' h; exact h
    · intro o o' _ _; exact hbel o o'
    case round =>
      rintro l pre ⟨pa, pd⟩ W hI ⟨⟨suf, hs⟩, hbv⟩ _
      obtain ⟨x, hx, hxl⟩ := HS.out.deep (pa, pd) (by rw [← hs]; simp)
      obtain ⟨hpa, hxe⟩ := List.getElem?_eq_some_iff.1 hx
      have hpa : pa < t.length := hpa
      have hxe : t[pa] = x := hxe
      have hxl : x.leaf = true → x.ids.length ≤ leaf ∨ pd = depth := hxl
      have hpl : (pa : Int) < (t.length : Int) := by omega
      have hp9 : (0 : Int) ≤ (pa : Int) := by omega
      obtain ⟨gT, rfl⟩ := own_addr HOR.out (by omega)
      obtain ⟨Ai, ca', N, cn, hn⟩ := tree_node HOR.out HRR.out pa hpa
      rw [hxe] at hn
      have HNX := Lib.hid hn
      have HXL := Lib.hid hxl
      have htl := HS.out.tok.len.2
      have hpb : (pa : Int) ≤ 60000 := by omega
      clear hx hxe hn hxl hs hbv hpa htl
      gi_wp2
      refine ⟨Stays.refl _ _, ?_⟩
      rintro o ho
      try simp only [forall_exists_index, and_imp]
      intro o1 ho1 ho2
      have HI1 : Hid (Below WR.heap.size WR (W.putObj (WR.heap.size + 1) o)) := bel_putObj hI (Nat.le_succ _)
      have HKP : Hid (KpB WR.heap.size [] W (W.putObj (WR.heap.size + 1) o)) := KpB.putObj o ho1 ho2 (Nat.le_succ _)
      generalize W.putObj (WR.heap.size + 1) o = W1 at *
      have n0 := keepc HI1.out HNX.out.c0
      have n1 := keepc HI1.out HNX.out.c1
      have m1 := keepc HI1.out z1
      have m2 := keepc HI1.out z2
      have m3 := keepc HI1.out zl
      clear hI ho1 z1 z2 zl
      have hfin : ∀ n, Stays WR.heap.size W1 (W1.drewN n) ∧ KpB WR.heap.size [] W (W1.drewN n) ∧ Below WR.heap.size WR (W1.drewN n) := fun n =>
        ⟨Stays.below (bel_drewN (Below.refl _ _) _), HKP.out.trans ⟨bel_drewN (Below.refl _ _) _, KeepT.below (bel_drewN (Below.refl _ _) _)⟩, bel_drewN HI1.out _⟩
      have HFIN := Lib.hid hfin
      clear hfin
      cases hlf : x.leaf with
      | false =>
        rw [hlf] at n0
        gi_wp2
        refine quietR (by kernel_rfl) (by kernel_rfl) (by kernel_rfl) ?_
        repeat (gi_big_quiet_step (fail))
        refine wpQuietIn_nil ?_
        rintro _ ⟨nq, rfl⟩
        gi_wp2
        exact HFIN.out _
      | true =>
        rw [hlf] at n0
        by_cases hle : x.ids.length ≤ leaf
        · have f1 : decide ((leaf : Int) < (x.ids.length : Int)) = false := by simp; omega
          have f2 : decide (leaf < x.ids.length) = false := by simp; omega
          clear hle
          gi_wp2
          refine quietR (by kernel_rfl) (by kernel_rfl) (by kernel_rfl) ?_
          repeat (gi_big_quiet_step (fail))
          refine wpQuietIn_nil ?_
          rintro _ ⟨nq, rfl⟩
          gi_wp2
          exact HFIN.out _
        · have f1 : decide ((leaf : Int) < (x.ids.length : Int)) = true := by simp; omega
          have f2 : decide (leaf < x.ids.length) = true := by simp; omega
          obtain rfl : pd = depth := by rcases HXL.out hlf with h | h; exact absurd h hle; exact h
          clear hle
          gi_wp2
          refine quietR (by kernel_rfl) (by kernel_rfl) (by kernel_rfl) ?_
          repeat (gi_big_quiet_step (fail))
          refine wpQuietIn_nil ?_
          rintro _ ⟨nq, rfl⟩
          gi_wp2
          exact HFIN.out _
    case done =>
      rintro xs W hS hI hK
      have HBF : Hid (Below wr.heap.size wr W) := HBR.out.trans (hI.mono HBR.out.size)
      have HMF : Hid (Marks w.heap.size W (WR.heap.size :: rs)) := HM.out.push HBF.out HBX.out.size HBR.out.size hK
      clear hS hI hK
      go_wp2
      refine Handed.intro (ts.length - (j + 1)) (by omega) (hJ _ _ _ ⟨_, _, _, _, _, _, _, _, _, _, _, _, _, _, _, _, _, _, _, _, _, _, _, _, _, _, _, _, _, _, _, _, _, _, _, _, _, _, _, _, _, _, _, _, _, _, _, _, _, _, _, _, _, _, _, _, _, _, _, _, _, _, _, _, _, _, _, WR.heap.size :: rs, j + 1, ⟨rfl, hlt, by go_num, Lib.hid (HB.out.trans (HBF.out.mono HB.out.size)), HMF⟩, rfl⟩)
    case stop =>
      rintro c pre W _ h _
      exact h.elim
end Go.Proofs.YtladmconpolneaaGreat

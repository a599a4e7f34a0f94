/- Several texts of this seat, laid together (no statement of its own): their conditions stand in each theorem. -/
import Derived.Test.YtladmconpolneaaGreatMp
import Derived.Test.YtladmconpolneaaGreatMs
import Derived.Conc.HoldsTime
import Derived.Deep.Matrix
import Derived.ProofKit
import Derived.OpenShut
import Derived.SizedLaws
import Derived.Lib.SmallJoins
import Derived.ChangeOld
import Derived.Below
/- What the laws ask ahead: right? -/
set_option linter.unusedVariables false
set_option linter.unusedSimpArgs false
namespace Go.Proofs.YtladmconpolneaaGreat
open Go.RowKit
/-- What may be built of, and asked. -/
structure Right (dim : Int) (vs : List (List Int)) (p : Par) (v : List Int) : Prop where
  few : NotBig vs p v.length
  hdim : 1 ≤ dim ∧ dim ≤ 1024
  ok : okL dim.toNat vs
  grow : growE p = 0
  some : vs.length ≠ 0
  vec : vecE v dim = 0
set_option maxRecDepth 100000 in
set_option maxHeartbeats 1600000 in
theorem right_any (dim : Int) (vs : List (List Int)) (A : Option Addr) (ca : Nat) (p : Par) (L : Option Addr) (c : Nat) (v : List Int) (V : Option Addr) (cv : Nat) (w : World) (h : ListsAt w A vs) (hs : Small vs) (hn : vs.length ≤ 281474976710656) (hv : Reads w V v.length (i32V v)) :
    Calls Tryz.prog 17 #[.int .i64 dim, .slice A vs.length ca, .agg (parV p L c), .slice V v.length cv] w (SureBB (Right dim vs p v) w) := by
  have hb0 : Below w.heap.size w (w.alloc (.cells (parV p L c) 28)) := (Below.refl _ _).alloc (Nat.le_refl _) _
  obtain ⟨W0, hW0⟩ : ∃ W, w.alloc (.cells (parV p L c) 28) = W := ⟨_, rfl⟩
  have HB0 : Hid (Below w.heap.size w W0) := by show Below _ _ _; rw [← hW0]; exact hb0
  have G0 : Hid (W0.heap[w.heap.size]? = some (.cells (parV p L c) 28 (0, 0))) := by show _ = _; rw [← hW0]; exact heap_alloc_new _ _
  have HBG : Hid (∀ W, Below W0.heap.size W0 W → Calls Tryz.prog 10 #[.slice A vs.length ca, .agg (parV p L c), .slice V v.length cv] W (BigPost (NotBig vs p v.length) W)) := fun W hb => big_any vs A ca p L c V v.length cv W ((h.below HB0.out).below hb) hs hn
  have H46 : Hid (∀ W, Below W0.heap.size W0 W → Calls Tryz.prog 46 #[.int .i64 dim, .slice A vs.length ca] W fun e w' => SureI (1 ≤ dim ∧ dim ≤ 1024 ∧ okL dim.toNat vs) e ∧ W = w') := fun W hb => ten_any dim vs A ca W ((h.below HB0.out).below hb) hn
  have H34 : Hid (∀ W, Calls Tryz.prog 34 #[.slice A vs.length ca, .agg (parV p L c)] W (SureIB (growE p = 0 ∧ vs.length ≠ 0) W)) := fun W => twenty_any vs.length A ca p L c W
  have H46v : Hid (∀ W b, Below W0.heap.size W0 W → W.heap[b]? = some (.cells #[.slice V v.length cv] 30 (0, 0)) → Calls Tryz.prog 46 #[.int .i64 dim, .slice (some ⟨b, 0, none⟩) 1 1] W fun e w' => SureI (1 ≤ dim ∧ dim ≤ 1024 ∧ okL dim.toNat [v]) e ∧ W = w') := fun W b hb hg => ten_any dim [v] (some ⟨b, 0, none⟩) 1 W (fun i hi => by
    have h0 : i = 0 := by simpa using hi
    subst h0
    exact ⟨⟨b, 0, none⟩, V, cv, rfl, cell_of_row _ _ _ _ _ _ hg, (hv.below HB0.out).below hb⟩) (by simp)
  have HPS : Hid (∀ W, Below W0.heap.size W0 W → PSt w.heap.size p L c W) := fun W hb => PSt.of ((hb.block _ (lt_of_block G0.out)).trans G0.out)
  obtain ⟨d0, d1, d2, d3, d4, d5⟩ := HPS.out W0 (Below.refl _ _)
  rw [← hW0] at d0 d1 d2 d3 d4 d5
  have HW0 := Lib.hid hW0
  have HR : Hid (NotBig vs p v.length → 1 ≤ dim ∧ dim ≤ 1024 ∧ okL dim.toNat vs → growE p = 0 ∧ vs.length ≠ 0 → 1 ≤ dim ∧ dim ≤ 1024 ∧ okL dim.toNat [v] → Right dim vs p v) := fun a b c d => ⟨a, ⟨b.1, b.2.1⟩, b.2.2, c.1, c.2, by
    have := d.2.2 v (by simp)
    rwa [show ((dim.toNat : Nat) : Int) = dim by omega] at this⟩
  rw [par_cell] at *
  clear h hs hn hv hb0 hW0
  go_enter Tryz.func17, Tryz.ntmps17
  go_wp2_with (first
    | (go_at_call 10; rw [HW0.out]; refine (HBG.out W0 (Below.refl _ _)).mono ?_; rintro e w2 ⟨bo, rfl, hbo, hb2⟩
       have HB2 := Lib.hid hb2
       obtain ⟨q0, q1, q2, q3, q4, q5⟩ := HPS.out w2 hb2
       have HBO := Lib.hid hbo
       clear hb2 hbo d0 d1 d2 d3 d4 d5
       cases bo)
    | (go_at_call 46; refine (H46v.out _ w4.heap.size (HB4.out.alloc HB4.out.size _) (heap_alloc_new _ _)).mono ?_; rintro e w5 ⟨⟨er5, rfl, her5⟩, rfl⟩
       have HER5 := Lib.hid her5
       clear her5
       cases hee5 : (er5 == 0))
    | (go_at_call 46; refine (H46.out w2 HB2.out).mono ?_; rintro e w3 ⟨⟨er, rfl, her⟩, rfl⟩
       have HER := Lib.hid her
       clear her
       cases hee : (er == 0))
    | (go_at_call 34; refine (H34.out w2).mono ?_; rintro e w4 ⟨⟨er4, rfl, her4⟩, hb4⟩
       have HER4 := Lib.hid her4
       have HB4 := Lib.hid (HB2.out.trans (hb4.mono HB2.out.size))
       clear her4 hb4
       cases hee4 : (er4 == 0))
    | fail)
  all_goals go_ret
  · exact ⟨⟨false, rfl, fun h => by cases h⟩, HB0.out.trans (HB2.out.mono HB0.out.size)⟩
  · exact ⟨⟨false, rfl, fun h => by cases h⟩, HB0.out.trans (HB4.out.mono HB0.out.size)⟩
  · exact ⟨⟨false, rfl, fun h => by cases h⟩, HB0.out.trans ((HB4.out.alloc HB4.out.size _).mono HB0.out.size)⟩
  · have hbo : NotBig vs p v.length := HBO.out (by first | rfl | trivial)
    exact ⟨⟨true, rfl, fun _ => HR.out hbo (HER.out (by simpa using hee)) (HER4.out (by simpa using hee4)) (HER5.out (by simpa using hee5))⟩, HB0.out.trans ((HB4.out.alloc HB4.out.size _).mono HB0.out.size)⟩
  · exact ⟨⟨false, rfl, fun h => by cases h⟩, HB0.out.trans (HB2.out.mono HB0.out.size)⟩
end Go.Proofs.YtladmconpolneaaGreat

/- standing: an index of items, built, whoever builds. -/
set_option linter.unusedVariables false
set_option linter.unusedSimpArgs false
namespace Go.Proofs.YtladmconpolneaaGreat
open Go.RowKit
def StandPost (w : World) (d n leaf depth trees : Nat) (F : List Int) (e : Ending) (w' : World) : Prop :=
  ∃ x b TA tc ts, e = .returned (.pointer (some ⟨x, 0, none⟩)) ∧ BxAt w' w.heap.size x b d n leaf depth F TA tc ts ∧ ts.length = trees ∧ Below w.heap.size w w'
theorem IxAt.low {w : World} {B B' x b dim n : Nat} {F : List Int} (h : IxAt w B x b dim n F) (hb : B' ≤ B) : IxAt w B' x b dim n F := by
  obtain ⟨A, c, q1, q2⟩ := h.items.box
  exact ⟨h.box, Nat.le_trans hb h.base, h.items.hdim, h.items.hn, h.items.len, h.items.bd, Nat.le_trans hb h.items.base, A, c, q1, own_low q2 hb⟩
set_option maxRecDepth 100000 in
set_option maxHeartbeats 1600000 in
theorem standing_any (d : Nat) (hd : 1 ≤ d ∧ d ≤ 1024) (vs : List (List Int)) (A : Option Addr) (ca : Nat) (p : Par) (L : Option Addr) (c leaf depth trees : Nat) (U : Int) (V : Value) (w : World) (h : ListsAt w A vs) (hok : okL d vs) (hn : vs.length ≤ 1000)
    (hbd : ∀ W x b, Below w.heap.size w W → IxAt W w.heap.size x b d vs.length vs.flatten → Calls Tryz.prog 66 #[.pointer (some ⟨x, 0, none⟩), .agg (parV p L c), .int .i64 U, V] W (BuildPost W b leaf depth d vs.length trees vs.flatten)) :
    Calls Tryz.prog 11 #[.int .i64 (d : Int), .slice A vs.length ca, .agg (parV p L c), .int .i64 U, V] w (StandPost w d vs.length leaf depth trees vs.flatten) := by
  have HB0 : Hid (Below w.heap.size w (w.alloc (.cells (parV p L c) 28))) := (Below.refl _ _).alloc (Nat.le_refl _) _
  have HNEW : Hid (∀ W, Calls Tryz.prog 29 #[.int .i64 (d : Int)] W fun e w' => ∃ x b, e = .returned (.tuple #[.pointer (some ⟨x, 0, none⟩), .int .i64 0]) ∧ IxAt w' W.heap.size x b d 0 [] ∧ Below W.heap.size W w') := fun W => inew_any d W hd
  have HL := Lib.hid h.old
  have HOK := Lib.hid hok
  have HSZ : Hid ((w.alloc (.cells (parV p L c) 28)).heap.size = w.heap.size + 1) := by show _ = _; simp
  have HG0 := Lib.hid (heap_alloc_new w (.cells (parV p L c) 28))
  have HBUI : Hid (∀ W x b, Below w.heap.size w W → IxAt W w.heap.size x b d vs.length vs.flatten → Calls Tryz.prog 31 #[.pointer (some ⟨x, 0, none⟩), .agg (parV p L c), .int .i64 U, V] W (BuiltPost W w.heap.size x b d vs.length leaf depth trees vs.flatten)) := fun W x b hb hx =>
    ibuild_any W w.heap.size x b d vs.length leaf depth trees vs.flatten hx hb.size p L c _ _ (fun W' hb' => hbd W' x b (hb.trans (hb'.mono hb.size)) (hx.below hb'))
  have HPS : Hid (∀ W, Below (w.heap.size + 1) (w.alloc (.cells (parV p L c) 28)) W → PSt w.heap.size p L c W) := fun W hb => PSt.of ((hb.block _ (by omega)).trans HG0.out)
  rw [par_cell] at *
  clear h hok hbd hd
  go_enter Tryz.func11, Tryz.ntmps11
  go_wp2_with (first
    | (go_at_call 29; refine (HNEW.out _).mono ?_; rintro e w1 ⟨x, b, rfl, hx, hb⟩
       have HX1 := Lib.hid hx
       have HB1 := Lib.hid hb
       clear hx hb)
    | fail)
  have HX1' : Hid (IxAt w1 (w.heap.size + 1) x b d 0 []) := by have := HX1.out; rw [HSZ.out] at this; exact this
  have HB1' : Hid (Below (w.heap.size + 1) (w.alloc (.cells #[.int .i64 p.trees, .int .i64 p.leaf, .int .i64 p.depth, .bool p.scripted, .int .u64 p.seed, .slice L p.list.length c] 28)) w1) := by have := HB1.out; rw [HSZ.out] at this; exact this
  clear HX1 HB1
  go_loopg [13] vs.length (fun gk i wr => ∃ k : Nat, gk = vs.length - k ∧ k ≤ vs.length ∧ i = .int .i64 (k : Int) ∧ Hid (IxAt wr (w.heap.size + 1) x b d k (flat vs k)) ∧ Hid (Below (w.heap.size + 1) (w.alloc (.cells #[.int .i64 p.trees, .int .i64 p.leaf, .int .i64 p.depth, .bool p.scripted, .int .u64 p.seed, .slice L p.list.length c] 28)) wr))
  case atStart => exact ⟨0, rfl, Nat.zero_le _, rfl, HX1', HB1'⟩
  case round =>
    obtain ⟨k, rfl, hk, rfl, HX, HB⟩ := hrel
    have HBW : Hid (Below w.heap.size w wr) := HB0.out.trans (HB.out.mono (by omega))
    by_cases hlt : k < vs.length
    · obtain ⟨ad, C, c2, rfl, hlta, hc, hr, hl⟩ := (HL.out.below HBW.out) k hlt
      have hlt' : (k : Int) < (vs.length : Int) := by omega
      have HADD := Lib.hid (iadd_ok wr HX.out C c2 hr (HOK.out _ (List.getElem_mem hlt)) (by omega))
      have HFS := Lib.hid (flat_succ vs k hlt)
      clear hr hl
      generalize vs[k] = v at *
      go_wp2_with (first
        | (go_at_call 30; refine HADD.out.mono ?_; rintro e w2 ⟨⟨i2, er2, rfl⟩, hx, hb⟩; have HX2 := Lib.hid hx; have HB2 := Lib.hid hb; clear hx hb)
        | fail)
      go_roundg (vs.length - (k + 1))
      case measure => omega
      case rel => exact ⟨k + 1, rfl, hlt, by go_num, (by show IxAt _ _ _ _ _ _ _; rw [HFS.out]; exact HX2.out), HB.out.trans HB2.out⟩
    · obtain rfl : k = vs.length := by omega
      have HXF : Hid (IxAt wr w.heap.size x b d vs.length vs.flatten) := by
        have := HX.out
        unfold flat at this
        rw [List.take_length] at this
        exact this.low (by omega)
      obtain ⟨d0, d1, d2, d3, d4, d5⟩ := HPS.out wr HB.out
      go_wp2_with (first
        | (go_at_call 31; refine (HBUI.out wr x b HBW.out HXF.out).mono ?_; rintro e w4 ⟨TA, tc, ts, rfl, hx, hl, hb⟩
           have HX4 := Lib.hid (And.intro hx hl); have HB4 := Lib.hid (HBW.out.trans hb); clear hx hb hl)
        | fail)
      go_ret
      exact ⟨x, b, TA, tc, ts, rfl, HX4.out.1, HX4.out.2, HB4.out⟩
end Go.Proofs.YtladmconpolneaaGreat

/- What a query answers: in order, of what is met; who searches more finds nothing worse. Plain Lean. And what stands. -/
set_option linter.unusedVariables false
set_option linter.unusedSimpArgs false
namespace Go.Proofs.YtladmconpolneaaGreat
open Go.RowKit
theorem res_two (F v : List Int) (dim : Nat) (l : List Nat) : ∀ r ∈ l.map (resE F v dim), ∃ i f, r = [i, f] := by
  intro r hr
  obtain ⟨id, _, rfl⟩ := List.mem_map.1 hr
  exact ⟨_, _, rfl⟩
theorem res_nodup (F v : List Int) (dim : Nat) {l : List Nat} (h : l.Nodup) : ((l.map (resE F v dim)).map (fun r => r.getD 0 0)).Nodup := by
  rw [List.map_map]
  unfold List.Nodup
  rw [List.pairwise_map]
  refine h.imp ?_
  intro a b hab e
  have e' : (a : Int) = (b : Int) := e
  exact hab (by omega)
theorem sorted_nodup {l : List Nat} (h : l.Pairwise (· < ·)) : l.Nodup := h.imp fun {a b} hab e => by omega
/-- All that is known of an answer. -/
structure Ans (F v : List Int) (dim n k limit : Nat) (l : List El) : Prop where
  len : l.length ≤ k ∧ min (min k limit) n ≤ l.length
  mem : ∀ r ∈ l, ∃ id : Nat, id < n ∧ r = resE F v dim id
  sorted : l.Pairwise (fun a b => nearE a b = true)
theorem ans_of {ts : List (List Node)} {F v : List Int} {n dim depth : Nat} (k limit : Nat) (hok : FOk ts n dim depth) (htr : ∀ t ∈ ts, ∃ bt : BT, t = bt.nodes 0 ∧ ∀ i, i < n → i ∈ bt.ids) : Ans F v dim n k limit (ansQ F dim n ts v k limit) := by
  have hm := met_of v limit hok htr
  have hf := out_first k ((metQ n ts v limit).map (resE F v dim)) (res_two F v dim _) (res_nodup F v dim (sorted_nodup hm.sorted))
  refine ⟨?_, fun r hr => ?_, hf.sorted⟩
  · have h1 := hf.len
    rw [List.length_map] at h1
    have h2 := hm.min.1
    show (outL _).length ≤ k ∧ _ ≤ (outL _).length
    rw [h1]
    have : (metQ n ts v limit).length = (metTo (grun ts v limit (nodesN ts + 1) (gs0 ts.length)).X n).length := rfl
    omega
  · obtain ⟨q, hq, _⟩ := hf.rest
    have := hq.mem_iff.1 (List.mem_append_left _ hr)
    obtain ⟨id, hid, rfl⟩ := List.mem_map.1 this
    exact ⟨id, hm.lt id hid, rfl⟩
theorem ans_more {ts : List (List Node)} {F v : List Int} {n dim depth : Nat} (k limit limit' : Nat) (hl : limit ≤ limit') (hok : FOk ts n dim depth) (htr : ∀ t ∈ ts, ∃ bt : BT, t = bt.nodes 0 ∧ ∀ i, i < n → i ∈ bt.ids) :
    (ansQ F dim n ts v k limit).length ≤ (ansQ F dim n ts v k limit').length ∧ ∀ j (h1 : j < (ansQ F dim n ts v k limit).length) (h2 : j < (ansQ F dim n ts v k limit').length), nearE (ansQ F dim n ts v k limit)[j] (ansQ F dim n ts v k limit')[j] = false := by
  have hm := met_of v limit hok htr
  have hm' := met_of v limit' hok htr
  have hf := out_first k ((metQ n ts v limit).map (resE F v dim)) (res_two F v dim _) (res_nodup F v dim (sorted_nodup hm.sorted))
  have hf' := out_first k ((metQ n ts v limit').map (resE F v dim)) (res_two F v dim _) (res_nodup F v dim (sorted_nodup hm'.sorted))
  have hs := met_more n v hl (ts := ts)
  refine hf.more hf' (fun x hx => ?_) ?_
  · obtain ⟨id, hid, rfl⟩ := List.mem_map.1 hx
    exact List.mem_map.2 ⟨id, hs hid, rfl⟩
  · rw [List.length_map, List.length_map]
    exact nodup_subN _ _ (sorted_nodup hm.sorted) hs
theorem nearE_of {a b : El} (h : nearE a b = false) : ¬ a.getD 1 0 < b.getD 1 0 ∧ (a.getD 1 0 = b.getD 1 0 → ¬ a.getD 0 0 < b.getD 0 0) := by
  unfold nearE nearB at h
  rw [decide_eq_false_iff_not] at h
  omega
theorem nearE_to {a b : El} (h : nearE a b = true) : a.getD 1 0 < b.getD 1 0 ∨ (a.getD 1 0 = b.getD 1 0 ∧ a.getD 0 0 < b.getD 0 0) := by
  unfold nearE nearB at h
  rwa [decide_eq_true_eq] at h
theorem RowAt.two {w : World} {B g c : Nat} {l : List El} (h : RowAt w B 54 2 (.slice (some ⟨g, 0, none⟩) l.length c) l) (k : Nat) (hk : k < l.length) : w.cell? ⟨g, k * 2, none⟩ = some (.int .i64 ((l[k]).getD 0 0)) ∧ w.cell? ⟨g, k * 2 + 1, none⟩ = some (.int .i64 ((l[k]).getD 1 0)) := by
  obtain ⟨h1, _, h3⟩ := h.cell k hk
  have e0 : (i64V l[k])[0]? = some (.int .i64 ((l[k]).getD 0 0)) := by simp [i64V, h3]
  have e1 : (i64V l[k])[1]? = some (.int .i64 ((l[k]).getD 1 0)) := by simp [i64V, h3]
  exact ⟨h1 0 _ e0, h1 1 _ e1⟩
/-- What stands, and may be asked. -/
def StandR (w : World) (d n leaf depth : Nat) (F : List Int) (e : Ending) (w' : World) : Prop :=
  ∃ x b TA tc ts, e = .returned (.pointer (some ⟨x, 0, none⟩)) ∧ Ready w' w.heap.size x b d n leaf depth F TA tc ts ∧ Below w.heap.size w w'
/-- What a law is told of its params. -/
structure ParAt (w : World) (p : Par) (L : Option Addr) : Prop where
  rt : Reads w L p.list.length (u64V p.list)
  u64 : ∀ x ∈ p.list, U64 x
theorem ParAt.below {w W : World} {p : Par} {L : Option Addr} (h : ParAt w p L) (hb : Below w.heap.size w W) : ParAt W p L := ⟨h.rt.below hb, h.u64⟩
/-- The numbers of what may be built. -/
structure Nums (p : Par) (leaf depth trees : Nat) : Prop where
  el : p.leaf = (leaf : Int)
  ed : p.depth = (depth : Int)
  et : p.trees = (trees : Int)
  lf : 1 ≤ leaf ∧ leaf ≤ 1024
  dp : depth ≤ 64
  tr : 1 ≤ trees ∧ trees ≤ 256
theorem nums_of {p : Par} (h : growE p = 0) : ∃ leaf depth trees, Nums p leaf depth trees := by
  unfold growE at h
  split at h
  · cases h
  · split at h
    · cases h
    · rename_i h1 h2
      exact ⟨p.leaf.toNat, p.depth.toNat, p.trees.toNat, by omega, by omega, by omega, by omega, by omega, by omega⟩
theorem stand0 {dim : Int} {vs : List (List Int)} {p : Par} {v : List Int} (R : Right dim vs p v) (A : Option Addr) (ca : Nat) (L : Option Addr) (c : Nat) (w : World) (h : ListsAt w A vs) (hp : ParAt w p L) :
    ∃ d leaf depth trees : Nat, dim = (d : Int) ∧ (1 ≤ d ∧ d ≤ 1024) ∧ Nums p leaf depth trees ∧ trees ≤ 6 ∧ (1 ≤ vs.length ∧ vs.length ≤ 40) ∧ vecE v d = 0 ∧ okL d vs ∧
      ∀ W, Below w.heap.size w W → Calls Tryz.prog 11 #[.int .i64 dim, .slice A vs.length ca, .agg (parV p L c), .int .i64 0, .slice none 0 0] W (StandR W d vs.length leaf depth vs.flatten) := by
  obtain ⟨leaf, depth, trees, N⟩ := nums_of R.grow
  have hdim := R.hdim
  have hfew := R.few
  have e : ((dim.toNat : Nat) : Int) = dim := by omega
  have ht6 : trees ≤ 6 := by have := hfew.trees; have := N.et; have := N.tr; omega
  have hv := R.vec
  have hn : 1 ≤ vs.length ∧ vs.length ≤ 40 := ⟨Nat.pos_of_ne_zero R.some, hfew.cnt⟩
  refine ⟨dim.toNat, leaf, depth, trees, e.symm, by omega, N, ht6, hn, by rw [e]; exact hv, R.ok, fun W hb => ?_⟩
  have := standing_any dim.toNat (by omega) vs A ca p L c leaf depth trees 0 (.slice none 0 0) W (h.below hb) R.ok (by omega) (fun W' x b hb' hx =>
    ibuild0_any W' W.heap.size x b dim.toNat vs.length leaf depth trees vs.flatten hx p N.el N.ed N.et L c ((hp.below (hb.trans (hb'.mono hb.size))).rt) (by have := hfew.list; omega) hp.u64 R.grow ⟨hn.1, by omega⟩ N.lf.1 N.tr.2 _)
  rw [e] at this
  refine this.mono ?_
  rintro e w' ⟨x, b, TA, tc, ts, rfl, hx, hl, hb'⟩
  exact ⟨x, b, TA, tc, ts, rfl, ready_of hx (by rw [hl]; exact ⟨N.tr.1, ht6⟩) hn N.lf N.dp, hb'⟩
end Go.Proofs.YtladmconpolneaaGreat

/- From a contract of a call that starts nobody to the row that lets others leave and time pass; what the laws' arguments are. -/
set_option linter.unusedVariables false
set_option linter.unusedSimpArgs false
namespace Go.Proofs.YtladmconpolneaaGreat
open Go.ChangeShapes Go.WideShapes Go.ChangeAt Go.RowKit Go.Conc Go.ConcM
theorem good_of_calls {P : Program} {f : FuncId} {args : Array Value} {W : World} {Post : Value → World → Prop} (noInit : P.inits.idxOf? f = none)
    (h : Calls P f args W fun e w' => ∃ v, e = .returned v ∧ Post v w') :
    ∃ M last o w' t', runNT P (M + 1) (solo (G (Frame.enter P f args .normal) []) W) #[] = (.ended o w', t') ∧ runN P M (solo (G (Frame.enter P f args .normal) []) W) = .next last ∧
      step P last = .ended o w' ∧ Conc.Good P Post last o w' t' := by
  have h' : Calls P f args W fun | .returned v, w' => Post v w' | _, _ => False := h.mono fun e w' ⟨v, he, hp⟩ => by subst he; exact hp
  obtain ⟨n, v, w', fr, hn, hend, hp⟩ := h'.done_lone noInit
  have hn' : runN P n (solo (G (Frame.enter P f args .normal) []) W) = .next (lone fr [] w') := hn
  have hend' : runN P (n + 1) (solo (G (Frame.enter P f args .normal) []) W) = .ended (.done v) w' := hend
  have hfst : (runNT P (n + 1) (solo (G (Frame.enter P f args .normal) []) W) #[]).1 = .ended (.done v) w' := by rw [runNT_fst]; exact hend'
  have ha := alone_of_lone (w' := w') hn'
  refine ⟨n, lone fr [] w', .done v, w', (runNT P (n + 1) (solo (G (Frame.enter P f args .normal) []) W) #[]).2, Prod.ext hfst rfl, hn', step_of_runs hn' hend', v, rfl, hp, fun said => ?_, ha.2.1, onlyLeaving_of_quiet ha.1, ha.2.2⟩
  exact (no_race_of_lone (said := said) P n _ _ hn' (by simp [lone]) rfl).2
/-! ### what comes in -/
section
variable {H : Type} {enc : TypeId × Value → H} {P : Program} {W : World}
/-- What is read takes no more than may be. -/
def Fits (P : Program) (t : TypeId) (d : DataW H) : Prop := ∀ n ∈ d.weights P t, n ≤ reachBytes
theorem fits_of {ts : List TypeId} {ds : List (DataW H)} (h : (DataW.weightsEach P ts ds).all (· ≤ reachBytes) = true) {j : Nat} {t : TypeId} {d : DataW H} (ht : ts[j]? = some t) (hd : ds[j]? = some d) : Fits P t d := fun n hn => by
  have := List.all_eq_true.1 h n (DataW.weights_mem_each ht hd n hn)
  simpa using this
theorem fits_slice {t e : TypeId} {elems spare : List (DataW H)} (hu : P.underlying t = some (.slice e)) (h : Fits P t (.slice elems spare)) : (elems.length + spare.length) * P.bytesOf e ≤ reachBytes ∧ ∀ d ∈ elems, Fits P e d := by
  have hw : ∀ n, n = (elems.length + spare.length) * P.bytesOf e ∨ n ∈ DataW.weightsAll P e elems → n ≤ reachBytes := fun n hn => by
    refine h n ?_
    rw [DataW.weights, hu]
    rcases hn with hn | hn
    · exact List.mem_cons.2 (.inl hn)
    · exact List.mem_cons_of_mem _ (List.mem_append_left _ hn)
  refine ⟨hw _ (.inl rfl), ?_⟩
  have key : ∀ (l : List (DataW H)), (∀ n ∈ DataW.weightsAll P e l, n ≤ reachBytes) → ∀ d ∈ l, Fits P e d := by
    intro l
    induction l with
    | nil => intro _ d hd; cases hd
    | cons x l ih =>
      intro hl d hd n hn
      rw [DataW.weightsAll] at hl
      rw [List.mem_cons] at hd
      rcases hd with rfl | hd
      · exact hl n (List.mem_append_left _ hn)
      · exact ih (fun n hn => hl n (List.mem_append_right _ hn)) d hd n hn
  exact key elems fun n hn => hw n (.inr hn)
theorem reads_map {k : IntKind} {a : Addr} {len cap : Nat} {zs : List Int} (hl : len ≤ cap) (hm : cap ≤ maxLen) (hz : zs.length = cap) (hc : ∀ i, i < cap → W.cell? (a.add i) = some (.int k (zs.getD i 0))) :
    Reads W (some a) len ((zs.take len).map fun z => .int k z) := by
  simp only [maxLen] at hm
  refine ⟨by simp; omega, by omega, fun j hj => ⟨a, rfl, ?_⟩⟩
  rw [hc j (by omega)]
  simp [hj, show j < zs.length by omega]
/-- A slice of whole numbers. -/
theorem arg_ints {t e : TypeId} {k : IntKind} {v : Value} {d : DataW H} {ps : List MemPlace} {base : Nat} (ht : P.underlying t = some (.slice e)) (he : P.underlying e = some (.int k)) (hc : P.cellsOf e = 1) (hby : 1 ≤ P.bytesOf e)
    (hv : Value.okWide P W .any base t v) (h : DataW.Trod enc P W 0 (fun _ => true) true t v d ps) (hf : Fits P t d) :
    ∃ a c, ∃ zs : List Int, v = .slice a zs.length c ∧ Reads W a zs.length (zs.map fun z => .int k z) ∧ (∀ n ∈ zs, (Lit.int k n).wf = true) ∧ zs.length ≤ reachBytes := by
  obtain ⟨a, len, cap, rfl⟩ := okWide_slice ht hv
  obtain ⟨fuel, h⟩ := h
  rcases open_ints ht he hc h with ⟨hcs, hx⟩ | ⟨x, l, c, zs, hcs, _, hl, hm, hz, hx, hcell, hw⟩
  · simp [Value.cells] at hcs
    obtain ⟨rfl, rfl, rfl⟩ := hcs
    exact ⟨none, 0, [], rfl, reads_nil W, by simp, by simp [reachBytes]⟩
  · simp [Value.cells] at hcs
    obtain ⟨rfl, rfl, rfl⟩ := hcs
    simp only [if_true] at hz
    have hlen : (zs.take len).length = len := by simp; omega
    refine ⟨some x, cap, zs.take len, by rw [hlen], by rw [hlen]; exact reads_map hl hm hz fun i hi => hcell i (by omega), fun n hn => hw n (List.mem_of_mem_take hn), ?_⟩
    obtain rfl : d = _ := congrArg (·.1) hx
    have := (fits_slice ht hf).1
    simp [lits] at this
    rw [hlen]
    have h2 : len * 1 ≤ len * P.bytesOf e := Nat.mul_le_mul_left _ hby
    have h3 : min len zs.length = len := by omega
    rw [h3] at this
    have h4 : len * P.bytesOf e ≤ (len + (zs.length - len)) * P.bytesOf e := Nat.mul_le_mul_right _ (by omega)
    omega
/-- A slice of slices of whole numbers. -/
theorem arg_rows {t e q : TypeId} {v : Value} {d : DataW H} {ps : List MemPlace} {base : Nat} (ht : P.underlying t = some (.slice e)) (he : P.underlying e = some (.slice q)) (hq : P.underlying q = some (.int .i32)) (ce : P.cellsOf e = 1) (cq : P.cellsOf q = 1) (be : 1 ≤ P.bytesOf e) (bq : 1 ≤ P.bytesOf q)
    (hv : Value.okWide P W .any base t v) (h : DataW.Trod enc P W 0 (fun _ => true) true t v d ps) (hf : Fits P t d) :
    ∃ A c vs, v = .slice A vs.length c ∧ ListsAt W A vs ∧ Small vs ∧ vs.length ≤ 281474976710656 := by
  obtain ⟨a, len, cap, rfl⟩ := okWide_slice ht hv
  obtain ⟨fuel, h⟩ := h
  rcases Deep.open_int_rows ht he hq ce cq h with ⟨hcs, hx⟩ | ⟨x, l, c, A, L, C, Z, hcs, _, hl, hm, hx, hr⟩
  · simp [Value.cells] at hcs
    obtain ⟨rfl, rfl, rfl⟩ := hcs
    exact ⟨none, 0, [], rfl, fun i hi => by simp at hi, fun v hv => (by cases hv), by simp⟩
  · simp [Value.cells] at hcs
    obtain ⟨rfl, rfl, rfl⟩ := hcs
    obtain rfl : d = _ := congrArg (·.1) hx
    obtain ⟨w1, w2⟩ := fits_slice ht hf
    have hlen : ((List.range len).map fun r => (Z r).take (L r)).length = len := by simp
    have hone : ∀ i, i < len → ((Z i).take (L i)).length = L i := fun i hi => by
      obtain ⟨_, h1, _, h3, _⟩ := hr i (by omega)
      simp; omega
    refine ⟨some x, cap, (List.range len).map fun r => (Z r).take (L r), by rw [hlen], fun i hi => ?_, fun v hv => ?_, ?_⟩
    · rw [hlen] at hi
      obtain ⟨h0, h1, h2, h3, h4, h5, h6⟩ := hr i (by omega)
      have e1 : ((List.range len).map fun r => (Z r).take (L r))[i]'(by rw [hlen]; exact hi) = (Z i).take (L i) := by simp
      rw [e1, hone i hi]
      refine ⟨x, A i, C i, rfl, h0, ?_⟩
      cases hA : A i with
      | none =>
        have hc0 := h5 hA
        have hl0 : L i = 0 := by omega
        rw [hl0]
        exact reads_nil W
      | some b => exact reads_map h1 h2 h3 (h6 b hA).2
    · obtain ⟨r, hr', rfl⟩ := List.mem_map.1 hv
      have hrl : r < len := by simpa using hr'
      rw [hone r hrl]
      obtain ⟨h0, h1, h2, h3, h4, h5, h6⟩ := hr r (by omega)
      have hfd := w2 _ (List.mem_map.2 ⟨r, hr', rfl⟩)
      cases hA : A r with
      | none => have := h5 hA; omega
      | some b =>
        rw [hA] at hfd
        have := (fits_slice he hfd).1
        simp [lits] at this
        have e2 : min (L r) (Z r).length = L r := by omega
        rw [e2] at this
        have h7 : L r * 1 ≤ L r * P.bytesOf q := Nat.mul_le_mul_left _ bq
        have h8 : L r * P.bytesOf q ≤ (L r + ((Z r).length - L r)) * P.bytesOf q := Nat.mul_le_mul_right _ (by omega)
        simp only [reachBytes] at this
        omega
    · rw [hlen]
      simp at w1
      have h7 : len * 1 ≤ len * P.bytesOf e := Nat.mul_le_mul_left _ be
      have h8 : len * P.bytesOf e ≤ (len + (cap - len)) * P.bytesOf e := Nat.mul_le_mul_right _ (by omega)
      simp only [reachBytes] at w1
      omega
end
theorem Tryz.cells3 : Tryz.prog.cellsOf 3 = 1 := by kernel_rfl
theorem Tryz.cells4 : Tryz.prog.cellsOf 4 = 1 := by kernel_rfl
theorem Tryz.cells23 : Tryz.prog.cellsOf 23 = 1 := by kernel_rfl
theorem Tryz.cells24 : Tryz.prog.cellsOf 24 = 1 := by kernel_rfl
theorem Tryz.cells26 : Tryz.prog.cellsOf 26 = 3 := by kernel_rfl
theorem Tryz.cells28 : Tryz.prog.cellsOf 28 = 6 := by kernel_rfl
theorem Tryz.cells21 : Tryz.prog.cellsOf 21 = 1 := by kernel_rfl
theorem Tryz.cells30 : Tryz.prog.cellsOf 30 = 1 := by kernel_rfl
theorem wf_u64 {x : Int} (h : (Lit.int .u64 x).wf = true) : U64 x := by
  simp [Lit.wf, IntKind.min, IntKind.max, IntKind.signed, IntKind.bits] at h
  exact ⟨by omega, by omega⟩
theorem array6 {α : Type} {cs : Array α} (h : cs.size = 6) : ∃ c0 c1 c2 c3 c4 c5, cs = #[c0, c1, c2, c3, c4, c5] := by
  obtain ⟨l⟩ := cs
  match l, h with
  | [c0, c1, c2, c3, c4, c5], _ => exact ⟨c0, c1, c2, c3, c4, c5, rfl⟩
theorem trod_list {H : Type} {enc : TypeId × Value → H} {W : World} {n : Nat} {u : Value} {y : DataW H × List MemPlace} (h : DataW.trod enc Tryz.prog W 0 (fun _ => true) true n 24 [u] = some y) :
    ∃ A c, ∃ zs : List Int, u = .slice A zs.length c ∧ Reads W A zs.length (zs.map fun z => .int .u64 z) ∧ ∀ n ∈ zs, (Lit.int .u64 n).wf = true := by
  rcases open_ints Tryz.underlying24 Tryz.underlying23 Tryz.cells23 h with ⟨hcs, hx⟩ | ⟨x, l, c, zs, hcs, _, hl, hm, hz, hx, hcell, hw⟩
  · simp at hcs
    exact ⟨none, 0, [], hcs, reads_nil W, by simp⟩
  · simp at hcs
    simp only [if_true] at hz
    have hlen : (zs.take l).length = l := by simp; omega
    exact ⟨some x, c, zs.take l, by rw [hlen]; exact hcs, by rw [hlen]; exact reads_map hl hm hz fun i hi => hcell i (by omega), fun n hn => hw n (List.mem_of_mem_take hn)⟩
set_option maxRecDepth 100000 in
/-- Params. -/
theorem arg_par {H : Type} {enc : TypeId × Value → H} {W : World} {v : Value} {d : DataW H} {ps : List MemPlace} {base : Nat} (hv : Value.okWide Tryz.prog W .any base 28 v) (h : DataW.Trod enc Tryz.prog W 0 (fun _ => true) true 28 v d ps) :
    ∃ p L c, v = .agg (parV p L c) ∧ ParAt W p L := by
  obtain ⟨cs, rfl, hsz⟩ := okWide_struct Tryz.underlying28 hv
  rw [Tryz.cells28] at hsz
  obtain ⟨c0, c1, c2, c3, c4, c5, rfl⟩ := array6 hsz
  obtain ⟨fuel, hf⟩ := h
  obtain ⟨y0, y1, y2, y3, n, hx, _, h0, h1, h2, h3⟩ := Go.Joins.trod_struct4 Tryz.underlying28 hf
  have g0 : DataW.trod enc Tryz.prog W 0 (fun _ => true) true n 3 [c0] = some y0 := by simpa [Value.cells, Tryz.cells3] using h0
  have g1 : DataW.trod enc Tryz.prog W 0 (fun _ => true) true n 3 [c1] = some y1 := by simpa [Value.cells, Tryz.cells3] using h1
  have g2 : DataW.trod enc Tryz.prog W 0 (fun _ => true) true n 3 [c2] = some y2 := by simpa [Value.cells, Tryz.cells3] using h2
  have g3 : DataW.trod enc Tryz.prog W 0 (fun _ => true) true n 26 [c3, c4, c5] = some y3 := by simpa [Value.cells, Tryz.cells26] using h3
  clear h0 h1 h2 h3
  obtain ⟨z0, z1, z2, m, _, _, h0, h1, h2⟩ := Deep.trod_struct3 Tryz.underlying26 g3
  have k0 : DataW.trod enc Tryz.prog W 0 (fun _ => true) true m 4 [c3] = some z0 := by simpa [Value.cells, Tryz.cells4] using h0
  have k1 : DataW.trod enc Tryz.prog W 0 (fun _ => true) true m 23 [c4] = some z1 := by simpa [Value.cells, Tryz.cells23] using h1
  have k2 : DataW.trod enc Tryz.prog W 0 (fun _ => true) true m 24 [c5] = some z2 := by simpa [Value.cells, Tryz.cells24] using h2
  obtain ⟨t, e0, _, _⟩ := DataW.trod_int Tryz.underlying3 g0
  obtain ⟨l, e1, _, _⟩ := DataW.trod_int Tryz.underlying3 g1
  obtain ⟨dp, e2, _, _⟩ := DataW.trod_int Tryz.underlying3 g2
  obtain ⟨sc, e3, _⟩ := DataW.trod_bool Tryz.underlying4 k0
  obtain ⟨sd, e4, _, _⟩ := DataW.trod_int Tryz.underlying23 k1
  obtain ⟨A, c, zs, e5, hr, hw⟩ := trod_list k2
  simp only [List.cons.injEq, and_true] at e0 e1 e2 e3 e4
  subst e0 e1 e2 e3 e4 e5
  exact ⟨⟨t, l, dp, sc, sd, zs⟩, A, c, rfl, hr, fun x hx => wf_u64 (hw x hx)⟩
end Go.Proofs.YtladmconpolneaaGreat

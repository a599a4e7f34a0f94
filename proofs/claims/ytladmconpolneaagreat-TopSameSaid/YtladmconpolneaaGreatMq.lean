/- Several texts of this seat, laid together (no statement of its own): their conditions stand in each theorem. -/
import Derived.Test.YtladmconpolneaaGreatMh
import Derived.Test.YtladmconpolneaaGreatMm
/- The search: one step. -/
set_option linter.unusedVariables false
set_option linter.unusedSimpArgs false
namespace Go.Proofs.YtladmconpolneaaGreat
open Go.RowKit
theorem WalkAt.move {w W : World} {B b h : Nat} {I lf dp TV vV v : Value} {s n : Int} {l : List El} (x : WalkAt w B b h I lf dp TV vV s n v l) (hb : Below w.heap.size w W) : WalkAt W B b h I lf dp TV vV s n v l :=
  ⟨by rw [hb.block _ (lt_of_block x.box)]; exact x.box, x.base, x.heap.below hb⟩
theorem WalkAt.heapTo {w W : World} {B b h : Nat} {I lf dp TV vV v v' : Value} {s n : Int} {l l' : List El} (x : WalkAt w B b h I lf dp TV vV s n v l) (hk : KeepT [205, 253] w W) (hh : HeapAt W B h FN v' l') : WalkAt W B b h I lf dp TV vV s n v' l' :=
  ⟨hk.2 _ _ _ _ x.box (by decide), x.base, hh⟩
theorem WalkAt.steps {w : World} {B b h : Nat} {I lf dp TV vV v : Value} {s n : Int} {l : List El} (x : WalkAt w B b h I lf dp TV vV s n v l) (s' : Int) : WalkAt (w.setCell ⟨b, 6, none⟩ (.int .i64 s')) B b h I lf dp TV vV s' n v l :=
  ⟨heap_setCell_same w b 6 _ _ _ x.box, x.base, x.heap.move (Below.heap_setCell _ _ _ _ (fun e => x.ne e.symm)) (fun k hk => Below.heap_setCell _ _ _ _ (fun e => x.nrow (by have e' : k = b := e; rw [← e']; exact hk)))⟩
def StepNone (w : World) (B b h : Nat) (I lf dp TV vV : Value) (s n : Int) (v : Value) (e : Ending) (w' : World) : Prop :=
  e = .returned (.tuple #[.slice none 0 0, .bool false, .bool false]) ∧ WalkPost w B b h I lf dp TV vV s n v [] w'
theorem step_none (B b h : Nat) (I lf dp TV vV : Value) (s n : Int) (v : Value) (w : World) (hw : WalkAt w B b h I lf dp TV vV s n v []) (hB : B ≤ w.heap.size) :
    Calls Tryz.prog 77 #[.pointer (some ⟨b, 0, none⟩)] w (StepNone w B b h I lf dp TV vV s n v) := by
  have HW := Lib.hid hw
  have HI := Lib.hid Tryz.size205
  have HB := Lib.hid hB
  have c5 : w.cell? ⟨b, 5, none⟩ = some (.pointer (some ⟨h, 0, none⟩)) := cell_of_row _ _ _ _ _ _ hw.box
  have HP := Lib.hid (hpop_any B h v [] ltT w hw.heap (first_ok w) hB (by simp))
  clear hw hB
  go_enter Tryz.func77, Tryz.ntmps77
  go_wp2_with (first
    | (go_at_call 115; refine HP.out.mono ?_; rintro e w2 ⟨-, hp⟩; obtain ⟨rfl, v2, hh2, hb2, hk2, hs2⟩ := hp rfl; have H2 := Lib.hid hh2; have HB2 := Lib.hid hb2; have HK2 := Lib.hid hk2; have HS2 := Lib.hid hs2; clear hp hh2 hb2 hk2 hs2)
    | (refine wpList_store_row rfl 205 (.tmp 5) (.tmp 15) rfl w2.heap.size rfl 205 zero4 zero4 rfl (heap_alloc_new _ _) HI.out rfl (by simp [Value.oneCell']) ?_; have HB3 : Hid (Below w2.heap.size w2 ((w2.alloc (.cells zero4 205)).setRow w2.heap.size zero4)) := bel_setRow ((Below.refl _ _).alloc (Nat.le_refl _) _) (Nat.le_refl _); generalize (w2.alloc (.cells zero4 205)).setRow w2.heap.size zero4 = W1 at *)
    | fail)
  refine bodyPost_ret (results_tmp3 rfl _ _ _) rfl ?_
  exact ⟨rfl, v2, (HW.out.heapTo HK2.out H2.out).move HB3.out, HB2.out.trans (HB3.out.mono (Nat.le_trans HB.out HK2.out.1)), (HK2.out.mono (by decide)).trans (KeepT.below HB3.out), (WStep.heap HS2.out).trans (WStep.below HB3.out)⟩
abbrev zero6 : Array Value := #[.bool false, .slice none 0 0, .slice none 0 0, .int .i64 0, .int .i64 0, .int .i64 0]
theorem sinkF_length (lt : El → El → Bool) (f : Nat) : ∀ (l : List El) (k : Nat), (sinkF lt f l k).length = l.length := by
  induction f with
  | zero => intro l k; rfl
  | succ f ih =>
    intro l k
    simp only [sinkF]
    split
    · rfl
    · rw [ih, swapL_length]
theorem popL_length (lt : El → El → Bool) (l : List El) : (popL lt l).length = l.length - 1 := by unfold popL; rw [sinkF_length, List.length_take, List.length_set]; omega
structure NodeB (x : Node) : Prop where
  bd : Bd 2097152 x.nrm
  len : x.nrm.length ≤ 1024
  off : -9007199254740992 ≤ x.off ∧ x.off ≤ 9007199254740992
def StepSome (w : World) (B b h : Nat) (I lf dp TV vV : Value) (s n : Int) (v : Value) (l : List El) (m t : Int) (nd : Node) (vec : List Int) (e : Ending) (w' : World) : Prop :=
  (nd.leaf = true → ∃ A ca, e = .returned (.tuple #[.slice A nd.ids.length ca, .bool true, .bool true]) ∧ RT w' 3 A nd.ids.length (natV nd.ids) ∧ nd.ids.length ≤ ca ∧ WalkPost w B b h I lf dp TV vV (s + 1) n v (popL ltT l) w') ∧
  (nd.leaf = false → e = .returned (.tuple #[.slice none 0 0, .bool false, .bool true]) ∧
    WalkPost w B b h I lf dp TV vV (s + 1) (n + 2) v (pushL ltT (pushL ltT (popL ltT l) [min m (-(marL nd.nrm nd.off vec)), n, t, nd.left]) [min m (marL nd.nrm nd.off vec), n + 1, t, nd.right]) w')
set_option maxHeartbeats 6400000 in
set_option maxRecDepth 100000 in
theorem step_some (B b hp : Nat) (I lf dp : Value) (TA Av : Option Addr) (tc cv : Nat) (ts : List (List Node)) (vec : List Int) (s n : Int) (v : Value) (m q : Int) (t a : Nat) (r : List El) (w : World)
    (hw : WalkAt w B b hp I lf dp (.slice TA ts.length tc) (.slice Av vec.length cv) s n v ([m, q, (t : Int), (a : Int)] :: r)) (hB : B ≤ w.heap.size) (hf : ForestAt w (.slice TA ts.length tc) ts) (hv : Reads w Av vec.length (i32V vec) ∧ ∀ ad, Av = some ad → 0 < vec.length → ad.block < B)
    (ht : t < ts.length) (ha : a < (ts[t]).length) (nd : Node) (hnd : (ts[t])[a] = nd) (hnb : NodeB nd) (hvb : Bd 2097152 vec) (hs : 0 ≤ s ∧ s ≤ 100000) (hn : 0 ≤ n ∧ n ≤ 99998) (hr : r.length ≤ 50000) (htl : ts.length ≤ 300) (hal : (ts[t]).length ≤ 100000) :
    Calls Tryz.prog 77 #[.pointer (some ⟨b, 0, none⟩)] w (StepSome w B b hp I lf dp (.slice TA ts.length tc) (.slice Av vec.length cv) s n v ([m, q, (t : Int), (a : Int)] :: r) m (t : Int) nd vec) := by
  obtain ⟨s1, s2⟩ := hs
  have HW := Lib.hid hw
  have HI := Lib.hid Tryz.size205
  have HB := Lib.hid hB
  have HV := Lib.hid hv
  have HNB := Lib.hid hnb
  have HN := Lib.hid hn
  have HR := Lib.hid hr
  have HVB := Lib.hid hvb
  have c5 : w.cell? ⟨b, 5, none⟩ = some (.pointer (some ⟨hp, 0, none⟩)) := cell_of_row _ _ _ _ _ _ hw.box
  have HP := Lib.hid (hpop_any B hp v ([m, q, (t : Int), (a : Int)] :: r) ltT w hw.heap (first_ok w) hB (by simp; omega))
  have HF := Lib.hid hf
  have HT := Lib.hid (And.intro ht (And.intro htl hal))
  have HND := Lib.hid hnd
  have HA := Lib.hid ha
  have ht9 : (0 : Int) ≤ (t : Int) := by omega
  have ha9 : (0 : Int) ≤ (a : Int) := by omega
  have htb : (t : Int) ≤ 300 := by omega
  have hab : (a : Int) ≤ 100000 := by omega
  clear hw hB hf hv hnb hn hr hvb htl hal
  go_enter Tryz.func77, Tryz.ntmps77
  go_wp2_with (first
    | (go_at_call 115; refine HP.out.mono ?_; rintro e w2 ⟨hpq, -⟩; obtain ⟨rfl, v2, hh2, hb2, hk2, hs2⟩ := hpq _ _ rfl; have H2 := Lib.hid hh2; have HB2 := Lib.hid hb2; have HK2 := Lib.hid hk2; have HS2 := Lib.hid hs2; clear hpq hh2 hb2 hk2 hs2)
    | (refine wpList_store_row rfl 205 (.tmp 5) (.tmp 15) rfl w2.heap.size rfl 205 zero4 #[.int .i64 m, .int .i64 q, .int .i64 (t : Int), .int .i64 (a : Int)] rfl (heap_alloc_new _ _) HI.out rfl (by simp [Value.oneCell']) ?_
       have HB3 : Hid (Below w2.heap.size w2 ((w2.alloc (.cells zero4 205)).setRow w2.heap.size #[.int .i64 m, .int .i64 q, .int .i64 (t : Int), .int .i64 (a : Int)])) := bel_setRow ((Below.refl _ _).alloc (Nat.le_refl _) _) (Nat.le_refl _)
       have G5 : Hid (((w2.alloc (.cells zero4 205)).setRow w2.heap.size #[.int .i64 m, .int .i64 q, .int .i64 (t : Int), .int .i64 (a : Int)]).heap[w2.heap.size]? = some (.cells #[.int .i64 m, .int .i64 q, .int .i64 (t : Int), .int .i64 (a : Int)] 205 (0, 0))) := setRow_heap (w2.alloc (.cells zero4 205)) w2.heap.size zero4 _ 205 (0, 0) (heap_alloc_new _ _)
       generalize (w2.alloc (.cells zero4 205)).setRow w2.heap.size #[.int .i64 m, .int .i64 q, .int .i64 (t : Int), .int .i64 (a : Int)] = W1 at *
       have HW1 := Lib.hid ((HW.out.heapTo HK2.out H2.out).move HB3.out)
       have c6 : W1.cell? ⟨b, 6, none⟩ = some (.int .i64 s) := cell_of_row _ _ _ _ _ _ HW1.out.box
       have f6 : W1.frozen? ⟨b, 6, none⟩ = false := frozen_of_row _ _ _ _ _ HW1.out.box)
    | fail)
  have HW2 := Lib.hid (HW1.out.steps (s + 1))
  have hbk : b ≠ w2.heap.size := by have := lt_of_block HW.out.box; have := HK2.out.1; omega
  have G2 : Hid ((W1.setCell ⟨b, 6, none⟩ (.int .i64 (s + 1))).heap[w2.heap.size]? = some (.cells #[.int .i64 m, .int .i64 q, .int .i64 (t : Int), .int .i64 (a : Int)] 205 (0, 0))) := (Below.heap_setCell _ _ _ _ (fun e => hbk e.symm)).trans G5.out
  have B2 : Hid (Below B w (W1.setCell ⟨b, 6, none⟩ (.int .i64 (s + 1)))) := (HB2.out.trans (HB3.out.mono (Nat.le_trans HB.out HK2.out.1))).setCell HW.out.base _
  have K2 : Hid (KeepT [157, 205, 253] w (W1.setCell ⟨b, 6, none⟩ (.int .i64 (s + 1)))) := ((HK2.out.mono (by decide)).trans (KeepT.below HB3.out)).trans (KeepT.set HW1.out.box (by decide))
  have S2 : Hid (WStep b hp w v (W1.setCell ⟨b, 6, none⟩ (.int .i64 (s + 1))) v2) := ((WStep.heap HS2.out).trans (WStep.below HB3.out)).trans WStep.set
  have HL5 : Hid (w2.heap.size < (W1.setCell ⟨b, 6, none⟩ (.int .i64 (s + 1))).heap.size ∧ w.heap.size ≤ w2.heap.size) := ⟨lt_of_block G2.out, HK2.out.1⟩
  generalize W1.setCell ⟨b, 6, none⟩ (.int .i64 (s + 1)) = W2 at *
  have HV2 : Hid (∀ k, v2.ownBlock = some k → k < w2.heap.size) := fun k hk => (H2.out.row.lt k hk).2
  clear c5 c6 f6 G5 HW1 HB3 HS2 HB2 HK2 H2
  generalize w2.heap.size = k5 at *
  obtain ⟨gF, gT, cap, Ai, ca, N, cn, rfl, hct, hcn⟩ := (HF.out.keep (KeepF.of K2.out (by decide) (by decide) (by decide) (by decide))).node t ht a ha
  rw [hnd] at hcn
  have htI : (t : Int) < (ts.length : Int) := by omega
  have haI : (a : Int) < ((ts[t]).length : Int) := by omega
  have HCN := Lib.hid hcn
  have a3 : W2.cell? ⟨b, 3, none⟩ = some (.slice (some ⟨gF, 0, none⟩) ts.length tc) := cell_of_row _ _ _ _ _ _ HW2.out.box
  have a5 : W2.cell? ⟨k5, 2, none⟩ = some (.int .i64 (t : Int)) := cell_of_row _ _ _ _ _ _ G2.out
  have a6 : W2.cell? ⟨k5, 3, none⟩ = some (.int .i64 (a : Int)) := cell_of_row _ _ _ _ _ _ G2.out
  obtain ⟨n0, n1, n2, n3, n4, n5, -, -, -, -⟩ := hcn
  have hal : ∀ {c : Addr} {u : Value}, W2.cell? c = some u → (W2.alloc (.cells zero6 70)).cell? c = some u := fun hc => keepc ((Below.refl _ _).alloc (Nat.le_refl _) _) hc
  have b3 := hal a3
  have b5 := hal a5
  have b6 := hal a6
  have b7 := hal hct
  have m0 := hal n0
  have m1 := hal n1
  have m2 := hal n2
  have m3 := hal n3
  have m4 := hal n4
  have m5 := hal n5
  clear hnd hbk hal
  go_region
  clear b3 b5 b6 b7 m0 m1 m2 m3 m4 m5 a3 a5 a6 hct n0 n1 n2 n3 n4 n5
  have HBZ : Hid (Below W2.heap.size W2 (W2.alloc (.cells #[.bool nd.leaf, .slice Ai nd.ids.length ca, .slice N nd.nrm.length cn, .int .i64 nd.off, .int .i64 nd.left, .int .i64 nd.right] 70)).drew) := bel_drew ((Below.refl _ _).alloc (Nat.le_refl _) _)
  have G7 : Hid ((W2.alloc (.cells #[.bool nd.leaf, .slice Ai nd.ids.length ca, .slice N nd.nrm.length cn, .int .i64 nd.off, .int .i64 nd.left, .int .i64 nd.right] 70)).drew.heap[W2.heap.size]? = some (.cells #[.bool nd.leaf, .slice Ai nd.ids.length ca, .slice N nd.nrm.length cn, .int .i64 nd.off, .int .i64 nd.left, .int .i64 nd.right] 70 (0, 0))) := alloc_at1 _ _ _ rfl
  generalize (W2.alloc (.cells #[.bool nd.leaf, .slice Ai nd.ids.length ca, .slice N nd.nrm.length cn, .int .i64 nd.off, .int .i64 nd.left, .int .i64 nd.right] 70)).drew = W3 at *
  have HW3 := Lib.hid (HW2.out.move HBZ.out)
  have G5 := Lib.hid ((HBZ.out.block _ HL5.out.1).trans G2.out)
  have B3 := Lib.hid (B2.out.trans (HBZ.out.mono (Nat.le_trans HB.out K2.out.1)))
  have K3 := Lib.hid (K2.out.trans (KeepT.below HBZ.out))
  have S3 := Lib.hid (S2.out.trans (WStep.below HBZ.out))
  have HL7 : Hid (k5 < W2.heap.size ∧ w.heap.size ≤ k5 ∧ W2.heap.size < W3.heap.size) := ⟨HL5.out.1, HL5.out.2, lt_of_block G7.out⟩
  have p0 : W3.cell? ⟨W2.heap.size, 0, none⟩ = some (.bool nd.leaf) := cell_of_row _ _ _ _ _ _ G7.out
  have p1 : W3.cell? ⟨W2.heap.size, 1, none⟩ = some (.slice Ai nd.ids.length ca) := cell_of_row _ _ _ _ _ _ G7.out
  have HRI : Hid (RT W3 3 Ai nd.ids.length (natV nd.ids)) := HCN.out.ids.keep fun k cs fr hk => HBZ.out.block _ (lt_of_block hk)
  have HRN : Hid (RT W3 21 N nd.nrm.length (i32V nd.nrm)) := HCN.out.nrm.keep fun k cs fr hk => HBZ.out.block _ (lt_of_block hk)
  have HCA := Lib.hid HCN.out.ca
  have HRV : Hid (Reads W3 Av vec.length (i32V vec)) := HV.out.1.old B3.out HV.out.2
  clear HW2 HBZ G2 HL5 B2 K2 S2 HCN HV HF HND
  generalize W2.heap.size = k7 at *
  cases hlf : nd.leaf with
  | true =>
    rw [hlf] at p0
    go_wp2
    refine bodyPost_ret (results_tmp3 rfl _ _ _) rfl ?_
    exact ⟨fun _ => ⟨Ai, ca, rfl, HRI.out, HCA.out, v2, HW3.out, B3.out, K3.out, S3.out⟩, fun h => by rw [hlf] at h; cases h⟩
  | false =>
    rw [hlf] at p0
    have p2 : W3.cell? ⟨k7, 2, none⟩ = some (.slice N nd.nrm.length cn) := cell_of_row _ _ _ _ _ _ G7.out
    have p3 : W3.cell? ⟨k7, 3, none⟩ = some (.int .i64 nd.off) := cell_of_row _ _ _ _ _ _ G7.out
    have p4 : W3.cell? ⟨b, 4, none⟩ = some (.slice Av vec.length cv) := cell_of_row _ _ _ _ _ _ HW3.out.box
    have HKEEP := Lib.hid (fun (W : World) (hb : Below W3.heap.size W3 W) => And.intro (keepc hb p2) (And.intro (keepc hb p3) (keepc hb p4)))
    have HCL : Hid (∀ W, Below W3.heap.size W3 W → Calls Tryz.prog 56 #[.agg #[.slice N nd.nrm.length cn, .int .i64 nd.off], .slice Av vec.length cv] W fun e w' => e = .returned (.int .i64 (marL nd.nrm nd.off vec)) ∧ Below W.heap.size W w') := fun W hb =>
      margin_any nd.nrm vec nd.off N Av _ cn _ cv W (HRN.out.1.below hb) (HRV.out.below hb) HNB.out.bd HVB.out (Nat.le_trans (Nat.min_le_left _ _) HNB.out.len) HNB.out.off
    have hmm := marL_bd HNB.out.bd HVB.out (Nat.le_trans (Nat.min_le_left _ _) HNB.out.len) HNB.out.off
    obtain ⟨mm, hmq⟩ : ∃ mm, marL nd.nrm nd.off vec = mm := ⟨_, rfl⟩
    rw [hmq] at HCL hmm
    have wn : IntKind.i64.wrap (-mm) = -mm := IntWalk.i64_in _ (by omega)
    have HMQ := Lib.hid hmq
    clear hmq hmm
    go_wp2_with fail
    go_region_held3 (fun W => W.cell? ⟨k7, 2, none⟩ = some (.slice N nd.nrm.length cn) ∧ W.cell? ⟨k7, 3, none⟩ = some (.int .i64 nd.off) ∧ W.cell? ⟨b, 4, none⟩ = some (.slice Av vec.length cv)) (first | go_keep | exact HKEEP.out _ HB4.out)
      (first | (go_at_call 56; refine (HCL.out _ (bel_drew (Below.refl _ _))).mono ?_; rintro e w4 ⟨rfl, hb4⟩; have HB4 : Hid (Below W3.heap.size W3 w4) := (bel_drew (Below.refl _ _)).trans hb4; clear hb4))
    have HBB : Hid (b < w.heap.size ∧ hp < w.heap.size) := ⟨lt_of_block HW.out.box, lt_of_block HW.out.heap.box⟩
    have HW4 := Lib.hid (HW3.out.move HB4.out)
    have HL4 : Hid (B ≤ w4.heap.size ∧ w.heap.size ≤ w4.heap.size ∧ k5 < w4.heap.size ∧ k7 < w4.heap.size) := by
      have h1 := HL7.out; have h2 := HB4.out.size; have h3 := HB.out
      show _ ∧ _ ∧ _ ∧ _
      omega
    have G54 := Lib.hid ((HB4.out.block _ (by have := HL7.out; omega)).trans G5.out)
    have G74 := Lib.hid ((HB4.out.block _ HL7.out.2.2).trans G7.out)
    have q0 : w4.cell? ⟨k5, 0, none⟩ = some (.int .i64 m) := cell_of_row _ _ _ _ _ _ G54.out
    have q2 : w4.cell? ⟨k5, 2, none⟩ = some (.int .i64 (t : Int)) := cell_of_row _ _ _ _ _ _ G54.out
    have q4 : w4.cell? ⟨k7, 4, none⟩ = some (.int .i64 nd.left) := cell_of_row _ _ _ _ _ _ G74.out
    have HPU : Hid (∀ x, x = min m (-mm) → Calls Tryz.prog 114 #[.pointer (some ⟨b, 0, none⟩), .int .i64 x, .int .i64 (t : Int), .int .i64 nd.left] w4 fun e w' => e = .returned (.tuple #[]) ∧ WalkPost w4 B b hp I lf dp (.slice (some ⟨gF, 0, none⟩) ts.length tc) (.slice Av vec.length cv) (s + 1) (n + 1) v2 (pushL ltT (popL ltT ([m, q, (t : Int), (a : Int)] :: r)) [min m (-mm), n, (t : Int), nd.left]) w') := by
      rintro x rfl
      exact wpush_any B b hp _ _ _ _ _ (s + 1) n v2 _ (min m (-mm)) (t : Int) nd.left w4 HW4.out HL4.out.1 (by rw [popL_length, List.length_cons]; have := HR.out; omega) ⟨HN.out.1, by have := HN.out.2; omega⟩
    have HNR : Hid (∀ k, v2.ownBlock = some k → k ≠ k5 ∧ k ≠ k7) := fun k hk => by have h1 := HV2.out k hk; have h2 := HL7.out; omega
    clear p0 p1 p2 p3 p4 HKEEP HCL HRN HRV HRI HCA HNB HVB HI HP HW3 HV2
    go_wp2_with (first
      | (go_at_call 114; refine (HPU.out _ (by omega)).mono ?_; rintro e w5 ⟨rfl, v5, hw5, hb5, hk5, hs5⟩
         have hkp : ∀ k, k < w4.heap.size → w.heap.size ≤ k → v2.ownBlock ≠ some k → w5.heap[k]? = w4.heap[k]? := fun k h1 h2 h3 => hs5.2.1 k h1 (by have := HBB.out; omega) (by have := HBB.out; omega) h3
         have G55 := Lib.hid ((hkp k5 HL4.out.2.2.1 HL7.out.2.1 (fun e => (HNR.out _ e).1 rfl)).trans G54.out)
         have G75 := Lib.hid ((hkp k7 HL4.out.2.2.2 (by have := HL7.out; omega) (fun e => (HNR.out _ e).2 rfl)).trans G74.out)
         have q10 : w5.cell? ⟨k5, 0, none⟩ = some (.int .i64 m) := cell_of_row _ _ _ _ _ _ G55.out
         have q12 : w5.cell? ⟨k5, 2, none⟩ = some (.int .i64 (t : Int)) := cell_of_row _ _ _ _ _ _ G55.out
         have q15 : w5.cell? ⟨k7, 5, none⟩ = some (.int .i64 nd.right) := cell_of_row _ _ _ _ _ _ G75.out
         have HPV : Hid (∀ x, x = min m mm → Calls Tryz.prog 114 #[.pointer (some ⟨b, 0, none⟩), .int .i64 x, .int .i64 (t : Int), .int .i64 nd.right] w5 fun e w' => e = .returned (.tuple #[]) ∧ WalkPost w5 B b hp I lf dp (.slice (some ⟨gF, 0, none⟩) ts.length tc) (.slice Av vec.length cv) (s + 1) (n + 1 + 1) v5 (pushL ltT (pushL ltT (popL ltT ([m, q, (t : Int), (a : Int)] :: r)) [min m (-mm), n, (t : Int), nd.left]) [min m mm, n + 1, (t : Int), nd.right]) w') := by
           rintro x rfl
           exact wpush_any B b hp _ _ _ _ _ (s + 1) (n + 1) v5 _ (min m mm) (t : Int) nd.right w5 hw5 (Nat.le_trans HL4.out.1 hs5.1) (by rw [pushL_length, popL_length, List.length_cons]; have := HR.out; omega) ⟨by have := HN.out.1; omega, by have := HN.out.2; omega⟩
         have B5 := Lib.hid hb5
         have K5 := Lib.hid hk5
         have S5 := Lib.hid hs5
         clear HPU hw5 hb5 hk5 hs5 hkp)
      | (go_at_call 114; refine (HPV.out _ (by omega)).mono ?_; rintro e w6 ⟨rfl, v6, hw6, hb6, hk6, hs6⟩
         have HW6 := Lib.hid hw6
         have B6 := Lib.hid hb6
         have K6 := Lib.hid hk6
         have S6 := Lib.hid hs6
         clear hw6 hb6 hk6 hs6)
      | fail)
    all_goals
      refine bodyPost_ret (results_tmp3 rfl _ _ _) rfl ?_
      refine ⟨fun h => (by rw [hlf] at h; cases h), fun _ => ⟨rfl, v6, ?_, ?_, ?_, ?_⟩⟩
      · rw [HMQ.out]
        have := HW6.out
        rw [Int.add_assoc n 1 1] at this
        exact this
      · exact B3.out.trans ((HB4.out.mono (Nat.le_trans HB.out K3.out.1)).trans (B5.out.trans B6.out))
      · exact K3.out.trans ((KeepT.below HB4.out).trans (K5.out.trans K6.out))
      · exact S3.out.trans ((WStep.below HB4.out).trans (S5.out.trans S6.out))
end Go.Proofs.YtladmconpolneaaGreat

/- search.Check, search.Gather. -/
set_option linter.unusedVariables false
set_option linter.unusedSimpArgs false
namespace Go.Proofs.YtladmconpolneaaGreat
open Go.RowKit
/-- A forest that may be searched, with its items, in memory. -/
structure FrAt (w : World) (B bi dim n lfn depth : Nat) (F : List Int) (TA : Option Addr) (tc : Nat) (ts : List (List Node)) : Prop where
  it : ItemsAt w B bi dim n F
  fr : ForestAt w (.slice TA ts.length tc) ts
  ok : FOk ts n dim depth
  lf : 1 ≤ lfn ∧ lfn ≤ 1024
  dp : depth ≤ 64
  n : 1 ≤ n ∧ n ≤ 64
  d : 1 ≤ dim ∧ dim ≤ 1024
theorem FrAt.below {w W : World} {B bi dim n lfn depth : Nat} {F : List Int} {TA : Option Addr} {tc : Nat} {ts : List (List Node)} (h : FrAt w B bi dim n lfn depth F TA tc ts) (hb : Below w.heap.size w W) : FrAt W B bi dim n lfn depth F TA tc ts :=
  ⟨h.it.below hb, h.fr.keep (KeepF.below hb), h.ok, h.lf, h.dp, h.n, h.d⟩
abbrev frV (bi lfn depth : Nat) (TA : Option Addr) (tn tc : Nat) : Value := .agg #[.pointer (some ⟨bi, 0, none⟩), .int .i64 (lfn : Int), .int .i64 (depth : Int), .slice TA tn tc]
theorem xcheck_any (w : World) (B bi dim n lfn depth : Nat) (F : List Int) (TA : Option Addr) (tc : Nat) (ts : List (List Node)) (h : FrAt w B bi dim n lfn depth F TA tc ts) (vec : List Int) (Av : Option Addr) (cv : Nat) (hv : Reads w Av vec.length (i32V vec)) :
    Calls Tryz.prog 38 #[frV bi lfn depth TA ts.length tc, .slice Av vec.length cv] w fun e w' => e = .returned (.int .i64 (vecE vec dim)) ∧ Below w.heap.size w w' := by
  have HB0 : Hid (∀ o, Below w.heap.size w (w.alloc o)) := fun o => (Below.refl _ _).alloc (Nat.le_refl _) _
  have HG := Lib.hid (heap_alloc_new w (.cells #[.pointer (some ⟨bi, 0, none⟩), .int .i64 (lfn : Int), .int .i64 (depth : Int), .slice TA ts.length tc] 62))
  have HI := Lib.hid Tryz.size62
  have HC : Hid (∀ W, Below w.heap.size w W → Calls Tryz.prog 70 #[frV bi lfn depth TA ts.length tc] W fun e w' => e = .returned (.int .i64 0) ∧ Below W.heap.size W w') := fun W hb => let h' := h.below hb; lcheck_any W B bi dim n lfn depth F ts TA tc h'.it h'.fr h'.ok h'.lf h'.dp h'.n h'.d
  have HD : Hid (∀ W, Below w.heap.size w W → Calls Tryz.prog 72 #[.pointer (some ⟨bi, 0, none⟩)] W fun e w' => e = .returned (.int .i64 (dim : Int)) ∧ W = w') := fun W hb => dim_any W (h.it.below hb)
  have HV : Hid (∀ W, Below w.heap.size w W → Calls Tryz.prog 71 #[.slice Av vec.length cv, .int .i64 (dim : Int)] W fun e w' => e = .returned (.int .i64 (vecE vec dim)) ∧ W = w') := fun W hb => vcheck_any vec dim Av _ cv W (hv.below hb)
  clear h hv
  go_enter Tryz.func38, Tryz.ntmps38
  go_wp2_with (first
    | (refine wpList_load_row rfl 62 (.tmp 2) rfl w.heap.size rfl 62 #[.pointer (some ⟨bi, 0, none⟩), .int .i64 (lfn : Int), .int .i64 (depth : Int), .slice TA ts.length tc] (0, 0) _ HG.out Tryz.underlying62 rfl HI.out ?_)
    | (go_at_call 70; refine (HC.out _ (HB0.out _)).mono ?_; rintro e w2 ⟨rfl, hb⟩
       have HB2 := Lib.hid ((HB0.out _).trans (hb.mono (HB0.out _).size))
       have q0 : w2.cell? ⟨w.heap.size, 0, none⟩ = some (.pointer (some ⟨bi, 0, none⟩)) := cell_of_row _ _ _ _ _ _ ((hb.block _ (lt_of_block HG.out)).trans HG.out)
       clear hb)
    | (go_at_call 72; refine (HD.out _ HB2.out).mono ?_; rintro e w3 ⟨rfl, rfl⟩)
    | (go_at_call 71; refine (HV.out _ HB2.out).mono ?_; rintro e w4 ⟨rfl, rfl⟩)
    | fail)
  go_ret
  exact ⟨rfl, HB2.out⟩
theorem collect_any (w : World) (B b1 m g n c X : Nat) (hm : MarksAt w B m g n c X) (hb : w.heap[b1]? = some (.cells #[.pointer (some ⟨m, 0, none⟩)] 146 (0, 0))) :
    Calls Tryz.prog 79 #[.func (.func 118) #[] #[.pointer (some ⟨b1, 0, none⟩)]] w (CollectPost w (metTo X n)) := by
  have H := Lib.hid (appendSeq_any w B b1 m g n c X hm hb)
  clear hm hb
  go_enter Tryz.func79, Tryz.ntmps79
  go_wp2_with (first
    | (go_at_call 117; refine H.out.mono ?_; rintro e w2 ⟨A, cA, rfl, ho, hb⟩; have HO := Lib.hid ho; have HB := Lib.hid hb; clear ho hb)
    | fail)
  go_ret
  exact ⟨A, cA, rfl, HO.out, HB.out⟩
theorem mall_any (m : Nat) (w : World) : Calls Tryz.prog 80 #[.pointer (some ⟨m, 0, none⟩)] w fun e w' => e = .returned (.func (.func 118) #[] #[.pointer (some ⟨w.heap.size, 0, none⟩)]) ∧ w' = w.alloc (.cells #[.pointer (some ⟨m, 0, none⟩)] 146) := by
  go_enter Tryz.func80, Tryz.ntmps80
  go_wp2
  go_ret
  exact ⟨rfl, rfl⟩
end Go.Proofs.YtladmconpolneaaGreat

/- What Gather does. Plain Lean. -/
set_option linter.unusedVariables false
set_option linter.unusedSimpArgs false
namespace Go.Proofs.YtladmconpolneaaGreat
open Go.RowKit
theorem swapL_perm (l : List El) (i j : Nat) (hi : i < l.length) (hj : j < l.length) : (swapL l i j).Perm l := by
  unfold swapL
  have gi : l.getD i [] = l[i] := by rw [List.getD_eq_getElem?_getD, List.getElem?_eq_getElem hi]; rfl
  have gj : l.getD j [] = l[j] := by rw [List.getD_eq_getElem?_getD, List.getElem?_eq_getElem hj]; rfl
  rw [gi, gj]
  by_cases hij : i = j
  · subst hij
    rw [List.set_set]
    have : l.set i l[i] = l := List.set_getElem_self hi
    rw [this]
  · rw [List.perm_iff_count]
    intro b
    have h1 : j < (l.set i l[j]).length := by simpa using hj
    rw [List.count_set h1, List.count_set hi, List.getElem_set_ne hij]
    have p1 : (if l[i] == b then 1 else 0) ≤ l.count b := by
      split
      · rename_i h
        exact List.count_pos_iff.2 (by rw [← beq_iff_eq.1 h]; exact List.getElem_mem hi)
      · omega
    omega
theorem upF_perm (lt : El → El → Bool) (f : Nat) : ∀ (l : List El) (k : Nat), k < l.length → (upF lt f l k).Perm l := by
  induction f with
  | zero => intro l k _; exact .refl _
  | succ f ih =>
    intro l k hk
    simp only [upF]
    split
    · exact .refl _
    · split
      · refine (ih _ _ (by rw [swapL_length]; omega)).trans (swapL_perm l k _ hk (by omega))
      · exact .refl _
theorem pushL_perm (lt : El → El → Bool) (l : List El) (x : El) : (pushL lt l x).Perm (l ++ [x]) := upF_perm lt _ _ _ (by simp)
theorem sinkF_perm (lt : El → El → Bool) (f : Nat) : ∀ (l : List El) (k : Nat), k < l.length ∨ l = [] → (sinkF lt f l k).Perm l := by
  induction f with
  | zero => intro l k _; exact .refl _
  | succ f ih =>
    intro l k hk
    simp only [sinkF]
    split
    · exact .refl _
    · rename_i hne
      rcases hk with hk | rfl
      · have hb : bestL lt l (bestL lt l k (2 * k + 1)) (2 * k + 2) < l.length := bestL_lt (bestL_lt hk)
        exact (ih _ _ (.inl (by rw [swapL_length]; exact hb))).trans (swapL_perm l k _ hk hb)
      · exfalso
        apply hne
        rw [bestL_out (by simp), bestL_out (by simp)]
theorem popL_perm (lt : El → El → Bool) (x : El) (r : List El) : (popL lt (x :: r)).Perm r := by
  rw [popL_one]
  refine (sinkF_perm lt _ _ _ ?_).trans ?_
  · cases r with
    | nil => right; simp
    | cons y s => left; simp
  · cases hr : r.reverse with
    | nil =>
      have : r = [] := by simpa using congrArg List.reverse hr
      subst this
      exact .refl _
    | cons y s =>
      have hr' : r = s.reverse ++ [y] := by simpa using congrArg List.reverse hr
      subst hr'
      have hg : (x :: (s.reverse ++ [y])).getD (s.reverse ++ [y]).length [] = y := by
        rw [List.getD_eq_getElem?_getD, List.length_append, List.length_singleton, List.getElem?_cons_succ, List.getElem?_append_right (Nat.le_refl _), Nat.sub_self]; rfl
      rw [hg]
      show ((y :: (s.reverse ++ [y])).take (s.reverse ++ [y]).length).Perm _
      rw [List.length_append, List.length_singleton, List.take_succ_cons, List.take_left' rfl]
      exact (List.perm_append_singleton _ _).symm
theorem nodup_le : ∀ (n : Nat) (l : List Nat), l.Nodup → (∀ i ∈ l, i < n) → l.length ≤ n
  | 0, l, _, h => by
    cases l with
    | nil => exact Nat.le_refl _
    | cons a l => exact absurd (h a List.mem_cons_self) (by omega)
  | n + 1, l, hd, h => by
    by_cases hm : n ∈ l
    · have h1 := List.length_erase_of_mem hm
      have h2 := nodup_le n (l.erase n) (hd.erase n) fun i hi => by
        have := (hd.mem_erase_iff).1 hi
        have := h i this.2
        omega
      omega
    · have := nodup_le n l hd fun i hi => by
        have := h i hi
        have : i ≠ n := fun e => hm (e ▸ hi)
        omega
      omega
/-- A search: tasks, the next number, steps, the set, how many are met. -/
structure GS where
  l : List El
  nx : Int
  st : Int
  X : Nat
  c : Nat
def nodeOf (ts : List (List Node)) (x : El) : Node := (ts.getD (x.getD 2 0).toNat []).getD (x.getD 3 0).toNat (leafN [])
def addAll : Nat → Nat → List Nat → Nat × Nat
  | X, c, [] => (X, c)
  | X, c, id :: ids => addAll (if X.testBit id then X else X ||| 2 ^ id) (if X.testBit id then c else c + 1) ids
def gstep (ts : List (List Node)) (vec : List Int) (s : GS) : GS :=
  match s.l with
  | [] => s
  | x :: r => if (nodeOf ts x).leaf then ⟨popL ltT (x :: r), s.nx, s.st + 1, (addAll s.X s.c (nodeOf ts x).ids).1, (addAll s.X s.c (nodeOf ts x).ids).2⟩
    else ⟨pushL ltT (pushL ltT (popL ltT (x :: r)) [min (x.getD 0 0) (-(marL (nodeOf ts x).nrm (nodeOf ts x).off vec)), s.nx, x.getD 2 0, (nodeOf ts x).left]) [min (x.getD 0 0) (marL (nodeOf ts x).nrm (nodeOf ts x).off vec), s.nx + 1, x.getD 2 0, (nodeOf ts x).right], s.nx + 2, s.st + 1, s.X, s.c⟩
def grun (ts : List (List Node)) (vec : List Int) (limit : Nat) : Nat → GS → GS
  | 0, s => s
  | f + 1, s => if limit ≤ s.c then s else if s.l = [] then s else grun ts vec limit f (gstep ts vec s)
/-- A task stands for a subtree. -/
def TaskAt (ts : List (List Node)) (x : El) (t : BT) : Prop := ∃ (m q : Int) (k a : Nat) (pre rest : List Node), x = [m, q, (k : Int), (a : Int)] ∧ k < ts.length ∧ ts.getD k [] = pre ++ (t.nodes a ++ rest) ∧ pre.length = a
def bsz (bs : List (El × BT)) : Nat := (bs.map fun p => p.2.size).sum
/-- What holds of a search under way. -/
structure GOk (ts : List (List Node)) (n N : Nat) (s : GS) : Prop where
  bs : ∃ bs : List (El × BT), (bs.map (·.1)).Perm s.l ∧ (∀ p ∈ bs, TaskAt ts p.1 p.2) ∧ s.st + (bsz bs : Int) = (N : Int)
  met : ∃ l : List Nat, MetIs s.X s.c l ∧ l.Nodup ∧ ∀ i ∈ l, i < n
  nx : 0 ≤ s.nx ∧ s.nx = (ts.length : Int) + (s.nx - (ts.length : Int)) ∧ s.nx ≤ (ts.length : Int) + 2 * s.st
  st : 0 ≤ s.st
theorem bsz_cons (p : El × BT) (bs : List (El × BT)) : bsz (p :: bs) = p.2.size + bsz bs := rfl
theorem bsz_perm {a b : List (El × BT)} (h : a.Perm b) : bsz a = bsz b := (h.map _).sum_nat
theorem bsz_length (bs : List (El × BT)) : bs.length ≤ bsz bs := by
  induction bs with
  | nil => exact Nat.le_refl _
  | cons p bs ih => rw [bsz_cons, List.length_cons]; have := p.2.size_pos; omega
theorem addAll_met {n : Nat} : ∀ (ids : List Nat) (X c : Nat) (l : List Nat), MetIs X c l → l.Nodup → (∀ i ∈ l, i < n) → (∀ i ∈ ids, i < n) →
    ∃ l', MetIs (addAll X c ids).1 (addAll X c ids).2 l' ∧ l'.Nodup ∧ (∀ i ∈ l', i < n) ∧ ∀ i, i ∈ l' ↔ i ∈ l ∨ i ∈ ids
  | [], X, c, l, h1, h2, h3, _ => ⟨l, h1, h2, h3, fun i => by simp⟩
  | id :: ids, X, c, l, h1, h2, h3, h4 => by
    by_cases hm : id ∈ l
    · have hb : X.testBit id = true := by rw [h1.2]; simpa using hm
      obtain ⟨l', a1, a2, a3, a4⟩ := addAll_met ids X c l h1 h2 h3 fun i hi => h4 i (List.mem_cons_of_mem _ hi)
      refine ⟨l', by simp only [addAll, hb, if_true]; exact a1, a2, a3, fun i => ?_⟩
      rw [a4, List.mem_cons]
      constructor
      · rintro (h | h)
        · exact .inl h
        · exact .inr (.inr h)
      · rintro (h | rfl | h)
        · exact .inl h
        · exact .inl hm
        · exact .inr h
    · obtain ⟨hb, h1'⟩ := h1.add hm
      obtain ⟨l', a1, a2, a3, a4⟩ := addAll_met ids (X ||| 2 ^ id) (c + 1) (l ++ [id]) h1' (by rw [List.nodup_append]; exact ⟨h2, by simp, fun a ha b hb => by simp at hb; subst hb; rintro rfl; exact hm ha⟩) (fun i hi => by
        rcases List.mem_append.1 hi with h | h
        · exact h3 i h
        · simp at h; subst h; exact h4 _ List.mem_cons_self) fun i hi => h4 i (List.mem_cons_of_mem _ hi)
      refine ⟨l', by simp only [addAll, hb]; exact a1, a2, a3, fun i => ?_⟩
      rw [a4]
      simp only [List.mem_append, List.mem_cons, List.mem_singleton, List.not_mem_nil, or_false, or_assoc]
theorem TaskAt.node {ts : List (List Node)} {x : El} {t : BT} (h : TaskAt ts x t) : ∃ (m q : Int) (k a : Nat) (hk : k < ts.length) (ha : a < (ts[k]).length), x = [m, q, (k : Int), (a : Int)] ∧ (ts[k])[a] = nodeOf ts x ∧ (t.nodes a).head? = some (nodeOf ts x) := by
  obtain ⟨m, q, k, a, pre, rest, rfl, hk, he, hp⟩ := h
  have hg : ts.getD k [] = ts[k] := by rw [List.getD_eq_getElem?_getD, List.getElem?_eq_getElem hk]; rfl
  have hlen : 0 < (t.nodes a).length := by rw [t.nodes_length]; exact t.size_pos
  have hn : nodeOf ts [m, q, (k : Int), (a : Int)] = (ts.getD k []).getD a (leafN []) := by
    show (ts.getD ((k : Int)).toNat []).getD ((a : Int)).toNat (leafN []) = _
    rw [Int.toNat_natCast, Int.toNat_natCast]
  have ha : a < (ts[k]).length := by rw [← hg, he]; simp; omega
  have h1 : (ts[k])[a]? = (t.nodes a).head? := by
    rw [← hg, he, List.getElem?_append_right (by omega), hp, Nat.sub_self, List.getElem?_append_left hlen, List.head?_eq_getElem?]
  have h2 : (ts[k])[a] = nodeOf ts [m, q, (k : Int), (a : Int)] := by
    rw [hn, hg, List.getD_eq_getElem?_getD, List.getElem?_eq_getElem ha]; rfl
  refine ⟨m, q, k, a, hk, ha, rfl, h2, ?_⟩
  rw [← h1, List.getElem?_eq_getElem ha, h2]
theorem GOk.head {ts : List (List Node)} {n N : Nat} {s : GS} {x : El} {r : List El} (h : GOk ts n N s) (hl : s.l = x :: r) : ∃ (t : BT) (bs' : List (El × BT)), TaskAt ts x t ∧ (bs'.map (·.1)).Perm r ∧ (∀ p ∈ bs', TaskAt ts p.1 p.2) ∧ s.st + ((t.size + bsz bs' : Nat) : Int) = (N : Int) := by
  obtain ⟨bs, h1, h2, h3⟩ := h.bs
  rw [hl] at h1
  have hx : x ∈ bs.map (·.1) := h1.mem_iff.2 List.mem_cons_self
  obtain ⟨p, hp, rfl⟩ := List.mem_map.1 hx
  obtain ⟨a, b, rfl⟩ := List.append_of_mem hp
  have hperm : (a ++ p :: b).Perm (p :: (a ++ b)) := List.perm_middle
  refine ⟨p.2, a ++ b, h2 p hp, ?_, fun q hq => h2 q (hperm.mem_iff.2 (List.mem_cons_of_mem _ hq)), ?_⟩
  · have := (hperm.map (·.1)).symm.trans h1
    exact (List.perm_cons _).1 this
  · rw [bsz_perm hperm, bsz_cons] at h3
    exact h3
theorem lf_ids {ns : List Node} {x : Node} (hx : x ∈ ns) (hl : x.leaf = true) : ∀ i ∈ x.ids, i ∈ (lf ns).flatten := fun i hi => by
  rw [List.mem_flatten]
  refine ⟨x.ids, ?_, hi⟩
  unfold lf
  exact List.mem_map.2 ⟨x, List.mem_filter.2 ⟨hx, hl⟩, rfl⟩
theorem gok_step {ts : List (List Node)} {n N dim depth : Nat} {s : GS} {x : El} {r : List El} (vec : List Int) (hok : FOk ts n dim depth) (h : GOk ts n N s) (hl : s.l = x :: r) : GOk ts n N (gstep ts vec s) ∧ (gstep ts vec s).st = s.st + 1 := by
  obtain ⟨t, bs', ht, hb1, hb2, hb3⟩ := h.head hl
  obtain ⟨m, q, k, a, hk, ha, hx, hnd, hhead⟩ := ht.node
  have hmem : nodeOf ts x ∈ ts[k] := by rw [← hnd]; exact List.getElem_mem ha
  have htk := hok.ok _ (List.getElem_mem hk)
  obtain ⟨met, hm1, hm2, hm3⟩ := h.met
  have hnx := h.nx
  have hst := h.st
  unfold gstep
  rw [hl]
  dsimp only
  by_cases hlf : (nodeOf ts x).leaf = true
  · rw [if_pos hlf]
    obtain ⟨l', a1, a2, a3, _⟩ := addAll_met (n := n) (nodeOf ts x).ids s.X s.c met hm1 hm2 hm3 fun i hi => htk.lt i (lf_ids hmem hlf i hi)
    refine ⟨⟨⟨bs', hb1.trans (popL_perm ltT x r).symm, hb2, ?_⟩, ⟨l', a1, a2, a3⟩, ?_, ?_⟩, rfl⟩
    · have : t.size = 1 := by
        cases t with
        | leaf ids => rfl
        | split nrm off l r =>
          simp [BT.nodes] at hhead
          rw [← hhead] at hlf
          cases hlf
      rw [this] at hb3
      show s.st + 1 + (bsz bs' : Int) = N
      omega
    · show 0 ≤ s.nx ∧ _ ∧ s.nx ≤ (ts.length : Int) + 2 * (s.st + 1)
      omega
    · show 0 ≤ s.st + 1
      omega
  · rw [if_neg hlf]
    cases t with
    | leaf ids =>
      simp [BT.nodes] at hhead
      rw [← hhead] at hlf
      exact absurd rfl hlf
    | split nrm off l rr =>
      have hroot : nodeOf ts x = (splitN nrm off ((a : Int) + 1)).withRight ((a + 1 + l.size : Nat) : Int) := by
        simp [BT.nodes] at hhead
        exact hhead.symm
      obtain ⟨m', q', k', a', pre, rest, hx', hk', he, hp⟩ := ht
      have e1 : k = k' ∧ a = a' := by
        rw [hx] at hx'
        simp at hx'
        exact ⟨by omega, by omega⟩
      obtain ⟨rfl, rfl⟩ := e1
      have hleft : (nodeOf ts x).left = ((a + 1 : Nat) : Int) := by rw [hroot]; show (a : Int) + 1 = _; omega
      have hright : (nodeOf ts x).right = ((a + 1 + l.size : Nat) : Int) := by rw [hroot]; rfl
      have hx2 : x.getD 2 0 = (k : Int) := by rw [hx]; rfl
      rw [hleft, hright, hx2]
      rw [BT.nodes] at he
      have c1 : ∀ (mm qq : Int), TaskAt ts [mm, qq, (k : Int), ((a + 1 : Nat) : Int)] l := fun mm qq => ⟨mm, qq, k, a + 1, pre ++ [(splitN nrm off ((a : Int) + 1)).withRight ((a + 1 + l.size : Nat) : Int)], rr.nodes (a + 1 + l.size) ++ rest, rfl, hk, by rw [he]; simp, by simp [hp]⟩
      have c2 : ∀ (mm qq : Int), TaskAt ts [mm, qq, (k : Int), ((a + 1 + l.size : Nat) : Int)] rr := fun mm qq => ⟨mm, qq, k, a + 1 + l.size, pre ++ (splitN nrm off ((a : Int) + 1)).withRight ((a + 1 + l.size : Nat) : Int) :: l.nodes (a + 1), rest, rfl, hk, by rw [he]; simp, by rw [List.length_append, List.length_cons, l.nodes_length, hp]; omega⟩
      have t1 := c1 (min (x.getD 0 0) (-(marL (nodeOf ts x).nrm (nodeOf ts x).off vec))) s.nx
      have t2 := c2 (min (x.getD 0 0) (marL (nodeOf ts x).nrm (nodeOf ts x).off vec)) (s.nx + 1)
      generalize ([min (x.getD 0 0) (-(marL (nodeOf ts x).nrm (nodeOf ts x).off vec)), s.nx, (k : Int), ((a + 1 : Nat) : Int)] : El) = y1 at *
      generalize ([min (x.getD 0 0) (marL (nodeOf ts x).nrm (nodeOf ts x).off vec), s.nx + 1, (k : Int), ((a + 1 + l.size : Nat) : Int)] : El) = y2 at *
      refine ⟨⟨⟨bs' ++ [(y1, l)] ++ [(y2, rr)], ?_, ?_, ?_⟩, ⟨met, hm1, hm2, hm3⟩, ?_, ?_⟩, rfl⟩
      · rw [List.map_append, List.map_append]
        exact (((hb1.trans (popL_perm ltT x r).symm).append_right _).trans (pushL_perm ltT _ _).symm |>.append_right _).trans (pushL_perm ltT _ _).symm
      · intro p hp'
        rcases List.mem_append.1 hp' with hp' | hp'
        · rcases List.mem_append.1 hp' with hp' | hp'
          · exact hb2 p hp'
          · have e : p = (y1, l) := by simpa using hp'
            subst e; exact t1
        · have e : p = (y2, rr) := by simpa using hp'
          subst e; exact t2
      · have e : bsz (bs' ++ [(y1, l)] ++ [(y2, rr)]) = bsz bs' + l.size + rr.size := by simp [bsz]; omega
        rw [e]
        rw [BT.size] at hb3
        show s.st + 1 + ((bsz bs' + l.size + rr.size : Nat) : Int) = N
        omega
      · show 0 ≤ s.nx + 2 ∧ _ ∧ s.nx + 2 ≤ (ts.length : Int) + 2 * (s.st + 1)
        omega
      · show 0 ≤ s.st + 1
        omega
end Go.Proofs.YtladmconpolneaaGreat

/- TopSame, walked. -/
import Derived.Test.YtladmconpolneaaGreatBuildC
import Derived.Test.YtladmconpolneaaGreatSame1
set_option linter.unusedVariables false
set_option linter.unusedSimpArgs false
namespace Go.Proofs.YtladmconpolneaaGreat
open Go.RowKit
theorem lists_rep {w : World} {B c m cv : Nat} {A V : Option Addr} {v : List Int} (ho : w.ownsRow B 30 1 (.slice A m c) m (List.replicate m (.slice V v.length cv))) (hv : Reads w V v.length (i32V v)) : ListsAt w A (List.replicate m v) := by
  intro i hi
  rw [List.length_replicate] at hi
  rw [List.getElem_replicate]
  rcases ho.2 with ⟨_, h0⟩ | ⟨g, cap, cur, hg, _⟩
  · omega
  · simp only [Value.slice.injEq] at hg
    obtain ⟨rfl, -⟩ := hg
    have hc := ho.cells (g := g) rfl i (.slice V v.length cv) (by rw [List.getElem?_replicate, if_pos hi])
    exact ⟨_, V, cv, rfl, hc, hv⟩
theorem stand3 {v x : List Int} {m : Nat} {p : Par} (R : Right (v.length : Int) (List.replicate m v) p x) (A : Option Addr) (ca : Nat) (L : Option Addr) (c : Nat) (w : World) (h : ListsAt w A (List.replicate m v)) (hp : ParAt w p L) :
    ∃ leaf depth : Nat, (1 ≤ v.length ∧ v.length ≤ 1024) ∧ (1 ≤ m ∧ m ≤ 40) ∧ vecE x (v.length : Int) = 0 ∧
      ∀ W, Below w.heap.size w W → Calls Tryz.prog 11 #[.int .i64 (v.length : Int), .slice A m ca, .agg (parV p L c), .int .i64 3, .slice none 0 0] W (StandR W v.length m leaf depth (List.replicate m v).flatten) := by
  obtain ⟨leaf, depth, trees, N⟩ := nums_of R.grow
  have hdim := R.hdim
  have hfew := R.few
  have ht6 : trees ≤ 6 := by have := hfew.trees; have := N.et; have := N.tr; omega
  have hv := R.vec
  have hn : 1 ≤ (List.replicate m v).length ∧ (List.replicate m v).length ≤ 40 := ⟨Nat.pos_of_ne_zero R.some, hfew.cnt⟩
  have hok := R.ok
  rw [Int.toNat_natCast] at hok
  refine ⟨leaf, depth, by omega, by rw [List.length_replicate] at hn; exact hn, hv, fun W hb => ?_⟩
  have := standing_any v.length (by omega) (List.replicate m v) A ca p L c leaf depth trees 3 (.slice none 0 0) W (h.below hb) hok (by omega) (fun W' x b hb' hx =>
    ibuildc_any W' W.heap.size x b v.length (List.replicate m v).length leaf depth trees 3 (List.replicate m v).flatten hx p N.el N.ed N.et L c ((hp.below (hb.trans (hb'.mono hb.size))).rt) (by have := hfew.list; omega) hp.u64 R.grow ⟨hn.1, by omega⟩ N.lf.1 N.tr.2 ⟨by omega, by omega⟩ [] none 0 0 ⟨rfl, by omega, fun j hj => absurd hj (Nat.not_lt_zero _)⟩ (by simp))
  rw [List.length_replicate] at this hn
  refine this.mono ?_
  rintro e w' ⟨x, b, TA, tc, ts, rfl, hx, hl, hb'⟩
  exact ⟨x, b, TA, tc, ts, rfl, ready_of hx (by rw [hl]; exact ⟨N.tr.1, ht6⟩) hn N.lf N.dp, hb'⟩
theorem Tryz.info30 : (Tryz.prog.info? 30).map (fun i => (i.zero, i.size, i.bytes)) = some (some (.slice none 0 0), 1, 24) := by kernel_rfl
set_option maxRecDepth 100000 in
set_option maxHeartbeats 3200000 in
theorem same_law (v x : List Int) (V X : Option Addr) (cv cx : Nat) (n : Nat) (hn : n ≤ 255) (p : Par) (L : Option Addr) (c : Nat) (k limit : Int) (w : World)
    (hv : Reads w V v.length (i32V v)) (hx : Reads w X x.length (i32V x)) (hvl : v.length ≤ 281474976710656) (hp : ParAt w p L) :
    Calls Tryz.prog 5 #[.slice V v.length cv, .slice X x.length cx, .int .u8 (n : Int), .agg (parV p L c), .int .i64 k, .int .i64 limit] w fun e w' => e = .returned (.bool true) ∧ Below w.heap.size w w' := by
  obtain ⟨W0, hW0⟩ : ∃ W, w.alloc (.cells (parV p L c) 28) = W := ⟨_, rfl⟩
  have HB0 : Hid (Below w.heap.size w W0) := by show Below _ _ _; rw [← hW0]; exact (Below.refl _ _).alloc (Nat.le_refl _) _
  have G0 : Hid (W0.heap[w.heap.size]? = some (.cells (parV p L c) 28 (0, 0))) := by show _ = _; rw [← hW0]; exact heap_alloc_new _ _
  have HW0 := Lib.hid hW0
  have HLI : Hid (∀ W, Calls Tryz.prog 9 #[] W fun e w' => e = .returned (.bool true) ∧ Below W.heap.size W w') := fun W => lives_any W
  have HPS : Hid (∀ W, Below W0.heap.size W0 W → PSt w.heap.size p L c W) := fun W hb => PSt.of ((hb.block _ (lt_of_block G0.out)).trans G0.out)
  obtain ⟨m, hm⟩ : ∃ m, 1 + n % 40 = m := ⟨_, rfl⟩
  have hm1 : 1 ≤ m ∧ m ≤ 40 := by omega
  have HRI : Hid (∀ W A ca, Below w.heap.size w W → ListsAt W A (List.replicate m v) → Calls Tryz.prog 17 #[.int .i64 (v.length : Int), .slice A m ca, .agg (parV p L c), .slice X x.length cx] W (SureBB (Right (v.length : Int) (List.replicate m v) p x) W)) := fun W A ca hb hl => by
    have := right_any (v.length : Int) (List.replicate m v) A ca p L c x X cx W hl (fun u hu => by rw [List.eq_of_mem_replicate hu]; exact hvl) (by rw [List.length_replicate]; omega) (hx.below hb)
    rw [List.length_replicate] at this
    exact this
  have HST : Hid (∀ W A ca, Below w.heap.size w W → ListsAt W A (List.replicate m v) → Right (v.length : Int) (List.replicate m v) p x → ∃ leaf depth : Nat, (1 ≤ v.length ∧ v.length ≤ 1024) ∧ (1 ≤ m ∧ m ≤ 40) ∧ vecE x (v.length : Int) = 0 ∧
      Calls Tryz.prog 11 #[.int .i64 (v.length : Int), .slice A m ca, .agg (parV p L c), .int .i64 3, .slice none 0 0] W (StandR W v.length m leaf depth (List.replicate m v).flatten)) := fun W A ca hb hl R => by
    obtain ⟨leaf, depth, h1, h2, h3, h4⟩ := stand3 R A ca L c W hl (hp.below hb)
    exact ⟨leaf, depth, h1, h2, h3, h4 W (Below.refl _ _)⟩
  have HV : Hid (∀ W, Below w.heap.size w W → Reads W V v.length (i32V v)) := fun W hb => hv.below hb
  have HXX : Hid (∀ W, Below w.heap.size w W → Reads W X x.length (i32V x)) := fun W hb => hx.below hb
  have hmod : ((n : Int).tmod 40) = ((n % 40 : Nat) : Int) := by rw [Int.tmod_eq_emod_of_nonneg (by omega)]; omega
  rw [par_cell] at *
  clear hv hx hp hW0
  go_enter Tryz.func5, Tryz.ntmps5
  go_wp2_with (first
    | (go_at_call 9; rw [HW0.out]; refine (HLI.out W0).mono ?_; rintro e w1 ⟨rfl, hb1⟩
       have HB01 := Lib.hid hb1
       have HB1 := Lib.hid (HB0.out.trans (hb1.mono HB0.out.size))
       clear hb1)
    | fail)
  go_loopg [14, 13] m (fun gk i l wr => ∃ (j : Nat) (A : Option Addr) (ca : Nat), gk = m - j ∧ j ≤ m ∧ i = .int .i64 (j : Int) ∧ l = .slice A j ca ∧ wr.ownsRow W0.heap.size 30 1 (.slice A j ca) j (List.replicate j (.slice V v.length cv)) ∧ Below W0.heap.size W0 wr)
  case atStart => exact ⟨0, none, 0, rfl, Nat.zero_le _, rfl, rfl, World.ownsRow_nil _ _ _ _, HB01.out⟩
  case round =>
    obtain ⟨j, A, ca, rfl, hj, rfl, rfl, ho, hb0⟩ := hrel
    have HO := Lib.hid ho
    have HBW := Lib.hid hb0
    have HB : Hid (Below w.heap.size w wr) := HB0.out.trans (hb0.mono HB0.out.size)
    clear ho hb0
    by_cases hlt : j < m
    · have hlt' : (j : Int) < 1 + (n : Int) % 40 := by omega
      have hj9 : (0 : Int) ≤ (j : Int) := by omega
      have hjb : (j : Int) ≤ 1000 := by omega
      go_wp2_with (first
        | (at_builtin; go_loud (refine Cr.append_one_at wr.heap.size rfl W0.heap.size rfl _ _ 22 30 (.slice none 0 0) 24 rfl Tryz.underlying22 Tryz.info30 rfl (by decide) (.slice A j ca) j (List.replicate j (.slice V v.length cv)) (.slice V v.length cv) rfl rfl rfl HO.out HBW.out.size (by omega) ?_)
           intro A2 c2 w3 ho3 hg3 hat3 hsz3
           have HO3 : Hid (w3.ownsRow W0.heap.size 30 1 (.slice A2 (j + 1) c2) (j + 1) (List.replicate (j + 1) (.slice V v.length cv))) := by
             show World.ownsRow _ _ _ _ _ _ _
             rw [List.replicate_succ']
             exact ho3
           have HBW3 : Hid (Below W0.heap.size W0 w3) := HBW.out.grown hg3 HBW.out.size (own_base HO.out)
           clear ho3 hg3 hat3 hsz3)
        | fail)
      go_roundg (m - (j + 1))
      case measure => omega
      case rel => exact ⟨j + 1, A2, c2, rfl, hlt, by go_num, rfl, HO3.out, HBW3.out⟩
    · obtain rfl : m = j := by omega
      have hlt' : ¬ (m : Int) < 1 + (n : Int) % 40 := by omega
      have HLS := Lib.hid (lists_rep HO.out (HV.out wr HB.out))
      obtain ⟨d0, d1, d2, d3, d4, d5⟩ := HPS.out wr HBW.out
      have hg : (0 ≤ k ∧ k ≤ 1000 ∧ 1 ≤ limit ∧ limit ≤ 1000) ∨ ((k < 0) ∨ (0 ≤ k ∧ 1000 < k) ∨ (0 ≤ k ∧ k ≤ 1000 ∧ limit < 1) ∨ (0 ≤ k ∧ k ≤ 1000 ∧ 1 ≤ limit ∧ 1000 < limit)) := by omega
      rcases hg with hg | hg
      · obtain ⟨g1, g2, g3, g4⟩ := hg
        obtain ⟨k, rfl⟩ := Int.eq_ofNat_of_zero_le g1
        obtain ⟨limit, rfl⟩ := Int.eq_ofNat_of_zero_le (show 0 ≤ limit by omega)
        go_wp2_with (first
          | (go_at_call 14
             refine (HQ2.out w4 HB34.out).mono ?_
             rintro e w5 ⟨A5, c5, m5, rfl, hm5, hr5, hb5⟩
             subst hm5
             have HR5 := Lib.hid hr5
             have HR45 := Lib.hid (HR4.out.below hb5)
             have HB5 := Lib.hid (HB4.out.trans (hb5.mono HB4.out.size))
             have hmin : ((lb.length : Int) == min (k : Int) (m : Int)) = true := by have := HLB.out.1; rw [beq_iff_eq]; omega
             clear hr5 hb5)
          | (go_at_call 14
             refine HQ1.out.mono ?_
             rintro e w4 ⟨A4, c4, m4, rfl, hm4, hr4, hb4⟩
             subst hm4
             have HR4 := Lib.hid hr4
             have HB34 := Lib.hid hb4
             have HB4 := Lib.hid (HB3.out.trans (hb4.mono HB3.out.size))
             clear HQ1 hr4 hb4)
          | (go_at_call 11
             have HR := Lib.hid (HBO.out (by first | rfl | trivial))
             obtain ⟨leaf, depth, hd, hnn, hve, hcl⟩ := HST.out w2 A ca HB2.out HLS2.out HR.out
             refine hcl.mono ?_
             rintro e w3 ⟨y, b, TA, tc, ts, rfl, hy, hb3⟩
             have HB3 := Lib.hid (HB2.out.trans (hb3.mono HB2.out.size))
             go_loud (have HQ1 : Hid (Calls Tryz.prog 14 #[.pointer (some ⟨y, 0, none⟩), .slice X x.length cx, .int .i64 (k : Int), .int .i64 (limit : Int)] w3 (QueryPost w3 (ansQ (List.replicate m v).flatten v.length m ts x k limit))) :=
               query_any w3 w2.heap.size y b v.length m leaf depth (List.replicate m v).flatten TA tc ts hy.st hy.tr hy.nodes x X cx (HXX.out w3 HB3.out) hve k limit (by omega) (by omega))
             go_loud (have HQ2 : Hid (∀ W, Below w3.heap.size w3 W → Calls Tryz.prog 14 #[.pointer (some ⟨y, 0, none⟩), .slice X x.length cx, .int .i64 (k : Int), .int .i64 (m : Int)] W (QueryPost W (ansQ (List.replicate m v).flatten v.length m ts x k m))) := fun W hb =>
               query_any W w2.heap.size y b v.length m leaf depth (List.replicate m v).flatten TA tc ts (hy.below hb).st (hy.below hb).tr (hy.below hb).nodes x X cx (HXX.out W (HB3.out.trans (hb.mono HB3.out.size))) hve k m (by omega) (by omega))
             go_loud (have HLA := Lib.hid (And.intro (sameAns_any (x := x) k limit hy.st.fr.ok hy.tr) (ans_of (F := (List.replicate m v).flatten) (v := x) k limit hy.st.fr.ok hy.tr).len))
             go_loud (have HLB := Lib.hid (same_all (x := x) k hy.st.fr.ok hy.tr))
             obtain ⟨la, hla⟩ : ∃ la, ansQ (List.replicate m v).flatten v.length m ts x k limit = la := ⟨_, rfl⟩
             obtain ⟨lb, hlb⟩ : ∃ lb, ansQ (List.replicate m v).flatten v.length m ts x k m = lb := ⟨_, rfl⟩
             obtain ⟨f0, hf0⟩ : ∃ f0, farL v x = f0 := ⟨_, rfl⟩
             rw [hla] at HQ1 HLA
             rw [hlb] at HQ2 HLB
             rw [hf0] at HLA HLB
             have HNN := Lib.hid hnn
             clear hla hlb hf0 hd hnn hve hcl hy hb3)
          | (go_at_call 17
             refine (HRI.out wr A ca HB.out HLS.out).mono ?_
             rintro e w2 ⟨⟨bo, rfl, hbo⟩, hb2⟩
             have HB2 := Lib.hid (HB.out.trans (hb2.mono HB.out.size))
             have HLS2 := Lib.hid (HLS.out.below hb2)
             obtain ⟨q0, q1, q2, q3, q4, q5⟩ := HPS.out w2 (HBW.out.trans (hb2.mono HBW.out.size))
             have HBO := Lib.hid hbo
             clear hb2 hbo d0 d1 d2 d3 d4 d5
             cases bo)
          | fail)
        · go_ret
          exact ⟨rfl, HB2.out⟩
        · have hne : ((lb.length : Int) != min (k : Int) (m : Int)) = false := by rw [bne, hmin]; rfl
          rw [hne]
          clear hmin hne
          go_loopg [20] la.length (fun gk i wr => ∃ j nn : Nat, gk = la.length - j ∧ j ≤ la.length ∧ i = .int .i64 (j : Int) ∧ wr = w5.drewN nn)
          case atStart => exact ⟨0, 0, rfl, Nat.zero_le _, rfl, rfl⟩
          case round =>
            obtain ⟨j, nn, rfl, hj, rfl, hwr⟩ := hrel
            have HBR : Hid (Below w5.heap.size w5 wr) := by show Below _ _ _; rw [hwr]; exact bel_drewN (Below.refl _ _) nn
            have HRA := Lib.hid (HR45.out.below HBR.out)
            have HRB := Lib.hid (HR5.out.below HBR.out)
            have HN2 : Hid (∃ nn, wr = w5.drewN nn) := ⟨nn, hwr⟩
            clear hwr
            by_cases hlt : j < la.length
            · have hlb : 0 < lb.length := by have := HLB.out.1; have := HLA.out.2; have := HNN.out; omega
              obtain ⟨ga, rfl⟩ := HRA.out.addr (by omega)
              obtain ⟨gb, rfl⟩ := HRB.out.addr hlb
              obtain ⟨a0, a1⟩ := HRA.out.two j hlt
              obtain ⟨b0, b1⟩ := HRB.out.two 0 hlb
              obtain ⟨id, hid, hres⟩ := HLA.out.1.mem j hlt
              have hres0 := HLB.out.2 0 hlb
              have hlt' : (j : Int) < (la.length : Int) := by omega
              have hlb' : (0 : Int) < (lb.length : Int) := by omega
              have hj9 : (0 : Int) ≤ (j : Int) := by omega
              have hjb : (j : Int) ≤ 1000 := by have := HLA.out.2; omega
              have HPR : Hid (∀ q (hq : q + 1 = j), wr.cell? ⟨ga, q * 2, none⟩ = some (.int .i64 ((la[q]'(by omega)).getD 0 0)) ∧ (la[q]'(by omega)).getD 0 0 < (id : Int)) := fun q hq =>
                ⟨(HRA.out.two q (by omega)).1, by subst hq; have := HLA.out.1.up q hlt; rw [hres] at this; simpa using this⟩
              rw [hres] at a0 a1
              rw [hres0] at b1
              have a0' : wr.cell? ⟨ga, j * 2, none⟩ = some (.int .i64 (id : Int)) := by simpa using a0
              have a1' : wr.cell? ⟨ga, j * 2 + 1, none⟩ = some (.int .i64 f0) := by simpa using a1
              have b1' : wr.cell? ⟨gb, 1, none⟩ = some (.int .i64 f0) := by simpa using b1
              have hff : (f0 == f0) = true := by simp
              clear a0 a1 b0 b1 hres hres0
              by_cases hj0 : j = 0
              · have hjz : decide ((0 : Int) < (j : Int)) = false := by rw [decide_eq_false_iff_not]; omega
                have hjy : decide (0 < j) = false := by rw [decide_eq_false_iff_not]; omega
                have HJ := Lib.hid hj0
                clear hj0
                go_wp2_with (go_quiet (fail))
                go_roundg (la.length - (j + 1))
                case measure => omega
                case rel => obtain ⟨n0, hn0⟩ := HN2.out; exact ⟨j + 1, _, rfl, hlt, by go_num, by rw [hn0, World.drewN_drewN]⟩
              · obtain ⟨q, hq⟩ : ∃ q, q + 1 = j := ⟨j - 1, by omega⟩
                obtain ⟨b0, hor⟩ := HPR.out q hq
                have hw : IntKind.i64.wrap ((j : Int) - 1) = (q : Int) := by rw [IntKind.wrap_i64]; omega
                have hq9 : (0 : Int) ≤ (q : Int) := by omega
                have hq1 : (q : Int) < (la.length : Int) := by omega
                have hj1 : (0 : Int) < (j : Int) := by omega
                have hj2 : 0 < j := by omega
                have hj3 : decide (0 < j) = true := by rw [decide_eq_true_iff]; omega
                obtain ⟨pI, hpI⟩ : ∃ pI, (la[q]'(by omega)).getD 0 0 = pI := ⟨_, rfl⟩
                rw [hpI] at b0 hor
                have hx3 : decide ((id : Int) ≤ pI) = false := by rw [decide_eq_false_iff_not]; omega
                clear hpI hor
                have HJ := Lib.hid hq
                clear hq hj0
                go_wp2_with (go_quiet (fail))
                go_roundg (la.length - (j + 1))
                case measure => omega
                case rel => obtain ⟨n0, hn0⟩ := HN2.out; exact ⟨j + 1, _, rfl, hlt, by go_num, by rw [hn0, World.drewN_drewN]⟩
            · obtain rfl : j = la.length := by omega
              go_wp2_with fail
              go_loopg [21] lb.length (fun gk i wq => ∃ j nn : Nat, gk = lb.length - j ∧ j ≤ lb.length ∧ i = .int .i64 (j : Int) ∧ wq = w5.drewN nn)
              case atStart => obtain ⟨n0, hn0⟩ := HN2.out; exact ⟨0, n0, rfl, Nat.zero_le _, rfl, hn0⟩
              case round =>
                obtain ⟨j, nn, rfl, hj, rfl, hwr⟩ := hrel
                have HBQ : Hid (Below w5.heap.size w5 wr) := by show Below _ _ _; rw [hwr]; exact bel_drewN (Below.refl _ _) nn
                have HRC := Lib.hid (HR5.out.below HBQ.out)
                have HN3 : Hid (∃ nn, wr = w5.drewN nn) := ⟨nn, hwr⟩
                clear hwr
                by_cases hlt2 : j < lb.length
                · obtain ⟨gb, rfl⟩ := HRC.out.addr (by omega)
                  obtain ⟨b0, b1⟩ := HRC.out.two 0 (by omega)
                  obtain ⟨c0, c1⟩ := HRC.out.two j hlt2
                  have hres := HLB.out.2 j hlt2
                  have hres0 := HLB.out.2 0 (by omega)
                  have hlt' : (j : Int) < (lb.length : Int) := by omega
                  have hlb' : (0 : Int) < (lb.length : Int) := by omega
                  have hj9 : (0 : Int) ≤ (j : Int) := by omega
                  have hjb : (j : Int) ≤ 1000 := by have := HLB.out.1; omega
                  rw [hres] at c0 c1
                  rw [hres0] at b1
                  have c0' : wr.cell? ⟨gb, j * 2, none⟩ = some (.int .i64 (j : Int)) := by simpa using c0
                  have c1' : wr.cell? ⟨gb, j * 2 + 1, none⟩ = some (.int .i64 f0) := by simpa using c1
                  have b1' : wr.cell? ⟨gb, 1, none⟩ = some (.int .i64 f0) := by simpa using b1
                  have hff : (f0 == f0) = true := by simp
                  have hjj : ((j : Int) == (j : Int)) = true := by simp
                  clear c0 c1 b0 b1 hres hres0
                  go_wp2_with (go_quiet (fail))
                  go_roundg (lb.length - (j + 1))
                  case measure => omega
                  case rel => obtain ⟨n0, hn0⟩ := HN3.out; exact ⟨j + 1, _, rfl, hlt2, by go_num, by rw [hn0, World.drewN_drewN]⟩
                · obtain rfl : j = lb.length := by omega
                  go_wp2
                  go_ret
                  exact ⟨rfl, HB5.out.trans (HBQ.out.mono HB5.out.size)⟩
      · rcases hg with hg | ⟨g1, hg⟩ | ⟨g1, g2, hg⟩ | ⟨g1, g2, g3, hg⟩
        all_goals
          go_wp2_with (first
            | (go_at_call 17
               refine (HRI.out wr A ca HB.out HLS.out).mono ?_
               rintro e w2 ⟨⟨bo, rfl, hbo⟩, hb2⟩
               have HB2 := Lib.hid (HB.out.trans (hb2.mono HB.out.size))
               clear hb2 hbo
               cases bo)
            | fail)
          all_goals go_ret
          all_goals exact ⟨rfl, HB2.out⟩
theorem same_law8 (v x : List Int) (V X : Option Addr) (cv cx : Nat) (n : Int) (hn : (Lit.int .u8 n).wf = true) (p : Par) (L : Option Addr) (c : Nat) (k limit : Int) (w : World)
    (hv : Reads w V v.length (i32V v)) (hx : Reads w X x.length (i32V x)) (hvl : v.length ≤ reachBytes) (hp : ParAt w p L) :
    Calls Tryz.prog 5 #[.slice V v.length cv, .slice X x.length cx, .int .u8 n, .agg (parV p L c), .int .i64 k, .int .i64 limit] w fun e w' => e = .returned (.bool true) ∧ Below w.heap.size w w' := by
  have h8 : 0 ≤ n ∧ n ≤ 255 := by
    have a : IntKind.u8.min = 0 := by decide
    have b : IntKind.u8.max = 255 := by decide
    simp only [Lit.wf, a, b] at hn
    simpa using hn
  obtain ⟨n, rfl⟩ := Int.eq_ofNat_of_zero_le h8.1
  exact same_law v x V X cv cx n (by omega) p L c k limit w hv hx (Nat.le_trans hvl (by decide)) hp
end Go.Proofs.YtladmconpolneaaGreat

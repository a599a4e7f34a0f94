/- TopNearer, walked. -/
import Derived.Test.YtladmconpolneaaGreatMt
set_option linter.unusedVariables false
set_option linter.unusedSimpArgs false
namespace Go.Proofs.YtladmconpolneaaGreat
open Go.RowKit
set_option maxRecDepth 100000 in
set_option maxHeartbeats 3200000 in
theorem nearer_law (dim : Int) (vs : List (List Int)) (A : Option Addr) (ca : Nat) (p : Par) (L : Option Addr) (c : Nat) (v : List Int) (V : Option Addr) (cv : Nat) (k limit : Int) (w : World)
    (h : ListsAt w A vs) (hs : Small vs) (hn : vs.length ≤ 281474976710656) (hp : ParAt w p L) (hv : Reads w V v.length (i32V v)) :
    Calls Tryz.prog 6 #[.int .i64 dim, .slice A vs.length ca, .agg (parV p L c), .slice V v.length cv, .int .i64 k, .int .i64 limit] w fun e w' => e = .returned (.bool true) ∧ Below w.heap.size w w' := by
  obtain ⟨W0, hW0⟩ : ∃ W, w.alloc (.cells (parV p L c) 28) = W := ⟨_, rfl⟩
  have HB0 : Hid (Below w.heap.size w W0) := by show Below _ _ _; rw [← hW0]; exact (Below.refl _ _).alloc (Nat.le_refl _) _
  have G0 : Hid (W0.heap[w.heap.size]? = some (.cells (parV p L c) 28 (0, 0))) := by show _ = _; rw [← hW0]; exact heap_alloc_new _ _
  have HW0 := Lib.hid hW0
  have HLI : Hid (∀ W, Calls Tryz.prog 9 #[] W fun e w' => e = .returned (.bool true) ∧ Below W.heap.size W w') := fun W => lives_any W
  have HPS : Hid (∀ W, Below W0.heap.size W0 W → PSt w.heap.size p L c W) := fun W hb => PSt.of ((hb.block _ (lt_of_block G0.out)).trans G0.out)
  have HRI : Hid (∀ W, Below w.heap.size w W → Calls Tryz.prog 17 #[.int .i64 dim, .slice A vs.length ca, .agg (parV p L c), .slice V v.length cv] W (SureBB (Right dim vs p v) W)) := fun W hb => right_any dim vs A ca p L c v V cv W (h.below hb) hs hn (hv.below hb)
  have HST : Hid (∀ W, Right dim vs p v → Below w.heap.size w W → ∃ d leaf depth trees : Nat, dim = (d : Int) ∧ (1 ≤ d ∧ d ≤ 1024) ∧ Nums p leaf depth trees ∧ trees ≤ 6 ∧ (1 ≤ vs.length ∧ vs.length ≤ 40) ∧ vecE v d = 0 ∧ okL d vs ∧
      ∀ W', Below W.heap.size W W' → Calls Tryz.prog 11 #[.int .i64 dim, .slice A vs.length ca, .agg (parV p L c), .int .i64 0, .slice none 0 0] W' (StandR W' d vs.length leaf depth vs.flatten)) := fun W R hb => stand0 R A ca L c W (h.below hb) (hp.below hb)
  have HV : Hid (∀ W, Below w.heap.size w W → Reads W V v.length (i32V v)) := fun W hb => hv.below hb
  have HIT : Hid (∀ W (d : Nat), Below w.heap.size w W → vs.length ≤ 40 → 1 ≤ d ∧ d ≤ 1024 → okL d vs → Calls Tryz.prog 18 #[.int .i64 (d : Int), .slice A vs.length ca] W fun e w' => ∃ b, e = .returned (.pointer (some ⟨b, 0, none⟩)) ∧ ItemsAt w' W.heap.size b d vs.length vs.flatten ∧ Below W.heap.size W w') := fun W d hb hn hd hok => by
    refine (items_any (d : Int) vs A ca W (h.below hb) (by omega)).mono ?_
    rintro e w' ⟨hb', ⟨rfl, hno⟩ | ⟨b, rfl, h1, h2, h3, h4⟩⟩
    · exact absurd ⟨by omega, by omega, by simpa using hok⟩ hno
    · exact ⟨b, rfl, by simpa using h4, hb'⟩
  rw [par_cell] at *
  have hg : (0 ≤ k ∧ k ≤ 1000 ∧ 1 ≤ limit ∧ limit ≤ 1000) ∨ ((k < 0) ∨ (0 ≤ k ∧ 1000 < k) ∨ (0 ≤ k ∧ k ≤ 1000 ∧ limit < 1) ∨ (0 ≤ k ∧ k ≤ 1000 ∧ 1 ≤ limit ∧ 1000 < limit)) := by omega
  clear h hs hn hp hv hW0
  rcases hg with hg | hg
  · obtain ⟨g1, g2, g3, g4⟩ := hg
    obtain ⟨k, rfl⟩ := Int.eq_ofNat_of_zero_le g1
    obtain ⟨limit, rfl⟩ := Int.eq_ofNat_of_zero_le (show 0 ≤ limit by omega)
    go_enter Tryz.func6, Tryz.ntmps6
    go_wp2_with (first
      | (go_at_call 14
         refine HQ1.out.mono ?_
         rintro e w5 ⟨A5, c5, m5, rfl, hm5, hr5, hb5⟩
         subst hm5
         have HR5 := Lib.hid hr5
         have HI5 := Lib.hid (HI4.out.below hb5)
         have HB5 := Lib.hid (HB4.out.trans (hb5.mono HB4.out.size))
         have hle1 : ¬ (k : Int) < (la.length : Int) := by have := HLA.out.len.1; omega
         have hle2 : ¬ (la.length : Int) < min (min (k : Int) (limit : Int)) (vs.length : Int) := by have := HLA.out.len.2; omega
         clear hr5 hb5)
      | (go_at_call 18
         refine (HIT.out w3 d HB3.out HNN.out HD.out HOK.out).mono ?_
         rintro e w4 ⟨y, rfl, hi, hb4⟩
         have HI4 := Lib.hid hi
         have HB4 := Lib.hid (HB3.out.trans (hb4.mono HB3.out.size))
         have HX4 := Lib.hid (HX.out.below hb4)
         have HQ1 : Hid (Calls Tryz.prog 14 #[.pointer (some ⟨x, 0, none⟩), .slice V v.length cv, .int .i64 (k : Int), .int .i64 (limit : Int)] w4 (QueryPost w4 (ansQ vs.flatten d vs.length ts v k limit))) :=
           query_any w4 w2.heap.size x b d vs.length leaf depth vs.flatten TA tc ts HX4.out.st HX4.out.tr HX4.out.nodes v V cv (HV.out w4 HB4.out) HVE.out k limit (by omega) (by omega)
         have HLA := Lib.hid (ans_of (F := vs.flatten) (v := v) (dim := d) (n := vs.length) (ts := ts) k limit HX.out.st.fr.ok HX.out.tr)
         obtain ⟨la, hla⟩ : ∃ la, ansQ vs.flatten d vs.length ts v k limit = la := ⟨_, rfl⟩
         rw [hla] at HQ1 HLA
         clear hi hb4 hla)
      | (go_at_call 11
         have HR := Lib.hid (HBO.out (by first | rfl | trivial))
         obtain ⟨d, leaf, depth, trees, rfl, hd, N, ht6, hnn, hve, hok, hcl⟩ := HST.out w2 HR.out HB2.out
         refine (hcl w2 (Below.refl _ _)).mono ?_
         rintro e w3 ⟨x, b, TA, tc, ts, rfl, hx, hb3⟩
         have HX := Lib.hid hx
         have HB3 := Lib.hid (HB2.out.trans (hb3.mono HB2.out.size))
         have HVE := Lib.hid hve
         have HOK := Lib.hid hok
         have HD := Lib.hid hd
         have HNN := Lib.hid hnn.2
         clear hd N ht6 hnn hve hok hcl hx hb3)
      | (go_at_call 17; rw [HW0.out] at *; refine (HRI.out w1 HB1.out).mono ?_; rintro e w2 ⟨⟨bo, rfl, hbo⟩, hb2⟩
         have HB2 := Lib.hid (HB1.out.trans (hb2.mono HB1.out.size))
         obtain ⟨q0, q1, q2, q3, q4, q5⟩ := HPS.out w2 (HB01.out.trans (hb2.mono HB01.out.size))
         have HBO := Lib.hid hbo
         clear hb2 hbo d0 d1 d2 d3 d4 d5
         cases bo)
      | (go_at_call 9; rw [HW0.out]; refine (HLI.out W0).mono ?_; rintro e w1 ⟨rfl, hb1⟩
         have HB01 := Lib.hid hb1
         have HB1 := Lib.hid (HB0.out.trans (hb1.mono HB0.out.size))
         obtain ⟨d0, d1, d2, d3, d4, d5⟩ := HPS.out w1 hb1
         clear hb1)
      | fail)
    · go_ret
      exact ⟨rfl, HB2.out⟩
    all_goals
      clear hle1 hle2
      first
        | rw [show decide (la.length < vs.length) = false by rw [decide_eq_false_iff_not]; have := HLA.out.len.2; omega]
        | rw [show decide (la.length < limit) = false by rw [decide_eq_false_iff_not]; have := HLA.out.len.2; omega]
        | rw [show decide (la.length < k) = false by rw [decide_eq_false_iff_not]; have := HLA.out.len.2; omega]
      go_loopg [17] la.length (fun gk i wr => ∃ j nn : Nat, gk = la.length - j ∧ j ≤ la.length ∧ i = .int .i64 (j : Int) ∧ wr = w5.drewN nn)
      case atStart => exact ⟨0, 0, rfl, Nat.zero_le _, rfl, rfl⟩
      case round =>
        obtain ⟨j, nn, rfl, hj, rfl, hwr⟩ := hrel
        have HBR : Hid (Below w5.heap.size w5 wr) := by show Below _ _ _; rw [hwr]; exact bel_drewN (Below.refl _ _) nn
        have HRR := Lib.hid (HR5.out.below HBR.out)
        have HNN : Hid (∃ nn, wr = w5.drewN nn) := ⟨nn, hwr⟩
        clear hwr
        by_cases hlt : j < la.length
        · obtain ⟨g, rfl⟩ := HRR.out.addr (by omega)
          obtain ⟨a0, a1⟩ := HRR.out.two j hlt
          obtain ⟨id, hid, hres⟩ := HLA.out.mem _ (List.getElem_mem hlt)
          have hlt' : (j : Int) < (la.length : Int) := by omega
          have hj9 : (0 : Int) ≤ (j : Int) := by omega
          have hjb : (j : Int) ≤ 1000 := by have := HLA.out.len.1; omega
          have HF : Hid (∀ m, Calls Tryz.prog 19 #[.pointer (some ⟨y, 0, none⟩), .int .i64 (id : Int), .slice V v.length cv] (wr.drewN m) fun e w' => e = .returned (.int .i64 (farL (rowL vs.flatten d id) v)) ∧ ∃ n2, w' = (wr.drewN m).drewN n2) := fun m =>
            ifar_any (wr.drewN m) (HI5.out.below (bel_drewN HBR.out m)) id hid V cv (HV.out _ (bel_drewN (HB5.out.trans (HBR.out.mono HB5.out.size)) m)) (vecE_ok HVE.out).2
          have e0 : (la[j]).getD 0 0 = (id : Int) := by rw [hres]; rfl
          have e1 : (la[j]).getD 1 0 = farL (rowL vs.flatten d id) v := by rw [hres]; rfl
          have HS : Hid (∀ q (hq : q + 1 = j), nearE (la[q]'(by omega)) la[j] = true) := fun q hq => List.pairwise_iff_getElem.1 HLA.out.sorted q j (by omega) hlt (by omega)
          have HPR : Hid (∀ q (hq : q + 1 = j), wr.cell? ⟨g, q * 2, none⟩ = some (.int .i64 ((la[q]'(by omega)).getD 0 0)) ∧ wr.cell? ⟨g, q * 2 + 1, none⟩ = some (.int .i64 ((la[q]'(by omega)).getD 1 0)) ∧ ((la[q]'(by omega)).getD 1 0 < (la[j]).getD 1 0 ∨ ((la[q]'(by omega)).getD 1 0 = (la[j]).getD 1 0 ∧ (la[q]'(by omega)).getD 0 0 < (la[j]).getD 0 0))) := fun q hq =>
            ⟨(HRR.out.two q (by omega)).1, (HRR.out.two q (by omega)).2, nearE_to (HS.out q hq)⟩
          rw [e0] at a0 HPR
          rw [e1] at a1 HPR
          have hid0 : ¬ (id : Int) < 0 := by omega
          have hid1 : (id : Int) < (vs.length : Int) := by omega
          generalize farL (rowL vs.flatten d id) v = fv at *
          have hff : (fv == fv) = true := by simp
          clear e0 e1 hres HS
          by_cases hj0 : j = 0
          · have hjz : decide ((0 : Int) < (j : Int)) = false := by rw [decide_eq_false_iff_not]; omega
            have hjy : decide (0 < j) = false := by rw [decide_eq_false_iff_not]; omega
            have HJ := Lib.hid hj0
            clear hj0
            go_wp2_with (go_quiet ((go_at_call 19; exact Calls.quiet_of (HF.out _))))
            go_roundg (la.length - (j + 1))
            case measure => omega
            case rel => obtain ⟨n0, hn0⟩ := HNN.out; exact ⟨j + 1, _, rfl, hlt, by go_num, by rw [hn0, World.drewN_drewN]⟩
          · obtain ⟨q, hq⟩ : ∃ q, q + 1 = j := ⟨j - 1, by omega⟩
            obtain ⟨b0, b1, hor⟩ := HPR.out q hq
            have hw : IntKind.i64.wrap ((j : Int) - 1) = (q : Int) := by rw [IntKind.wrap_i64]; omega
            have hq9 : (0 : Int) ≤ (q : Int) := by omega
            have hq1 : (q : Int) < (la.length : Int) := by omega
            have hj1 : (0 : Int) < (j : Int) := by omega
            have hj2 : 0 < j := by omega
            have hj3 : decide (0 < j) = true := by rw [decide_eq_true_iff]; omega
            obtain ⟨pI, hpI⟩ : ∃ pI, (la[q]'(by omega)).getD 0 0 = pI := ⟨_, rfl⟩
            obtain ⟨pF, hpF⟩ : ∃ pF, (la[q]'(by omega)).getD 1 0 = pF := ⟨_, rfl⟩
            rw [hpI] at b0 hor
            rw [hpF] at b1 hor
            clear hpI hpF
            have HJ := Lib.hid hq
            clear hq hj0
            rcases hor with hor | ⟨hor1, hor2⟩
            · have hx1 : decide (fv < pF) = false := by rw [decide_eq_false_iff_not]; omega
              have hx2 : (pF == fv) = false := by simp; omega
              clear hor
              go_wp2_with (go_quiet ((go_at_call 19; exact Calls.quiet_of (HF.out _))))
              go_roundg (la.length - (j + 1))
              case measure => omega
              case rel => obtain ⟨n0, hn0⟩ := HNN.out; exact ⟨j + 1, _, rfl, hlt, by go_num, by rw [hn0, World.drewN_drewN]⟩
            · have hx1 : decide (fv < pF) = false := by rw [decide_eq_false_iff_not]; omega
              have hx2 : (pF == fv) = true := by simp; omega
              have hx3 : decide ((id : Int) ≤ pI) = false := by rw [decide_eq_false_iff_not]; omega
              clear hor1 hor2
              go_wp2_with (go_quiet ((go_at_call 19; exact Calls.quiet_of (HF.out _))))
              go_roundg (la.length - (j + 1))
              case measure => omega
              case rel => obtain ⟨n0, hn0⟩ := HNN.out; exact ⟨j + 1, _, rfl, hlt, by go_num, by rw [hn0, World.drewN_drewN]⟩
        · obtain rfl : j = la.length := by omega
          go_wp2
          go_ret
          exact ⟨rfl, HB5.out.trans (HBR.out.mono HB5.out.size)⟩
  · rcases hg with hg | ⟨g1, hg⟩ | ⟨g1, g2, hg⟩ | ⟨g1, g2, g3, hg⟩
    all_goals
      go_enter Tryz.func6, Tryz.ntmps6
      go_wp2_with (first
        | (go_at_call 17; refine (HRI.out w1 HB1.out).mono ?_; rintro e w2 ⟨⟨bo, rfl, hbo⟩, hb2⟩
           have HB2 := Lib.hid (HB1.out.trans (hb2.mono HB1.out.size))
           clear hb2 hbo
           cases bo)
        | (go_at_call 9; rw [HW0.out]; refine (HLI.out W0).mono ?_; rintro e w1 ⟨rfl, hb1⟩
           have HB01 := Lib.hid hb1
           have HB1 := Lib.hid (HB0.out.trans (hb1.mono HB0.out.size))
           obtain ⟨d0, d1, d2, d3, d4, d5⟩ := HPS.out w1 hb1
           clear hb1)
        | fail)
      all_goals go_ret
      all_goals exact ⟨rfl, HB2.out⟩
end Go.Proofs.YtladmconpolneaaGreat

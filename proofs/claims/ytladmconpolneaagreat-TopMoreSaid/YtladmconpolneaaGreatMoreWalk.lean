/- TopMore, walked. -/
import Derived.Test.YtladmconpolneaaGreatMt
set_option linter.unusedVariables false
set_option linter.unusedSimpArgs false
namespace Go.Proofs.YtladmconpolneaaGreat
open Go.RowKit
set_option maxRecDepth 100000 in
set_option maxHeartbeats 3200000 in
theorem more_law (dim : Int) (vs : List (List Int)) (A : Option Addr) (ca : Nat) (p : Par) (L : Option Addr) (c : Nat) (v : List Int) (V : Option Addr) (cv : Nat) (k limit more : Int) (w : World)
    (h : ListsAt w A vs) (hs : Small vs) (hn : vs.length ≤ 281474976710656) (hp : ParAt w p L) (hv : Reads w V v.length (i32V v)) :
    Calls Tryz.prog 4 #[.int .i64 dim, .slice A vs.length ca, .agg (parV p L c), .slice V v.length cv, .int .i64 k, .int .i64 limit, .int .i64 more] w fun e w' => e = .returned (.bool true) ∧ Below w.heap.size w w' := by
  obtain ⟨W0, hW0⟩ : ∃ W, w.alloc (.cells (parV p L c) 28) = W := ⟨_, rfl⟩
  have HB0 : Hid (Below w.heap.size w W0) := by show Below _ _ _; rw [← hW0]; exact (Below.refl _ _).alloc (Nat.le_refl _) _
  have G0 : Hid (W0.heap[w.heap.size]? = some (.cells (parV p L c) 28 (0, 0))) := by show _ = _; rw [← hW0]; exact heap_alloc_new _ _
  have HW0 := Lib.hid hW0
  have HLI : Hid (∀ W, Calls Tryz.prog 9 #[] W fun e w' => e = .returned (.bool true) ∧ Below W.heap.size W w') := fun W => lives_any W
  have HPS : Hid (∀ W, Below W0.heap.size W0 W → PSt w.heap.size p L c W) := fun W hb => PSt.of ((hb.block _ (lt_of_block G0.out)).trans G0.out)
  have HRI : Hid (∀ W, Below w.heap.size w W → Calls Tryz.prog 17 #[.int .i64 dim, .slice A vs.length ca, .agg (parV p L c), .slice V v.length cv] W (SureBB (Right dim vs p v) W)) := fun W hb => right_any dim vs A ca p L c v V cv W (h.below hb) hs hn (hv.below hb)
  have HST : Hid (∀ W, Right dim vs p v → Below w.heap.size w W → ∃ d leaf depth trees : Nat, dim = (d : Int) ∧ (1 ≤ d ∧ d ≤ 1024) ∧ Nums p leaf depth trees ∧ trees ≤ 6 ∧ (1 ≤ vs.length ∧ vs.length ≤ 40) ∧ vecE v d = 0 ∧ okL d vs ∧
      ∀ W', Below W.heap.size W W' → Calls Tryz.prog 11 #[.int .i64 dim, .slice A vs.length ca, .agg (parV p L c), .int .i64 0, .slice none 0 0] W' (StandR W' d vs.length leaf depth vs.flatten)) := fun W R hb => stand0 R A ca L c W (h.below hb) (hp.below hb)
  have HV : Hid (∀ W, Below w.heap.size w W → Reads W V v.length (i32V v)) := fun W hb => hv.below hb
  rw [par_cell] at *
  have hg : (0 ≤ k ∧ k ≤ 1000 ∧ 1 ≤ limit ∧ limit ≤ 1000 ∧ 0 ≤ more ∧ more ≤ 1000) ∨ ((k < 0) ∨ (0 ≤ k ∧ 1000 < k) ∨ (0 ≤ k ∧ k ≤ 1000 ∧ limit < 1) ∨ (0 ≤ k ∧ k ≤ 1000 ∧ 1 ≤ limit ∧ 1000 < limit) ∨ (0 ≤ k ∧ k ≤ 1000 ∧ 1 ≤ limit ∧ limit ≤ 1000 ∧ more < 0) ∨ (0 ≤ k ∧ k ≤ 1000 ∧ 1 ≤ limit ∧ limit ≤ 1000 ∧ 0 ≤ more ∧ 1000 < more)) := by omega
  clear h hs hn hp hv hW0
  rcases hg with hg | hg
  · obtain ⟨g1, g2, g3, g4, g5, g6⟩ := hg
    obtain ⟨k, rfl⟩ := Int.eq_ofNat_of_zero_le g1
    obtain ⟨limit, rfl⟩ := Int.eq_ofNat_of_zero_le (show 0 ≤ limit by omega)
    obtain ⟨more, rfl⟩ := Int.eq_ofNat_of_zero_le g5
    go_enter Tryz.func4, Tryz.ntmps4
    go_wp2_with (first
      | (go_at_call 11
         have HR := Lib.hid (HBO.out (by first | rfl | trivial))
         obtain ⟨d, leaf, depth, trees, rfl, hd, N, ht6, hnn, hve, hok, hcl⟩ := HST.out w2 HR.out HB2.out
         refine (hcl w2 (Below.refl _ _)).mono ?_
         rintro e w3 ⟨x, b, TA, tc, ts, rfl, hx, hb3⟩
         have HX := Lib.hid hx
         have HB3 := Lib.hid (HB2.out.trans (hb3.mono HB2.out.size))
         have HVE := Lib.hid hve
         have HQU : Hid (∀ W (lim : Nat), 1 ≤ lim → lim ≤ 60000 → Below w3.heap.size w3 W → Calls Tryz.prog 14 #[.pointer (some ⟨x, 0, none⟩), .slice V v.length cv, .int .i64 (k : Int), .int .i64 (lim : Int)] W (QueryPost W (ansQ vs.flatten d vs.length ts v k lim))) := fun W lim h1 h2 hb =>
           query_any W w2.heap.size x b d vs.length leaf depth vs.flatten TA tc ts (HX.out.below hb).st HX.out.tr HX.out.nodes v V cv (HV.out W (HB3.out.trans (hb.mono HB3.out.size))) HVE.out k lim (by omega) ⟨h1, h2⟩
         have HMO := Lib.hid (ans_more (F := vs.flatten) (v := v) (dim := d) (n := vs.length) (ts := ts) k limit (limit + more) (Nat.le_add_right _ _) HX.out.st.fr.ok HX.out.tr)
         have HLE : Hid ((ansQ vs.flatten d vs.length ts v k limit).length ≤ k) := (ans_of (F := vs.flatten) (v := v) (dim := d) (n := vs.length) (ts := ts) k limit HX.out.st.fr.ok HX.out.tr).len.1
         have HQ2 : Hid (∀ W, Below w3.heap.size w3 W → Calls Tryz.prog 14 #[.pointer (some ⟨x, 0, none⟩), .slice V v.length cv, .int .i64 (k : Int), .int .i64 ((limit : Int) + (more : Int))] W (QueryPost W (ansQ vs.flatten d vs.length ts v k (limit + more)))) := fun W hb => by
           have := HQU.out W (limit + more) (by omega) (by omega) hb
           rwa [Int.natCast_add] at this
         have HQ1 := Lib.hid (HQU.out w3 limit (by omega) (by omega) (Below.refl _ _))
         obtain ⟨la, hla⟩ : ∃ la, ansQ vs.flatten d vs.length ts v k limit = la := ⟨_, rfl⟩
         obtain ⟨lb, hlb⟩ : ∃ lb, ansQ vs.flatten d vs.length ts v k (limit + more) = lb := ⟨_, rfl⟩
         rw [hla, hlb] at HMO
         rw [hla] at HLE
         rw [hla] at HQ1
         rw [hlb] at HQ2
         clear hd N ht6 hnn hve hok hcl hx hb3 HQU hla hlb)
      | (go_at_call 14
         refine (HQ2.out w4 HB34.out).mono ?_
         rintro e w5 ⟨A5, c5, m5, rfl, hm5, hr5, hb5⟩
         subst hm5
         have HR5 := Lib.hid hr5
         have HR45 := Lib.hid (HR4.out.below hb5)
         have HB5 := Lib.hid (HB4.out.trans (hb5.mono HB4.out.size))
         have hle : ¬ (lb.length : Int) < (la.length : Int) := by have := HMO.out.1; omega
         clear hr5 hb5)
      | (go_at_call 14
         refine HQ1.out.mono ?_
         rintro e w4 ⟨A4, c4, m4, rfl, hm4, hr4, hb4⟩
         subst hm4
         have HR4 := Lib.hid hr4
         have HB34 := Lib.hid hb4
         have HB4 := Lib.hid (HB3.out.trans (hb4.mono HB3.out.size))
         clear hr4 hb4)
      | (go_at_call 17; rw [HW0.out] at *; refine (HRI.out w1 HB1.out).mono ?_; rintro e w2 ⟨⟨bo, rfl, hbo⟩, hb2⟩
         have HB2 := Lib.hid (HB1.out.trans (hb2.mono HB1.out.size))
         obtain ⟨q0, q1, q2, q3, q4, q5⟩ := HPS.out w2 (HB01.out.trans (hb2.mono HB01.out.size))
         have HBO := Lib.hid hbo
         clear hb2 hbo d0 d1 d2 d3 d4 d5
         cases bo)
      | (go_at_call 9; rw [HW0.out]; refine (HLI.out W0).mono ?_; rintro e w1 ⟨rfl, hb1⟩
         have HB01 := Lib.hid hb1
         have HB1 := Lib.hid (HB0.out.trans (hb1.mono HB0.out.size))
         obtain ⟨d0, d1, d2, d3, d4, d5⟩ := HPS.out w1 hb1
         clear hb1)
      | fail)
    · go_ret
      exact ⟨rfl, HB2.out⟩
    · clear hle
      have hdec : decide (lb.length < la.length) = false := by rw [decide_eq_false_iff_not]; have := HMO.out.1; omega
      rw [hdec]
      clear hdec
      go_loopg [20] la.length (fun gk i wr => ∃ j nn : Nat, gk = la.length - j ∧ j ≤ la.length ∧ i = .int .i64 (j : Int) ∧ wr = w5.drewN nn)
      case atStart => exact ⟨0, 0, rfl, Nat.zero_le _, rfl, rfl⟩
      case round =>
        obtain ⟨j, nn, rfl, hj, rfl, rfl⟩ := hrel
        by_cases hlt : j < la.length
        · have hlb : j < lb.length := by have := HMO.out.1; omega
          obtain ⟨ga, rfl⟩ := HR45.out.addr (by omega)
          obtain ⟨gb, rfl⟩ := HR5.out.addr (by omega)
          obtain ⟨a0, a1⟩ := HR45.out.two j hlt
          obtain ⟨b0, b1⟩ := HR5.out.two j hlb
          obtain ⟨n1, n2⟩ := nearE_of (HMO.out.2 j hlt hlb)
          have hlt' : (j : Int) < (la.length : Int) := by omega
          have hlb' : (j : Int) < (lb.length : Int) := by omega
          have hj9 : (0 : Int) ≤ (j : Int) := by omega
          have hjb : (j : Int) ≤ 1000 := by have := HLE.out; omega
          generalize (la[j]).getD 0 0 = aI at *
          generalize (la[j]).getD 1 0 = aF at *
          generalize (lb[j]).getD 0 0 = bI at *
          generalize (lb[j]).getD 1 0 = bF at *
          by_cases he : aF = bF
          · have n3 := n2 he
            have he' : (bF == aF) = true := by simp [he]
            have N2 := Lib.hid n2
            clear n2 he
            go_wp2_with (go_quiet (fail))
            go_roundg (la.length - (j + 1))
            case measure => omega
            case rel => exact ⟨j + 1, _, rfl, hlt, by go_num, rfl⟩
          · have he' : (bF == aF) = false := by simpa using fun e => he e.symm
            clear n2 he
            go_wp2_with (go_quiet (fail))
            go_roundg (la.length - (j + 1))
            case measure => omega
            case rel => exact ⟨j + 1, _, rfl, hlt, by go_num, rfl⟩
        · obtain rfl : j = la.length := by omega
          go_wp2
          go_ret
          exact ⟨rfl, bel_drewN HB5.out _⟩
  · rcases hg with hg | ⟨g1, hg⟩ | ⟨g1, g2, hg⟩ | ⟨g1, g2, g3, hg⟩ | ⟨g1, g2, g3, g4, hg⟩ | ⟨g1, g2, g3, g4, g5, hg⟩
    all_goals
      go_enter Tryz.func4, Tryz.ntmps4
      go_wp2_with (first
        | (go_at_call 17; refine (HRI.out w1 HB1.out).mono ?_; rintro e w2 ⟨⟨bo, rfl, hbo⟩, hb2⟩
           have HB2 := Lib.hid (HB1.out.trans (hb2.mono HB1.out.size))
           clear hb2 hbo
           cases bo)
        | (go_at_call 9; rw [HW0.out]; refine (HLI.out W0).mono ?_; rintro e w1 ⟨rfl, hb1⟩
           have HB01 := Lib.hid hb1
           have HB1 := Lib.hid (HB0.out.trans (hb1.mono HB0.out.size))
           obtain ⟨d0, d1, d2, d3, d4, d5⟩ := HPS.out w1 hb1
           clear hb1)
        | fail)
      all_goals go_ret
      all_goals exact ⟨rfl, HB2.out⟩
end Go.Proofs.YtladmconpolneaaGreat

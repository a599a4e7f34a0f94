/- Several texts of this seat, laid together (no statement of its own): their conditions stand in each theorem. -/
import Derived.Test.YtladmconpolneaaGreatMr
import Derived.Test.YtladmconpolneaaGreatMp
import Derived.Test.YtladmconpolneaaGreatMq
import Derived.Test.YtladmconpolneaaGreatMm
/- index: Query. -/
set_option linter.unusedVariables false
set_option linter.unusedSimpArgs false
namespace Go.Proofs.YtladmconpolneaaGreat
open Go.RowKit
theorem RT.of_ownsRow {w : World} {base n c : Nat} {e : TypeId} {A : Option Addr} {xs : List Value} (h : w.ownsRow base e 1 (.slice A n c) n xs) : RT w e A n xs := RT.of_own h
/-- What a query met. -/
def metQ (n : Nat) (ts : List (List Node)) (v : List Int) (limit : Nat) : List Nat := metTo (grun ts v limit (nodesN ts + 1) (gs0 ts.length)).X n
/-- What a query answers. -/
def ansQ (F : List Int) (dim n : Nat) (ts : List (List Node)) (v : List Int) (k limit : Nat) : List El := outL (selL k ((metQ n ts v limit).map (resE F v dim)))
def QueryPost (w : World) (l : List El) (e : Ending) (w' : World) : Prop := ∃ A c m, e = .returned (.tuple #[.slice A m c, .int .i64 0]) ∧ l.length = m ∧ RowAt w' w.heap.size 54 2 (.slice A m c) l ∧ Below w.heap.size w w'
def Q3 (x k4 k5 k6 : Nat) (Av : Option Addr) (nv cv : Nat) (k : Int) (W : World) : Prop :=
  W.cell? ⟨k4, 0, none⟩ = some (.pointer (some ⟨x, 0, none⟩)) ∧ W.cell? ⟨k5, 0, none⟩ = some (.slice Av nv cv) ∧ W.cell? ⟨k6, 0, none⟩ = some (.int .i64 k)
set_option maxRecDepth 100000 in
set_option maxHeartbeats 3200000 in
theorem query_any (w : World) (B x b dim n leaf depth : Nat) (F : List Int) (TA : Option Addr) (tc : Nat) (ts : List (List Node)) (h : StandAt w B x b dim n leaf depth F TA tc ts) (htr : ∀ t ∈ ts, ∃ bt : BT, t = bt.nodes 0 ∧ ∀ i, i < n → i ∈ bt.ids) (hN : nodesN ts ≤ 10000)
    (v : List Int) (Av : Option Addr) (cv : Nat) (hv : Reads w Av v.length (i32V v)) (hve : vecE v dim = 0) (k limit : Nat) (hk : k ≤ 60000) (hl : 1 ≤ limit ∧ limit ≤ 60000) :
    Calls Tryz.prog 14 #[.pointer (some ⟨x, 0, none⟩), .slice Av v.length cv, .int .i64 (k : Int), .int .i64 (limit : Int)] w (QueryPost w (ansQ F dim n ts v k limit)) := by
  obtain ⟨hvl, hvb⟩ := vecE_ok hve
  have hn := h.fr.n
  have hex : exactE n dim v (k : Int) = 0 := by unfold exactE; rw [if_neg (by omega), if_pos hve, if_neg (by omega)]
  obtain ⟨W0, hW0⟩ : ∃ W, ((w.alloc (.cells #[.pointer (some ⟨x, 0, none⟩)] 33)).alloc (.cells #[.slice Av v.length cv] 30)).alloc (.cells #[.int .i64 (k : Int)] 3) = W := ⟨_, rfl⟩
  have HB0 : Hid (Below w.heap.size w W0) := by show Below _ _ _; rw [← hW0]; exact (((Below.refl _ _).alloc (Nat.le_refl _) _).alloc (by simp) _).alloc (by simp; omega) _
  have G4 : Hid (W0.heap[w.heap.size]? = some (.cells #[.pointer (some ⟨x, 0, none⟩)] 33 (0, 0))) := by show _ = _; rw [← hW0, Below.heap_alloc _ _ _ (by simp; omega), Below.heap_alloc _ _ _ (by simp)]; exact heap_alloc_new _ _
  have G5 : Hid (W0.heap[w.heap.size + 1]? = some (.cells #[.slice Av v.length cv] 30 (0, 0))) := by show _ = _; rw [← hW0, Below.heap_alloc _ _ _ (by simp)]; exact alloc_at0 _ _ _ (by simp)
  have G6 : Hid (W0.heap[w.heap.size + 1 + 1]? = some (.cells #[.int .i64 (k : Int)] 3 (0, 0))) := by show _ = _; rw [← hW0]; exact alloc_at0 _ _ _ (by simp)
  have HSZ : Hid (W0.heap.size = w.heap.size + 3) := by show _ = _; rw [← hW0]; simp
  have hst : ∀ W, Below W0.heap.size W0 W → StandAt W B x b dim n leaf depth F TA tc ts := fun W hb => (h.below HB0.out).below hb
  have hrt : ∀ W, Below W0.heap.size W0 W → Reads W Av v.length (i32V v) := fun W hb => (hv.below HB0.out).below hb
  have HQ : Hid (∀ W, Below W0.heap.size W0 W → XS x b leaf depth TA ts.length tc W ∧ Q3 x w.heap.size (w.heap.size + 1) (w.heap.size + 1 + 1) Av v.length cv (k : Int) W) := fun W hb => ⟨XS.of (hst W hb), cell_of_row _ _ _ _ _ _ ((hb.block _ (lt_of_block G4.out)).trans G4.out), cell_of_row _ _ _ _ _ _ ((hb.block _ (lt_of_block G5.out)).trans G5.out), cell_of_row _ _ _ _ _ _ ((hb.block _ (lt_of_block G6.out)).trans G6.out)⟩
  have HFI : Hid (∀ W g, Below W0.heap.size W0 W → W.heap[g]? = some (.cells #[.func (.func 37) #[] #[.pointer (some ⟨w.heap.size, 0, none⟩), .pointer (some ⟨w.heap.size + 1, 0, none⟩)], .func (.func 39) #[] #[.pointer (some ⟨w.heap.size, 0, none⟩), .pointer (some ⟨w.heap.size + 1, 0, none⟩), .pointer (some ⟨w.heap.size + 1 + 1, 0, none⟩)]] 96 (0, 0)) →
      Calls Tryz.prog 36 #[.slice (some ⟨g, 0, none⟩) 2 2] W fun e w' => e = .returned (.int .i64 0) ∧ Below W.heap.size W w') := fun W g hb hg => by
    have := ifirst_any W g _ _ (vecE v dim) (exactE n dim v (k : Int)) hg
      (fun W' hb' => look1_any W' B x b dim n leaf depth F TA tc ts (hst W' (hb.trans (hb'.mono hb.size))) v Av cv (hrt W' (hb.trans (hb'.mono hb.size))) _ _ (((hb.trans (hb'.mono hb.size)).block _ (lt_of_block G4.out)).trans G4.out) (((hb.trans (hb'.mono hb.size)).block _ (lt_of_block G5.out)).trans G5.out))
      (fun W' hb' => look2_any W' B x b dim n leaf depth F TA tc ts (hst W' (hb.trans (hb'.mono hb.size))) v Av cv (hrt W' (hb.trans (hb'.mono hb.size))) (k : Int) _ _ _ (((hb.trans (hb'.mono hb.size)).block _ (lt_of_block G4.out)).trans G4.out) (((hb.trans (hb'.mono hb.size)).block _ (lt_of_block G5.out)).trans G5.out) (((hb.trans (hb'.mono hb.size)).block _ (lt_of_block G6.out)).trans G6.out))
    rw [hve, hex] at this
    exact this
  have HGA : Hid (∀ W, Below W0.heap.size W0 W → Calls Tryz.prog 41 #[frV b leaf depth TA ts.length tc, .slice Av v.length cv, .int .i64 (limit : Int)] W (GatherPost W n (grun ts v limit (nodesN ts + 1) (gs0 ts.length)))) := fun W hb =>
    gather_any W B b dim n leaf depth F TA tc ts (hst W hb).fr (fun t ht => (htr t ht).imp fun bt q => q.1) hN v Av cv (hrt W hb) hve (bd_up hvb) limit hl
  have hmet := met_of v limit h.fr.ok htr
  have HRK : Hid (∀ W Ai ci, Below W0.heap.size W0 W → RT W 3 Ai (metQ n ts v limit).length (natV (metQ n ts v limit)) → Calls Tryz.prog 42 #[.pointer (some ⟨b, 0, none⟩), .slice Av v.length cv, .int .i64 (k : Int), .slice Ai (metQ n ts v limit).length ci] W (RankPost W (selL k ((metQ n ts v limit).map (resE F v dim))))) := fun W Ai ci hb hr =>
    rank_any W B b dim n F v Av cv k (metQ n ts v limit) Ai ci (hst W hb).fr.it (hrt W hb) hvb hex hr hmet.sorted hmet.lt (by have := hmet.min.2; have := hn.2; unfold metQ; omega) hk
  obtain ⟨⟨c1, c2, c3, c4, c5, c6⟩, d4, d5, d6⟩ := HQ.out W0 (Below.refl _ _)
  rw [← hW0] at c1 c2 c3 c4 c5 c6 d4 d5 d6
  have HW0 := Lib.hid hW0
  have HL0 : Hid ((drainN (selL k ((metQ n ts v limit).map (resE F v dim))) (selL k ((metQ n ts v limit).map (resE F v dim))).length).length = (selL k ((metQ n ts v limit).map (resE F v dim))).length) := drainN_length _ _
  have HANS : Hid (ansQ F dim n ts v k limit = outL (selL k ((metQ n ts v limit).map (resE F v dim)))) := rfl
  have hl0 : ¬ (limit : Int) = 0 := by omega
  obtain ⟨R, hR⟩ : ∃ R, metQ n ts v limit = R := ⟨_, rfl⟩
  have HR : Hid (metTo (grun ts v limit (nodesN ts + 1) (gs0 ts.length)).X n = R) := hR
  rw [hR] at HRK HL0 HANS
  obtain ⟨Z, hZ⟩ : ∃ Z, ansQ F dim n ts v k limit = Z := ⟨_, rfl⟩
  rw [hZ] at HANS ⊢
  obtain ⟨S, hS⟩ : ∃ S, selL k (R.map (resE F v dim)) = S := ⟨_, rfl⟩
  rw [hS] at HRK HL0 HANS
  obtain ⟨GR, hGR⟩ : ∃ GR, grun ts v limit (nodesN ts + 1) (gs0 ts.length) = GR := ⟨_, rfl⟩
  rw [hGR] at HGA HR
  clear h htr hN hv hve hk hl hvl hvb hn hex hW0 hst hrt hmet hR hZ hS hGR
  go_enter Tryz.func14, Tryz.ntmps14
  go_wp2_with (first
    | (go_at_call 36; rw [HW0.out]
       refine (HFI.out _ (w.heap.size + 3) ((Below.refl _ _).alloc (Nat.le_refl _) _) (alloc_at0 _ _ _ HSZ.out)).mono ?_
       rintro e w2 ⟨rfl, hb⟩
       have HB2 : Hid (Below W0.heap.size W0 w2) := ((Below.refl _ _).alloc (Nat.le_refl _) _).trans (hb.mono (by simp))
       obtain ⟨⟨e1, e2, e3, e4, e5, e6⟩, g4, g5, g6⟩ := HQ.out w2 HB2.out
       clear hb c1 c2 c3 c4 c5 c6 d4 d5 d6)
    | fail)
  have HGA2 : Hid (∀ m, Calls Tryz.prog 41 #[frV b leaf depth TA ts.length tc, .slice Av v.length cv, .int .i64 (limit : Int)] (w2.drewN m) (GatherPost (w2.drewN m) n GR)) := fun m => HGA.out (w2.drewN m) (bel_drewN HB2.out m)
  have HKEEP : Hid (∀ W, Below w2.heap.size w2 W → W.cell? ⟨w.heap.size, 0, none⟩ = some (.pointer (some ⟨x, 0, none⟩)) ∧ W.cell? ⟨x, 2, none⟩ = some (.pointer (some ⟨b, 0, none⟩)) ∧ W.cell? ⟨x, 3, none⟩ = some (.int .i64 (leaf : Int)) ∧ W.cell? ⟨x, 4, none⟩ = some (.int .i64 (depth : Int)) ∧ W.cell? ⟨x, 5, none⟩ = some (.slice TA ts.length tc) ∧ W.cell? ⟨w.heap.size + 1, 0, none⟩ = some (.slice Av v.length cv)) := fun W hb =>
    ⟨keepc hb g4, keepc hb e2, keepc hb e3, keepc hb e4, keepc hb e5, keepc hb g5⟩
  have HBN : Hid (Below w2.heap.size w2 w2) := Below.refl _ _
  go_region_held3 (fun W => W.cell? ⟨w.heap.size, 0, none⟩ = some (.pointer (some ⟨x, 0, none⟩)) ∧ W.cell? ⟨x, 2, none⟩ = some (.pointer (some ⟨b, 0, none⟩)) ∧ W.cell? ⟨x, 3, none⟩ = some (.int .i64 (leaf : Int)) ∧ W.cell? ⟨x, 4, none⟩ = some (.int .i64 (depth : Int)) ∧ W.cell? ⟨x, 5, none⟩ = some (.slice TA ts.length tc) ∧ W.cell? ⟨w.heap.size + 1, 0, none⟩ = some (.slice Av v.length cv))
    (first | go_keep | exact HKEEP.out _ HBN.out)
    (first
      | (go_at_call 41; refine (HGA2.out 1).mono ?_; rintro e w8 ⟨A8, c8, rfl, ho8, hb⟩
         have HBM : Hid (Below w2.heap.size w2 w8) := (bel_drewN (Below.refl _ _) 1).trans hb
         have HO8 := Lib.hid ho8
         clear HBN; have HBN := HBM; clear HBM hb ho8))
  rw [HR.out] at HO8 ⊢
  have HB8 : Hid (Below W0.heap.size W0 w8) := HB2.out.trans (HBN.out.mono HB2.out.size)
  obtain ⟨⟨k1, k2, k3, k4, k5, k6⟩, l4, l5, l6⟩ := HQ.out w8 HB8.out
  have HRT : Hid (RT w8 3 A8 R.length (natV R)) := RT.of_own HO8.out
  clear e1 e2 e3 e4 e5 e6 g4 g5 g6 HKEEP HGA2
  go_wp2_with fail
  have HKEEP : Hid (∀ W, Below w8.heap.size w8 W → W.cell? ⟨w.heap.size, 0, none⟩ = some (.pointer (some ⟨x, 0, none⟩)) ∧ W.cell? ⟨x, 1, none⟩ = some (.pointer (some ⟨b, 0, none⟩)) ∧ W.cell? ⟨w.heap.size + 1, 0, none⟩ = some (.slice Av v.length cv) ∧ W.cell? ⟨w.heap.size + 1 + 1, 0, none⟩ = some (.int .i64 (k : Int))) := fun W hb =>
    ⟨keepc hb l4, keepc hb k1, keepc hb l5, keepc hb l6⟩
  have HRK2 : Hid (∀ m, Calls Tryz.prog 42 #[.pointer (some ⟨b, 0, none⟩), .slice Av v.length cv, .int .i64 (k : Int), .slice A8 R.length c8] (w8.drewN m) (RankPost (w8.drewN m) S)) := fun m => HRK.out (w8.drewN m) A8 c8 (bel_drewN HB8.out m) (HRT.out.keep fun q cs fr hq => (bel_drewN (Below.refl _ _) m).block _ (lt_of_block hq))
  clear HBN
  have HBN : Hid (Below w8.heap.size w8 w8) := Below.refl _ _
  go_region_held3 (fun W => W.cell? ⟨w.heap.size, 0, none⟩ = some (.pointer (some ⟨x, 0, none⟩)) ∧ W.cell? ⟨x, 1, none⟩ = some (.pointer (some ⟨b, 0, none⟩)) ∧ W.cell? ⟨w.heap.size + 1, 0, none⟩ = some (.slice Av v.length cv) ∧ W.cell? ⟨w.heap.size + 1 + 1, 0, none⟩ = some (.int .i64 (k : Int)))
    (first | go_keep | exact HKEEP.out _ HBN.out)
    (first
      | (go_at_call 42; refine (HRK2.out 1).mono ?_; rintro e w9 ⟨A9, c9, rfl, hr9, hb⟩
         have HBM : Hid (Below w8.heap.size w8 w9) := (bel_drewN (Below.refl _ _) 1).trans hb
         have HR9 := Lib.hid hr9
         clear HBN; have HBN := HBM; clear HBM hb hr9))
  go_wp2
  go_ret2
  refine ⟨A9, c9, S.length, rfl, ?_, ?_, ?_⟩
  · rw [HANS.out]; unfold outL; rw [List.length_map, List.length_reverse]; exact HL0.out
  · rw [HANS.out]; exact HR9.out.base (Nat.le_trans HB0.out.size HB8.out.size)
  · exact HB0.out.trans ((HB8.out.trans (HBN.out.mono HB8.out.size)).mono HB0.out.size)
end Go.Proofs.YtladmconpolneaaGreat

/- index: Query, where no limit is told: one tree, one answer. -/
set_option linter.unusedVariables false
set_option linter.unusedSimpArgs false
namespace Go.Proofs.YtladmconpolneaaGreat
open Go.RowKit
set_option maxRecDepth 100000 in
set_option maxHeartbeats 3200000 in
theorem query0_any (w : World) (B x b dim n leaf depth : Nat) (F : List Int) (TA : Option Addr) (tc : Nat) (tr : List Node) (h : StandAt w B x b dim n leaf depth F TA tc [tr]) (htr : ∀ t ∈ [tr], ∃ bt : BT, t = bt.nodes 0 ∧ ∀ i, i < n → i ∈ bt.ids) (hN : nodesN [tr] ≤ 10000)
    (v : List Int) (Av : Option Addr) (cv : Nat) (hv : Reads w Av v.length (i32V v)) (hve : vecE v dim = 0) :
    Calls Tryz.prog 14 #[.pointer (some ⟨x, 0, none⟩), .slice Av v.length cv, .int .i64 1, .int .i64 0] w (QueryPost w (ansQ F dim n [tr] v 1 1)) := by
  obtain ⟨hvl, hvb⟩ := vecE_ok hve
  have hn := h.fr.n
  have hex : exactE n dim v (1 : Int) = 0 := by unfold exactE; rw [if_neg (by omega), if_pos hve, if_neg (by omega)]
  obtain ⟨W0, hW0⟩ : ∃ W, ((w.alloc (.cells #[.pointer (some ⟨x, 0, none⟩)] 33)).alloc (.cells #[.slice Av v.length cv] 30)).alloc (.cells #[.int .i64 1] 3) = W := ⟨_, rfl⟩
  have HB0 : Hid (Below w.heap.size w W0) := by show Below _ _ _; rw [← hW0]; exact (((Below.refl _ _).alloc (Nat.le_refl _) _).alloc (by simp) _).alloc (by simp; omega) _
  have G4 : Hid (W0.heap[w.heap.size]? = some (.cells #[.pointer (some ⟨x, 0, none⟩)] 33 (0, 0))) := by show _ = _; rw [← hW0, Below.heap_alloc _ _ _ (by simp; omega), Below.heap_alloc _ _ _ (by simp)]; exact heap_alloc_new _ _
  have G5 : Hid (W0.heap[w.heap.size + 1]? = some (.cells #[.slice Av v.length cv] 30 (0, 0))) := by show _ = _; rw [← hW0, Below.heap_alloc _ _ _ (by simp)]; exact alloc_at0 _ _ _ (by simp)
  have G6 : Hid (W0.heap[w.heap.size + 1 + 1]? = some (.cells #[.int .i64 1] 3 (0, 0))) := by show _ = _; rw [← hW0]; exact alloc_at0 _ _ _ (by simp)
  have HSZ : Hid (W0.heap.size = w.heap.size + 3) := by show _ = _; rw [← hW0]; simp
  have hst : ∀ W, Below W0.heap.size W0 W → StandAt W B x b dim n leaf depth F TA tc [tr] := fun W hb => (h.below HB0.out).below hb
  have hrt : ∀ W, Below W0.heap.size W0 W → Reads W Av v.length (i32V v) := fun W hb => (hv.below HB0.out).below hb
  have HQ : Hid (∀ W, Below W0.heap.size W0 W → XS x b leaf depth TA 1 tc W ∧ Q3 x w.heap.size (w.heap.size + 1) (w.heap.size + 1 + 1) Av v.length cv 1 W) := fun W hb => ⟨XS.of (hst W hb), cell_of_row _ _ _ _ _ _ ((hb.block _ (lt_of_block G4.out)).trans G4.out), cell_of_row _ _ _ _ _ _ ((hb.block _ (lt_of_block G5.out)).trans G5.out), cell_of_row _ _ _ _ _ _ ((hb.block _ (lt_of_block G6.out)).trans G6.out)⟩
  have HFI : Hid (∀ W g, Below W0.heap.size W0 W → W.heap[g]? = some (.cells #[.func (.func 37) #[] #[.pointer (some ⟨w.heap.size, 0, none⟩), .pointer (some ⟨w.heap.size + 1, 0, none⟩)], .func (.func 39) #[] #[.pointer (some ⟨w.heap.size, 0, none⟩), .pointer (some ⟨w.heap.size + 1, 0, none⟩), .pointer (some ⟨w.heap.size + 1 + 1, 0, none⟩)]] 96 (0, 0)) →
      Calls Tryz.prog 36 #[.slice (some ⟨g, 0, none⟩) 2 2] W fun e w' => e = .returned (.int .i64 0) ∧ Below W.heap.size W w') := fun W g hb hg => by
    have := ifirst_any W g _ _ (vecE v dim) (exactE n dim v (1 : Int)) hg
      (fun W' hb' => look1_any W' B x b dim n leaf depth F TA tc [tr] (hst W' (hb.trans (hb'.mono hb.size))) v Av cv (hrt W' (hb.trans (hb'.mono hb.size))) _ _ (((hb.trans (hb'.mono hb.size)).block _ (lt_of_block G4.out)).trans G4.out) (((hb.trans (hb'.mono hb.size)).block _ (lt_of_block G5.out)).trans G5.out))
      (fun W' hb' => look2_any W' B x b dim n leaf depth F TA tc [tr] (hst W' (hb.trans (hb'.mono hb.size))) v Av cv (hrt W' (hb.trans (hb'.mono hb.size))) (1 : Int) _ _ _ (((hb.trans (hb'.mono hb.size)).block _ (lt_of_block G4.out)).trans G4.out) (((hb.trans (hb'.mono hb.size)).block _ (lt_of_block G5.out)).trans G5.out) (((hb.trans (hb'.mono hb.size)).block _ (lt_of_block G6.out)).trans G6.out))
    rw [hve, hex] at this
    exact this
  have HGA : Hid (∀ W, Below W0.heap.size W0 W → Calls Tryz.prog 41 #[frV b leaf depth TA 1 tc, .slice Av v.length cv, .int .i64 1] W (GatherPost W n (grun [tr] v 1 (nodesN [tr] + 1) (gs0 [tr].length)))) := fun W hb =>
    gather_any W B b dim n leaf depth F TA tc [tr] (hst W hb).fr (fun t ht => (htr t ht).imp fun bt q => q.1) hN v Av cv (hrt W hb) hve (bd_up hvb) 1 ⟨Nat.le_refl _, by decide⟩
  have hmet := met_of v 1 h.fr.ok htr
  have HRK : Hid (∀ W Ai ci, Below W0.heap.size W0 W → RT W 3 Ai (metQ n [tr] v 1).length (natV (metQ n [tr] v 1)) → Calls Tryz.prog 42 #[.pointer (some ⟨b, 0, none⟩), .slice Av v.length cv, .int .i64 1, .slice Ai (metQ n [tr] v 1).length ci] W (RankPost W (selL 1 ((metQ n [tr] v 1).map (resE F v dim))))) := fun W Ai ci hb hr =>
    rank_any W B b dim n F v Av cv 1 (metQ n [tr] v 1) Ai ci (hst W hb).fr.it (hrt W hb) hvb hex hr hmet.sorted hmet.lt (by have := hmet.min.2; have := hn.2; unfold metQ; omega) (by decide)
  obtain ⟨⟨c1, c2, c3, c4, c5, c6⟩, d4, d5, d6⟩ := HQ.out W0 (Below.refl _ _)
  rw [← hW0] at c1 c2 c3 c4 c5 c6 d4 d5 d6
  have HW0 := Lib.hid hW0
  have HL0 : Hid ((drainN (selL 1 ((metQ n [tr] v 1).map (resE F v dim))) (selL 1 ((metQ n [tr] v 1).map (resE F v dim))).length).length = (selL 1 ((metQ n [tr] v 1).map (resE F v dim))).length) := drainN_length _ _
  have HANS : Hid (ansQ F dim n [tr] v 1 1 = outL (selL 1 ((metQ n [tr] v 1).map (resE F v dim)))) := rfl
  obtain ⟨R, hR⟩ : ∃ R, metQ n [tr] v 1 = R := ⟨_, rfl⟩
  have HR : Hid (metTo (grun [tr] v 1 (nodesN [tr] + 1) (gs0 [tr].length)).X n = R) := hR
  rw [hR] at HRK HL0 HANS
  obtain ⟨Z, hZ⟩ : ∃ Z, ansQ F dim n [tr] v 1 1 = Z := ⟨_, rfl⟩
  rw [hZ] at HANS ⊢
  obtain ⟨S, hS⟩ : ∃ S, selL 1 (R.map (resE F v dim)) = S := ⟨_, rfl⟩
  rw [hS] at HRK HL0 HANS
  obtain ⟨GR, hGR⟩ : ∃ GR, grun [tr] v 1 (nodesN [tr] + 1) (gs0 [tr].length) = GR := ⟨_, rfl⟩
  rw [hGR] at HGA HR
  clear h htr hN hv hve hvl hvb hn hex hW0 hst hrt hmet hR hZ hS hGR
  go_enter Tryz.func14, Tryz.ntmps14
  go_wp2_with (first
    | (go_at_call 36; rw [HW0.out]
       refine (HFI.out _ (w.heap.size + 3) ((Below.refl _ _).alloc (Nat.le_refl _) _) (alloc_at0 _ _ _ HSZ.out)).mono ?_
       rintro e w2 ⟨rfl, hb⟩
       have HB2 : Hid (Below W0.heap.size W0 w2) := ((Below.refl _ _).alloc (Nat.le_refl _) _).trans (hb.mono (by simp))
       obtain ⟨⟨e1, e2, e3, e4, e5, e6⟩, g4, g5, g6⟩ := HQ.out w2 HB2.out
       clear hb c1 c2 c3 c4 c5 c6 d4 d5 d6)
    | fail)
  have HKP : Hid (∀ W, Below w2.heap.size w2 W → W.cell? ⟨w.heap.size + 1 + 1, 0, none⟩ = some (.int .i64 1) ∧ W.cell? ⟨w.heap.size, 0, none⟩ = some (.pointer (some ⟨x, 0, none⟩)) ∧ W.cell? ⟨x, 5, none⟩ = some (.slice TA 1 tc)) := fun W hb => ⟨keepc hb g6, keepc hb g4, keepc hb e5⟩
  go_region_held3 (fun W => W.cell? ⟨w.heap.size + 1 + 1, 0, none⟩ = some (.int .i64 1) ∧ W.cell? ⟨w.heap.size, 0, none⟩ = some (.pointer (some ⟨x, 0, none⟩)) ∧ W.cell? ⟨x, 5, none⟩ = some (.slice TA 1 tc))
    (first | go_keep | exact HKP.out _ (bel_drewN (Below.refl _ _) _)) (fail)
  have hmx : max (IntKind.i64.wrap 1) 1 = 1 := by decide
  have HB3 : Hid (Below W0.heap.size W0 w2.drew) := bel_drew HB2.out
  rw [hmx]
  clear e1 e2 e3 e4 e5 e6 g4 g5 g6 HKP hmx
  generalize w2.drew = w3 at *
  obtain ⟨⟨e1, e2, e3, e4, e5, e6⟩, g4, g5, g6⟩ := HQ.out w3 HB3.out
  go_wp2_with fail
  have HGA2 : Hid (∀ m, Calls Tryz.prog 41 #[frV b leaf depth TA 1 tc, .slice Av v.length cv, .int .i64 1] (w3.drewN m) (GatherPost (w3.drewN m) n GR)) := fun m => HGA.out (w3.drewN m) (bel_drewN HB3.out m)
  have HKEEP : Hid (∀ W, Below w3.heap.size w3 W → W.cell? ⟨w.heap.size, 0, none⟩ = some (.pointer (some ⟨x, 0, none⟩)) ∧ W.cell? ⟨x, 2, none⟩ = some (.pointer (some ⟨b, 0, none⟩)) ∧ W.cell? ⟨x, 3, none⟩ = some (.int .i64 (leaf : Int)) ∧ W.cell? ⟨x, 4, none⟩ = some (.int .i64 (depth : Int)) ∧ W.cell? ⟨x, 5, none⟩ = some (.slice TA 1 tc) ∧ W.cell? ⟨w.heap.size + 1, 0, none⟩ = some (.slice Av v.length cv)) := fun W hb =>
    ⟨keepc hb g4, keepc hb e2, keepc hb e3, keepc hb e4, keepc hb e5, keepc hb g5⟩
  have HBN : Hid (Below w3.heap.size w3 w3) := Below.refl _ _
  go_region_held3 (fun W => W.cell? ⟨w.heap.size, 0, none⟩ = some (.pointer (some ⟨x, 0, none⟩)) ∧ W.cell? ⟨x, 2, none⟩ = some (.pointer (some ⟨b, 0, none⟩)) ∧ W.cell? ⟨x, 3, none⟩ = some (.int .i64 (leaf : Int)) ∧ W.cell? ⟨x, 4, none⟩ = some (.int .i64 (depth : Int)) ∧ W.cell? ⟨x, 5, none⟩ = some (.slice TA 1 tc) ∧ W.cell? ⟨w.heap.size + 1, 0, none⟩ = some (.slice Av v.length cv))
    (first | go_keep | exact HKEEP.out _ HBN.out)
    (first
      | (go_at_call 41; refine (HGA2.out 1).mono ?_; rintro e w8 ⟨A8, c8, rfl, ho8, hb⟩
         have HBM : Hid (Below w3.heap.size w3 w8) := (bel_drewN (Below.refl _ _) 1).trans hb
         have HO8 := Lib.hid ho8
         clear HBN; have HBN := HBM; clear HBM hb ho8))
  rw [HR.out] at HO8 ⊢
  have HB8 : Hid (Below W0.heap.size W0 w8) := HB3.out.trans (HBN.out.mono HB3.out.size)
  obtain ⟨⟨k1, k2, k3, k4, k5, k6⟩, l4, l5, l6⟩ := HQ.out w8 HB8.out
  have HRT : Hid (RT w8 3 A8 R.length (natV R)) := RT.of_own HO8.out
  clear e1 e2 e3 e4 e5 e6 g4 g5 g6 HKEEP HGA2
  go_wp2_with fail
  have HKEEP : Hid (∀ W, Below w8.heap.size w8 W → W.cell? ⟨w.heap.size, 0, none⟩ = some (.pointer (some ⟨x, 0, none⟩)) ∧ W.cell? ⟨x, 1, none⟩ = some (.pointer (some ⟨b, 0, none⟩)) ∧ W.cell? ⟨w.heap.size + 1, 0, none⟩ = some (.slice Av v.length cv) ∧ W.cell? ⟨w.heap.size + 1 + 1, 0, none⟩ = some (.int .i64 1)) := fun W hb =>
    ⟨keepc hb l4, keepc hb k1, keepc hb l5, keepc hb l6⟩
  have HRK2 : Hid (∀ m, Calls Tryz.prog 42 #[.pointer (some ⟨b, 0, none⟩), .slice Av v.length cv, .int .i64 1, .slice A8 R.length c8] (w8.drewN m) (RankPost (w8.drewN m) S)) := fun m => HRK.out (w8.drewN m) A8 c8 (bel_drewN HB8.out m) (HRT.out.keep fun q cs fr hq => (bel_drewN (Below.refl _ _) m).block _ (lt_of_block hq))
  clear HBN
  have HBN : Hid (Below w8.heap.size w8 w8) := Below.refl _ _
  go_region_held3 (fun W => W.cell? ⟨w.heap.size, 0, none⟩ = some (.pointer (some ⟨x, 0, none⟩)) ∧ W.cell? ⟨x, 1, none⟩ = some (.pointer (some ⟨b, 0, none⟩)) ∧ W.cell? ⟨w.heap.size + 1, 0, none⟩ = some (.slice Av v.length cv) ∧ W.cell? ⟨w.heap.size + 1 + 1, 0, none⟩ = some (.int .i64 1))
    (first | go_keep | exact HKEEP.out _ HBN.out)
    (first
      | (go_at_call 42; refine (HRK2.out 1).mono ?_; rintro e w9 ⟨A9, c9, rfl, hr9, hb⟩
         have HBM : Hid (Below w8.heap.size w8 w9) := (bel_drewN (Below.refl _ _) 1).trans hb
         have HR9 := Lib.hid hr9
         clear HBN; have HBN := HBM; clear HBM hb hr9))
  go_wp2
  go_ret2
  refine ⟨A9, c9, S.length, rfl, ?_, ?_, ?_⟩
  · rw [HANS.out]; unfold outL; rw [List.length_map, List.length_reverse]; exact HL0.out
  · rw [HANS.out]; exact HR9.out.base (Nat.le_trans HB0.out.size HB8.out.size)
  · exact HB0.out.trans ((HB8.out.trans (HBN.out.mono HB8.out.size)).mono HB0.out.size)
end Go.Proofs.YtladmconpolneaaGreat

/- The first few, in order: what topk finds. Plain Lean. -/
set_option linter.unusedVariables false
set_option linter.unusedSimpArgs false
namespace Go.Proofs.YtladmconpolneaaGreat
theorem swapL_getD (l : List El) (i j m : Nat) (hi : i < l.length) (hj : j < l.length) : (swapL l i j).getD m [] = if m = j then l.getD i [] else if m = i then l.getD j [] else l.getD m [] := by
  unfold swapL
  simp only [List.getD_eq_getElem?_getD, List.getElem?_set, List.length_set]
  by_cases h1 : m = j
  · subst h1; simp [hj]
  · rw [if_neg (fun e => h1 e.symm), if_neg h1]
    by_cases h2 : m = i
    · subst h2; simp [hi]
    · rw [if_neg (fun e => h2 e.symm), if_neg h2]
/-- A comparison by which a heap may stand. -/
structure WO (lt : El → El → Bool) : Prop where
  asymm : ∀ a b, lt a b = true → lt b a = false
  ntrans : ∀ a b c, lt a b = false → lt b c = false → lt a c = false
def HeapP (lt : El → El → Bool) (l : List El) : Prop := ∀ k, 0 < k → k < l.length → lt (l.getD k []) (l.getD ((k - 1) / 2) []) = false
theorem HeapP.root {lt : El → El → Bool} {l : List El} (W : WO lt) (h : HeapP lt l) : ∀ k, k < l.length → lt (l.getD k []) (l.getD 0 []) = false := by
  intro k
  induction k using Nat.strongRecOn with
  | _ k ih =>
    intro hk
    by_cases h0 : k = 0
    · subst h0
      cases hb : lt (l.getD 0 []) (l.getD 0 []) with
      | false => rfl
      | true => rw [W.asymm _ _ hb] at hb; cases hb
    · exact W.ntrans _ _ _ (h k (by omega) hk) (ih ((k - 1) / 2) (by omega) (by omega))
def UpI (lt : El → El → Bool) (l : List El) (k : Nat) : Prop :=
  (∀ j, 0 < j → j < l.length → j ≠ k → lt (l.getD j []) (l.getD ((j - 1) / 2) []) = false) ∧ (∀ j, 0 < j → j < l.length → (j - 1) / 2 = k → 0 < k → lt (l.getD j []) (l.getD ((k - 1) / 2) []) = false)
theorem upF_heap {lt : El → El → Bool} (W : WO lt) : ∀ (f : Nat) (l : List El) (k : Nat), k < f → k < l.length → UpI lt l k → HeapP lt (upF lt f l k)
  | 0, l, k, hf, _, _ => by omega
  | f + 1, l, k, hf, hk, hi => by
    rw [upF]
    by_cases h0 : k = 0
    · rw [if_pos h0]
      intro j h1 h2
      exact hi.1 j h1 h2 (by omega)
    · rw [if_neg h0]
      by_cases hl : lt (l.getD k []) (l.getD ((k - 1) / 2) []) = true
      · rw [if_pos hl]
        have hp : (k - 1) / 2 < l.length := by omega
        refine upF_heap W f _ _ (by omega) (by rw [swapL_length]; exact hp) ⟨?_, ?_⟩
        · intro j h1 h2 h3
          rw [swapL_length] at h2
          rw [swapL_getD _ _ _ _ hk hp, swapL_getD _ _ _ _ hk hp, if_neg h3]
          by_cases h4 : j = k
          · subst h4
            rw [if_pos rfl, if_pos rfl]
            exact W.asymm _ _ hl
          · rw [if_neg h4]
            by_cases h5 : (j - 1) / 2 = (k - 1) / 2
            · rw [if_pos h5]
              have := hi.1 j h1 h2 h4
              rw [h5] at this
              exact W.ntrans _ _ _ this (W.asymm _ _ hl)
            · rw [if_neg h5]
              by_cases h6 : (j - 1) / 2 = k
              · rw [if_pos h6]
                exact hi.2 j h1 h2 h6 (by omega)
              · rw [if_neg h6]
                exact hi.1 j h1 h2 h4
        · intro j h1 h2 h3 h4
          rw [swapL_length] at h2
          rw [swapL_getD _ _ _ _ hk hp, swapL_getD _ _ _ _ hk hp]
          have g1 : ((k - 1) / 2 - 1) / 2 ≠ (k - 1) / 2 := by omega
          have g2 : ((k - 1) / 2 - 1) / 2 ≠ k := by omega
          rw [if_neg g1, if_neg g2]
          have hpp := hi.1 ((k - 1) / 2) h4 hp (by omega)
          by_cases h5 : j = (k - 1) / 2
          · omega
          · rw [if_neg h5]
            by_cases h6 : j = k
            · rw [if_pos h6]; exact hpp
            · rw [if_neg h6]
              have := hi.1 j h1 h2 h6
              rw [h3] at this
              exact W.ntrans _ _ _ this hpp
      · rw [if_neg hl]
        intro j h1 h2
        by_cases h4 : j = k
        · subst h4; simpa using hl
        · exact hi.1 j h1 h2 h4
theorem getD_append_left {l : List El} {x : El} {k : Nat} (h : k < l.length) : (l ++ [x]).getD k [] = l.getD k [] := by
  simp only [List.getD_eq_getElem?_getD, List.getElem?_append_left h]
theorem pushL_heap {lt : El → El → Bool} (W : WO lt) {l : List El} (h : HeapP lt l) (x : El) : HeapP lt (pushL lt l x) := by
  unfold pushL
  refine upF_heap W _ _ _ (by omega) (by simp) ⟨?_, ?_⟩
  · intro j h1 h2 h3
    rw [List.length_append, List.length_singleton] at h2
    rw [getD_append_left (by omega), getD_append_left (by omega)]
    exact h j h1 (by omega)
  · intro j h1 h2 h3 h4
    rw [List.length_append, List.length_singleton] at h2
    omega
def SinkI (lt : El → El → Bool) (l : List El) (k : Nat) : Prop :=
  (∀ j, 0 < j → j < l.length → (j - 1) / 2 ≠ k → lt (l.getD j []) (l.getD ((j - 1) / 2) []) = false) ∧ (∀ j, 0 < j → j < l.length → (j - 1) / 2 = k → 0 < k → lt (l.getD j []) (l.getD ((k - 1) / 2) []) = false)
theorem best_spec {lt : El → El → Bool} (W : WO lt) (l : List El) (k : Nat) (hk : k < l.length) : ∃ b, bestL lt l (bestL lt l k (2 * k + 1)) (2 * k + 2) = b ∧ b < l.length ∧ (b = k ∨ b = 2 * k + 1 ∨ b = 2 * k + 2) ∧ lt (l.getD k []) (l.getD b []) = false ∧
    (∀ j, 0 < j → j < l.length → (j - 1) / 2 = k → lt (l.getD j []) (l.getD b []) = false) := by
  have irr : ∀ a, lt a a = false := fun a => by
    cases hb : lt a a with
    | false => rfl
    | true => rw [W.asymm _ _ hb] at hb; cases hb
  obtain ⟨b1, e1, l1, c1, d1, f1⟩ : ∃ b1, bestL lt l k (2 * k + 1) = b1 ∧ b1 < l.length ∧ (b1 = k ∨ b1 = 2 * k + 1) ∧ lt (l.getD k []) (l.getD b1 []) = false ∧ (2 * k + 1 < l.length → lt (l.getD (2 * k + 1) []) (l.getD b1 []) = false) := by
    unfold bestL
    by_cases h : 2 * k + 1 < l.length ∧ lt (l.getD (2 * k + 1) []) (l.getD k []) = true
    · rw [if_pos h]
      exact ⟨_, rfl, h.1, .inr rfl, W.asymm _ _ h.2, fun _ => irr _⟩
    · rw [if_neg h]
      refine ⟨_, rfl, hk, .inl rfl, irr _, fun hl => ?_⟩
      cases hb : lt (l.getD (2 * k + 1) []) (l.getD k []) with
      | false => rfl
      | true => exact absurd ⟨hl, hb⟩ h
  rw [e1]
  unfold bestL
  by_cases h : 2 * k + 2 < l.length ∧ lt (l.getD (2 * k + 2) []) (l.getD b1 []) = true
  · rw [if_pos h]
    have h21 := W.asymm _ _ h.2
    refine ⟨_, rfl, h.1, .inr (.inr rfl), W.ntrans _ _ _ d1 h21, fun j j1 j2 j3 => ?_⟩
    have : j = 2 * k + 1 ∨ j = 2 * k + 2 := by omega
    rcases this with rfl | rfl
    · exact W.ntrans _ _ _ (f1 j2) h21
    · exact irr _
  · rw [if_neg h]
    refine ⟨_, rfl, l1, by omega, d1, fun j j1 j2 j3 => ?_⟩
    have : j = 2 * k + 1 ∨ j = 2 * k + 2 := by omega
    rcases this with rfl | rfl
    · exact f1 j2
    · cases hb : lt (l.getD (2 * k + 2) []) (l.getD b1 []) with
      | false => rfl
      | true => exact absurd ⟨j2, hb⟩ h
theorem sinkF_heap {lt : El → El → Bool} (W : WO lt) : ∀ (f : Nat) (l : List El) (k : Nat), l.length ≤ f + k → k < l.length ∨ l = [] → SinkI lt l k → HeapP lt (sinkF lt f l k)
  | 0, l, k, hf, _, hi => by
    rw [sinkF]
    intro j h1 h2
    exact hi.1 j h1 h2 (by omega)
  | f + 1, l, k, hf, hk, hi => by
    rw [sinkF]
    rcases hk with hk | rfl
    · obtain ⟨b, e, hb, hc, hd, hj⟩ := best_spec W l k hk
      rw [e]
      by_cases hbk : b = k
      · rw [if_pos hbk]
        subst hbk
        intro j h1 h2
        by_cases h3 : (j - 1) / 2 = b
        · rw [h3]; exact hj j h1 h2 h3
        · exact hi.1 j h1 h2 h3
      · rw [if_neg hbk]
        have hpb : (b - 1) / 2 = k := by omega
        refine sinkF_heap W f _ _ (by rw [swapL_length]; omega) (.inl (by rw [swapL_length]; exact hb)) ⟨?_, ?_⟩
        · intro j h1 h2 h3
          rw [swapL_length] at h2
          rw [swapL_getD _ _ _ _ hk hb, swapL_getD _ _ _ _ hk hb, if_neg h3]
          by_cases h4 : (j - 1) / 2 = k
          · rw [if_pos h4]
            by_cases h5 : j = b
            · rw [if_pos h5]; exact hd
            · rw [if_neg h5, if_neg (by omega)]
              exact hj j h1 h2 h4
          · rw [if_neg h4, if_neg (by omega)]
            by_cases h5 : j = k
            · rw [if_pos h5]
              subst h5
              exact hi.2 b (by omega) hb hpb h1
            · rw [if_neg h5]
              exact hi.1 j h1 h2 h4
        · intro j h1 h2 h3 h4
          rw [swapL_length] at h2
          rw [swapL_getD _ _ _ _ hk hb, swapL_getD _ _ _ _ hk hb, if_neg (show j ≠ b by omega), if_neg (show j ≠ k by omega), hpb, if_neg (show k ≠ b by omega), if_pos rfl]
          have := hi.1 j h1 h2 (by omega)
          rw [h3] at this
          exact this
    · have e : bestL lt [] (bestL lt [] k (2 * k + 1)) (2 * k + 2) = k := by simp [bestL]
      rw [if_pos e]
      intro j _ h2
      simp at h2
theorem popL_heap {lt : El → El → Bool} (W : WO lt) {l : List El} (h : HeapP lt l) : HeapP lt (popL lt l) := by
  unfold popL
  have hlen : ((l.set 0 (l.getD (l.length - 1) [])).take (l.length - 1)).length = l.length - 1 := by rw [List.length_take, List.length_set]; omega
  have hg : ∀ j, 0 < j → j < l.length - 1 → ((l.set 0 (l.getD (l.length - 1) [])).take (l.length - 1)).getD j [] = l.getD j [] := by
    intro j h1 h2
    simp only [List.getD_eq_getElem?_getD]
    rw [List.getElem?_take_of_lt h2, List.getElem?_set_ne (by omega)]
  refine sinkF_heap W _ _ _ (by rw [hlen]; omega) ?_ ⟨?_, fun j _ _ _ h4 => by omega⟩
  · rcases Nat.eq_zero_or_pos (l.length - 1) with h0 | h0
    · right; exact List.eq_nil_of_length_eq_zero (by rw [hlen]; exact h0)
    · left; rw [hlen]; exact h0
  · intro j h1 h2 h3
    rw [hlen] at h2
    rw [hg j h1 h2, hg _ (by omega) (by omega)]
    exact h j h1 (by omega)
/-! ### the first few -/
theorem aheadE_iff (x y : El) : aheadE x y = true ↔ (x.getD 1 0 < y.getD 1 0 ∨ (x.getD 1 0 = y.getD 1 0 ∧ (x.getD 0 0 < y.getD 0 0 ∨ (x.getD 0 0 = y.getD 0 0 ∧ x.getD 2 0 < y.getD 2 0)))) := by
  unfold aheadE nearB
  by_cases h1 : x.getD 1 0 < y.getD 1 0 ∨ (x.getD 1 0 = y.getD 1 0 ∧ x.getD 0 0 < y.getD 0 0)
  · simp only [h1, decide_true, if_true, true_iff]
    omega
  · by_cases h2 : y.getD 1 0 < x.getD 1 0 ∨ (y.getD 1 0 = x.getD 1 0 ∧ y.getD 0 0 < x.getD 0 0)
    · simp only [h1, h2, decide_true, decide_false, if_true]
      simp only [Bool.false_eq_true, if_false, false_iff]
      omega
    · simp only [h1, h2, decide_false, Bool.false_eq_true, if_false, decide_eq_true_eq]
      omega
theorem aheadE_not (x y : El) : aheadE x y = false ↔ ¬ (x.getD 1 0 < y.getD 1 0 ∨ (x.getD 1 0 = y.getD 1 0 ∧ (x.getD 0 0 < y.getD 0 0 ∨ (x.getD 0 0 = y.getD 0 0 ∧ x.getD 2 0 < y.getD 2 0)))) := by
  rw [← aheadE_iff]; simp
theorem woE : WO ltE where
  asymm := fun a b h => by
    unfold ltE at *
    rw [aheadE_iff] at h
    rw [aheadE_not]
    omega
  ntrans := fun a b c h k => by
    unfold ltE at *
    rw [aheadE_not] at *
    omega
/-- What is kept: a heap of the first few; the others are not ahead of them. -/
structure Kept1 (most : Nat) (es l : List El) : Prop where
  heap : HeapP ltE l
  len : l.length = min most es.length
  rest : ∃ r, (l ++ r).Perm es ∧ ∀ x ∈ r, ∀ y ∈ l, aheadE x y = false
theorem mem_root {lt : El → El → Bool} (W : WO lt) {x : El} {r : List El} (h : HeapP lt (x :: r)) : ∀ y ∈ x :: r, lt y x = false := by
  intro y hy
  obtain ⟨k, hk, rfl⟩ := List.getElem_of_mem hy
  have := h.root W k hk
  rwa [List.getD_eq_getElem?_getD, List.getElem?_eq_getElem hk] at this
theorem Kept1.offer {most : Nat} {es l : List El} (h : Kept1 most es l) (e : El) : Kept1 most (es ++ [e]) (offerL most l e) := by
  obtain ⟨r, hr, hb⟩ := h.rest
  unfold offerL
  by_cases hm : l.length < most
  · rw [if_pos hm]
    have hlen : es.length = l.length := by have := h.len; omega
    have hr0 : r = [] := by
      have := hr.length_eq
      rw [List.length_append] at this
      exact List.eq_nil_of_length_eq_zero (by omega)
    subst hr0
    rw [List.append_nil] at hr
    refine ⟨pushL_heap woE h.heap e, ?_, [], ?_, fun x hx => by cases hx⟩
    · have := (pushL_perm ltE l e).length_eq
      rw [this, List.length_append, List.length_append, List.length_singleton, hlen]
      omega
    · rw [List.append_nil]
      exact (pushL_perm ltE l e).trans (hr.append_right _)
  · rw [if_neg hm]
    have hlm : most ≤ es.length := by
      have := h.len
      omega
    cases l with
    | nil =>
      have h0 : most = 0 := by have := h.len; simp at hm; omega
      subst h0
      refine ⟨h.heap, by simp, es ++ [e], by simp, fun x _ y hy => by cases hy⟩
    | cons x l =>
      have hle := h.len
      dsimp only
      by_cases ha : aheadE e x = true
      · rw [if_pos ha]
        have hp := (pushL_perm ltE (popL ltE (x :: l)) e).trans ((popL_perm ltE x l).append_right [e])
        refine ⟨pushL_heap woE (popL_heap woE h.heap) e, ?_, x :: r, ?_, ?_⟩
        · rw [hp.length_eq, List.length_append, List.length_append, List.length_singleton]
          simp at hle
          omega
        · refine (hp.append_right _).trans ?_
          refine List.Perm.trans ?_ (hr.append_right [e])
          refine List.Perm.trans (List.perm_append_comm (l₁ := l ++ [e]) (l₂ := x :: r)) ?_
          have h1 : (x :: r ++ (l ++ [e])).Perm (x :: l ++ r ++ [e]) := by
            rw [List.cons_append, List.cons_append, List.cons_append, List.perm_cons, ← List.append_assoc]
            exact List.perm_append_comm.append_right _
          exact h1
        · intro z hz y hy
          have hy' := hp.mem_iff.1 hy
          rw [List.mem_append, List.mem_singleton] at hy'
          have hex : aheadE x e = false := by
            have := woE.asymm x e (show ltE x e = true from ha)
            exact this
          rw [List.mem_cons] at hz
          have key : ∀ y, y ∈ l ∨ y = e → aheadE x y = false := by
            rintro y (hy | rfl)
            · exact mem_root woE h.heap y (List.mem_cons_of_mem _ hy)
            · exact hex
          rcases hz with rfl | hz
          · exact key y hy'
          · rcases hy' with hy' | rfl
            · exact hb z hz y (List.mem_cons_of_mem _ hy')
            · have h1 := hb z hz x List.mem_cons_self
              exact woE.ntrans y x z hex h1
      · rw [if_neg ha]
        refine ⟨h.heap, ?_, r ++ [e], ?_, ?_⟩
        · rw [List.length_append, List.length_singleton, hle]; omega
        · rw [← List.append_assoc]
          exact hr.append_right _
        · intro z hz y hy
          rw [List.mem_append, List.mem_singleton] at hz
          rcases hz with hz | rfl
          · exact hb z hz y hy
          · have h1 : ltE y x = false := mem_root woE h.heap y hy
            have h2 : aheadE z x = false := by simpa using ha
            exact woE.ntrans y x z h1 h2
def entL (rs : List El) : List El := rs.zipIdx.map fun p => [p.1.getD 0 0, p.1.getD 1 0, (p.2 : Int)]
theorem entL_snoc (rs : List El) (i f : Int) : entL (rs ++ [[i, f]]) = entL rs ++ [[i, f, (rs.length : Int)]] := by
  unfold entL
  rw [List.zipIdx_append, List.map_append]
  simp
theorem entL_length (rs : List El) : (entL rs).length = rs.length := by simp [entL]
theorem entL_out (rs : List El) (h : ∀ r ∈ rs, ∃ i f, r = [i, f]) : (entL rs).map outE = rs := by
  unfold entL
  rw [List.map_map]
  apply List.ext_getElem
  · simp
  · intro k h1 h2
    obtain ⟨i, f, e⟩ := h _ (List.getElem_mem h2)
    simp [outE, e]
theorem reverseRec {motive : List El → Prop} (nil : motive []) (snoc : ∀ l a, motive l → motive (l ++ [a])) (l : List El) : motive l := by
  have h : ∀ n (l : List El), l.length = n → motive l := by
    intro n
    induction n with
    | zero => intro l hl; rw [List.eq_nil_of_length_eq_zero hl]; exact nil
    | succ n ih =>
      intro l hl
      cases hr : l.reverse with
      | nil => simp at hr; subst hr; exact nil
      | cons y s =>
        have e : l = s.reverse ++ [y] := by simpa using congrArg List.reverse hr
        subst e
        exact snoc _ _ (ih _ (by simpa using hl))
  exact h _ l rfl
theorem selL_kept (most : Nat) (rs : List El) (h : ∀ r ∈ rs, ∃ i f, r = [i, f]) : Kept1 most (entL rs) (selL most rs) := by
  induction rs using reverseRec with
  | nil => exact ⟨fun k _ hk => by simp [selL, selS] at hk, by simp [selL, selS, entL], [], .refl _, fun x hx => by cases hx⟩
  | snoc l a ih =>
    obtain ⟨i, f, rfl⟩ := h a (by simp)
    rw [selL_snoc, entL_snoc]
    exact (ih fun r hr => h r (by simp [hr])).offer _
/-! ### drained -/
theorem dropsL_heap {l : List El} (h : HeapP ltE l) : ∀ k, HeapP ltE (dropsL l k)
  | 0 => h
  | k + 1 => popL_heap woE (dropsL_heap h k)
theorem drain_spec {l : List El} (h : HeapP ltE l) : ∀ k, k ≤ l.length → (drainN l k ++ dropsL l k).Perm l ∧ (drainN l k).Pairwise (fun a b => ltE b a = false) ∧ (∀ a ∈ drainN l k, ∀ b ∈ dropsL l k, ltE b a = false)
  | 0, _ => ⟨by simp [drainN, dropsL], by simp [drainN], by simp [drainN]⟩
  | k + 1, hk => by
    obtain ⟨h1, h2, h3⟩ := drain_spec h k (by omega)
    have hh := dropsL_heap h k
    cases hd : dropsL l k with
    | nil =>
      rw [hd] at h1
      have := h1.length_eq
      simp [drainN] at this
      omega
    | cons x r =>
      rw [drainN_succ, dropsL, hd]
      rw [hd] at h1 h3 hh
      have hx : (x :: r).getD 0 [] = x := rfl
      rw [hx]
      have hp := popL_perm ltE x r
      refine ⟨?_, ?_, ?_⟩
      · refine List.Perm.trans ?_ h1
        rw [List.append_assoc]
        exact (hp.cons x).append_left _
      · rw [List.pairwise_append]
        refine ⟨h2, by simp, fun a ha b hb => ?_⟩
        rw [List.mem_singleton] at hb
        subst hb
        exact h3 a ha b List.mem_cons_self
      · intro a ha b hb
        have hb' := hp.mem_iff.1 hb
        rw [List.mem_append, List.mem_singleton] at ha
        rcases ha with ha | rfl
        · exact h3 a ha b (List.mem_cons_of_mem _ hb')
        · exact mem_root woE hh b (List.mem_cons_of_mem _ hb')
theorem drain_all {l : List El} (h : HeapP ltE l) : (drainN l l.length).Perm l ∧ (drainN l l.length).Pairwise (fun a b => ltE b a = false) := by
  obtain ⟨h1, h2, _⟩ := drain_spec h l.length (Nat.le_refl _)
  have hl := h1.length_eq
  rw [List.length_append] at hl
  have h0 : dropsL l l.length = [] := List.eq_nil_of_length_eq_zero (by rw [show (drainN l l.length).length = l.length by simp [drainN]] at hl; omega)
  rw [h0, List.append_nil] at h1
  exact ⟨h1, h2⟩
/-- One answer is ahead of another. -/
def nearE (x y : El) : Bool := nearB (x.getD 0 0) (x.getD 1 0) (y.getD 0 0) (y.getD 1 0)
/-- THE FIRST FEW, IN ORDER: out of answers with unlike ids. -/
structure First (most : Nat) (rs out : List El) : Prop where
  len : out.length = min most rs.length
  sorted : out.Pairwise (fun a b => nearE a b = true)
  rest : ∃ r, (out ++ r).Perm rs ∧ ∀ x ∈ r, ∀ y ∈ out, nearE y x = true
theorem out_first (most : Nat) (rs : List El) (h : ∀ r ∈ rs, ∃ i f, r = [i, f]) (hd : (rs.map (fun r => r.getD 0 0)).Nodup) : First most rs (outL (selL most rs)) := by
  have hk := selL_kept most rs h
  obtain ⟨r, hr, hb⟩ := hk.rest
  obtain ⟨d1, d2⟩ := drain_all hk.heap
  have hent := entL_out rs h
  have hpm : (outL (selL most rs) ++ r.map outE).Perm rs := by
    unfold outL
    rw [← List.map_append]
    refine List.Perm.trans (List.Perm.map outE ?_) (by rw [hent])
    refine List.Perm.trans (List.Perm.append_right r ((List.reverse_perm _).trans d1)) hr
  have hid : ((outL (selL most rs) ++ r.map outE).map (fun r => r.getD 0 0)).Nodup := ((hpm.map _).nodup_iff).2 hd
  have near_of : ∀ a b : El, (outE a).getD 0 0 ≠ (outE b).getD 0 0 → aheadE b a = false → nearE (outE a) (outE b) = true := by
    intro a b hne hab
    rw [aheadE_not] at hab
    unfold nearE nearB
    have e1 : (outE a).getD 0 0 = a.getD 0 0 := rfl
    have e2 : (outE b).getD 0 0 = b.getD 0 0 := rfl
    have e3 : (outE a).getD 1 0 = a.getD 1 0 := rfl
    have e4 : (outE b).getD 1 0 = b.getD 1 0 := rfl
    rw [e1, e2] at hne
    rw [e1, e2, e3, e4, decide_eq_true_eq]
    omega
  rw [List.map_append, List.nodup_append] at hid
  refine ⟨?_, ?_, r.map outE, hpm, ?_⟩
  · unfold outL
    rw [List.length_map, List.length_reverse, d1.length_eq, hk.len, entL_length]
  · unfold outL at hid ⊢
    have hn := hid.1
    rw [List.map_map] at hn
    have hn' := List.pairwise_map.1 hn
    rw [List.pairwise_map]
    have hs := List.pairwise_reverse.2 d2
    refine (hs.and hn').imp ?_
    rintro a b ⟨h1, h2⟩
    exact near_of a b h2 (show aheadE b a = false from h1)
  · intro x hx y hy
    obtain ⟨x', hx', rfl⟩ := List.mem_map.1 hx
    unfold outL at hy
    obtain ⟨y', hy', rfl⟩ := List.mem_map.1 hy
    have hy2 : y' ∈ selL most rs := d1.mem_iff.1 (List.mem_reverse.1 hy')
    refine near_of y' x' (fun e => ?_) (hb x' hx' y' hy2)
    refine hid.2.2 ((outE y').getD 0 0) ?_ ((outE x').getD 0 0) ?_ e
    · exact List.mem_map.2 ⟨outE y', by unfold outL; exact List.mem_map.2 ⟨y', hy', rfl⟩, rfl⟩
    · exact List.mem_map.2 ⟨outE x', hx, rfl⟩
theorem nearE_trans {a b c : El} (h : nearE a b = true) (k : nearE b c = true) : nearE a c = true := by
  unfold nearE nearB at *
  rw [decide_eq_true_eq] at *
  omega
theorem nearE_irrefl (a : El) : nearE a a = false := by
  unfold nearE nearB
  simp
theorem nodup_sub : ∀ (l m : List El), l.Nodup → l ⊆ m → l.length ≤ m.length
  | [], m, _, _ => Nat.zero_le _
  | a :: l, m, hd, h => by
    have ha : a ∈ m := h List.mem_cons_self
    rw [List.nodup_cons] at hd
    have h1 := List.length_erase_of_mem ha
    have h0 : 0 < m.length := List.length_pos_of_mem ha
    have := nodup_sub l (m.erase a) hd.2 fun x hx => (List.mem_erase_of_ne (fun (e : x = a) => hd.1 (e ▸ hx))).2 (h (List.mem_cons_of_mem _ hx))
    rw [List.length_cons]
    omega
/-- WHO CHOOSES OUT OF MORE FINDS NOTHING WORSE. -/
theorem First.more {most : Nat} {rs rs' out out' : List El} (h : First most rs out) (h' : First most rs' out') (hsub : ∀ x ∈ rs, x ∈ rs') (hlen : rs.length ≤ rs'.length) :
    out.length ≤ out'.length ∧ ∀ k (h1 : k < out.length) (h2 : k < out'.length), nearE out[k] out'[k] = false := by
  have hl : out.length ≤ out'.length := by rw [h.len, h'.len]; omega
  refine ⟨hl, fun k h1 h2 => ?_⟩
  cases hn : nearE out[k] out'[k] with
  | false => rfl
  | true =>
    exfalso
    obtain ⟨r', p', b'⟩ := h'.rest
    have hmem : ∀ j (hj : j < k + 1), out[j]'(by omega) ∈ out'.take k := by
      intro j hj
      have hjk : nearE (out[j]'(by omega)) out'[k] = true := by
        rcases Nat.lt_or_ge j k with hlt | hge
        · exact nearE_trans (List.pairwise_iff_getElem.1 h.sorted j k (by omega) h1 hlt) hn
        · have : j = k := by omega
          subst this
          exact hn
      obtain ⟨r, p, _⟩ := h.rest
      have m1 : out[j]'(by omega) ∈ rs := p.mem_iff.1 (List.mem_append_left _ (List.getElem_mem _))
      have m2 := p'.mem_iff.2 (hsub _ m1)
      rcases List.mem_append.1 m2 with m3 | m3
      · obtain ⟨i, hi, e⟩ := List.getElem_of_mem m3
        rcases Nat.lt_or_ge i k with hlt | hge
        · rw [← e, List.mem_take_iff_getElem]
          exact ⟨i, by omega, rfl⟩
        · exfalso
          rw [← e] at hjk
          rcases Nat.lt_or_ge k i with hki | hki
          · have := nearE_trans hjk (List.pairwise_iff_getElem.1 h'.sorted k i h2 hi hki)
            rw [nearE_irrefl] at this; cases this
          · have : i = k := by omega
            subst this
            rw [nearE_irrefl] at hjk; cases hjk
      · exfalso
        have := nearE_trans hjk (b' _ m3 _ (List.getElem_mem h2))
        rw [nearE_irrefl] at this; cases this
    have hnd : (out.take (k + 1)).Nodup := by
      refine List.Nodup.sublist (List.take_sublist _ _) ?_
      exact h.sorted.imp fun {a b} hab e => by subst e; rw [nearE_irrefl] at hab; cases hab
    have hsubset : (out.take (k + 1)) ⊆ out'.take k := by
      intro x hx
      rw [List.mem_take_iff_getElem] at hx
      obtain ⟨i, hi, rfl⟩ := hx
      exact hmem i (by omega)
    have := nodup_sub _ _ hnd hsubset
    rw [List.length_take, List.length_take] at this
    omega
end Go.Proofs.YtladmconpolneaaGreat

/- A built index may be asked; the tree of two items. Plain Lean. -/
set_option linter.unusedVariables false
set_option linter.unusedSimpArgs false
namespace Go.Proofs.YtladmconpolneaaGreat
open Go.RowKit
theorem nodesN_le (ts : List (List Node)) (m : Nat) (h : ∀ t ∈ ts, t.length ≤ m) : nodesN ts ≤ ts.length * m := by
  unfold nodesN
  induction ts with
  | nil => simp
  | cons t ts ih =>
    have h1 := h t List.mem_cons_self
    have h2 := ih fun x hx => h x (List.mem_cons_of_mem _ hx)
    rw [List.map_cons, List.sum_cons, List.length_cons, Nat.add_mul]
    omega
structure Ready (w : World) (B x b dim n leaf depth : Nat) (F : List Int) (TA : Option Addr) (tc : Nat) (ts : List (List Node)) : Prop where
  st : StandAt w B x b dim n leaf depth F TA tc ts
  tr : ∀ t ∈ ts, ∃ bt : BT, t = bt.nodes 0 ∧ ∀ i, i < n → i ∈ bt.ids
  nodes : nodesN ts ≤ 10000
theorem Ready.below {w W : World} {B x b dim n leaf depth : Nat} {F : List Int} {TA : Option Addr} {tc : Nat} {ts : List (List Node)} (h : Ready w B x b dim n leaf depth F TA tc ts) (hb : Below w.heap.size w W) : Ready W B x b dim n leaf depth F TA tc ts := ⟨h.st.below hb, h.tr, h.nodes⟩
theorem fok_of {dim n leaf depth : Nat} {F : List Int} {ts : List (List Node)} (hlen : F.length = n * dim) (hb : Bd 1048576 F) (hd : dim ≤ 1024) (hts : 1 ≤ ts.length ∧ ts.length ≤ 256) (hn : 1 ≤ n ∧ n ≤ 20000) (hl : 1 ≤ leaf) (hdp : depth ≤ 64) (hr : ∀ t ∈ ts, Reach F dim leaf depth n t []) : FOk ts n dim depth :=
  ⟨hts, fun t ht => (fine_of hlen hb hd hl hdp hn.1 hn.2 (hr t ht)).elim fun _ f => f.tok, fun t ht => (fine_of hlen hb hd hl hdp hn.1 hn.2 (hr t ht)).elim fun _ f => f.vk, fun t ht => (fine_of hlen hb hd hl hdp hn.1 hn.2 (hr t ht)).elim fun _ f => f.vd⟩
theorem ready_of {w : World} {B x b dim n leaf depth : Nat} {F : List Int} {TA : Option Addr} {tc : Nat} {ts : List (List Node)} (h : BxAt w B x b dim n leaf depth F TA tc ts) (hts : 1 ≤ ts.length ∧ ts.length ≤ 6) (hn : 1 ≤ n ∧ n ≤ 40) (hl : 1 ≤ leaf ∧ leaf ≤ 1024) (hdp : depth ≤ 64) : Ready w B x b dim n leaf depth F TA tc ts := by
  have hf : ∀ t ∈ ts, ∃ bt, Fine F dim leaf depth n t bt := fun t ht => fine_of h.items.len h.items.bd h.items.hdim.2 hl.1 hdp hn.1 (by omega) (h.reach t ht)
  refine ⟨⟨h.box, ⟨h.items, h.forest, fok_of h.items.len h.items.bd h.items.hdim.2 ⟨hts.1, by omega⟩ ⟨hn.1, by omega⟩ hl.1 hdp h.reach, hl, hdp, ⟨hn.1, by omega⟩, h.items.hdim⟩⟩, fun t ht => ?_, ?_⟩
  · obtain ⟨bt, f⟩ := hf t ht
    refine ⟨bt, f.nodes, fun i hi => (good_perm f.good).mem_iff.2 (by simpa using hi)⟩
  · have := nodesN_le ts 80 fun t ht => by
      obtain ⟨bt, f⟩ := hf t ht
      have h1 := f.size
      have h2 := f.leaves
      omega
    have := hts.2
    omega
/-! ### the tree of two items -/
theorem two_tree {ns : List Node} (h : Reach [0, 9] 1 1 9 2 ns []) : ansQ [0, 9] 1 2 [ns] [8] 1 1 = [[1, 1]] := by
  obtain ⟨t, hg, rfl⟩ := reach_tree h
  have key : t = .split [-9] (-81) (.leaf [1]) (.leaf [0]) ∨ t = .split [9] 81 (.leaf [0]) (.leaf [1]) := by
    cases hg with
    | leaf ids d h => rcases h with h | h <;> exact absurd h (by decide)
    | split ids d nrm off L R l r h hc hl hr =>
      have hlr : ∀ (a : Nat) (t : BT), Good [0, 9] 1 1 9 t [a] 1 → t = .leaf [a] := fun a t hg => by
        cases hg with
        | leaf ids d h => rfl
        | split ids d nrm off L R l r h hc hl hr => exact absurd (.inl (by simp)) h
      cases hc with
      | good i k hi hk hgd =>
        have hi' : i = 0 ∨ i = 1 := by simpa [List.range_succ] using hi
        have hk' : k = 0 ∨ k = 1 := by simpa [List.range_succ] using hk
        rcases hi' with rfl | rfl <;> rcases hk' with rfl | rfl
        · exact absurd hgd (by decide)
        · left
          have e1 : leftL [0, 9] 1 (subL (rowL [0, 9] 1 0) (rowL [0, 9] 1 1)) (offL (rowL [0, 9] 1 0) (rowL [0, 9] 1 1)) (List.range 2) = [1] := by decide
          have e2 : rightL [0, 9] 1 (subL (rowL [0, 9] 1 0) (rowL [0, 9] 1 1)) (offL (rowL [0, 9] 1 0) (rowL [0, 9] 1 1)) (List.range 2) = [0] := by decide
          rw [e1] at hl
          rw [e2] at hr
          rw [hlr _ _ hl, hlr _ _ hr]
          have e3 : subL (rowL [0, 9] 1 0) (rowL [0, 9] 1 1) = [-9] := by decide
          have e4 : offL (rowL [0, 9] 1 0) (rowL [0, 9] 1 1) = -81 := by decide
          rw [e3, e4]
        · right
          have e1 : leftL [0, 9] 1 (subL (rowL [0, 9] 1 1) (rowL [0, 9] 1 0)) (offL (rowL [0, 9] 1 1) (rowL [0, 9] 1 0)) (List.range 2) = [0] := by decide
          have e2 : rightL [0, 9] 1 (subL (rowL [0, 9] 1 1) (rowL [0, 9] 1 0)) (offL (rowL [0, 9] 1 1) (rowL [0, 9] 1 0)) (List.range 2) = [1] := by decide
          rw [e1] at hl
          rw [e2] at hr
          rw [hlr _ _ hl, hlr _ _ hr]
          have e3 : subL (rowL [0, 9] 1 1) (rowL [0, 9] 1 0) = [9] := by decide
          have e4 : offL (rowL [0, 9] 1 1) (rowL [0, 9] 1 0) = 81 := by decide
          rw [e3, e4]
        · exact absurd hgd (by decide)
      | flat ht =>
        exfalso
        obtain ⟨i, k, hi, hk, hik, hgd⟩ := ht
        have hi' : i = 0 ∨ i = 1 := by simp at hi; omega
        have hk' : k = 0 ∨ k = 1 := by simp at hk; omega
        rcases hi' with rfl | rfl <;> rcases hk' with rfl | rfl
        · exact hik rfl
        · exact absurd hgd (by decide)
        · exact absurd hgd (by decide)
        · exact hik rfl
  rcases key with rfl | rfl
  · decide +kernel
  · decide +kernel
end Go.Proofs.YtladmconpolneaaGreat

/- lives: an index of two items answers. -/
set_option linter.unusedVariables false
set_option linter.unusedSimpArgs false
namespace Go.Proofs.YtladmconpolneaaGreat
open Go.RowKit
theorem rt_one {W : World} {g : Nat} {z : Int} (h : W.heap[g]? = some (.cells #[.int .i32 z] 21 (0, 0))) : RT W 21 (some ⟨g, 0, none⟩) 1 (i32V [z]) :=
  RT.of_own (w := W) (base := 0) (e := 21) (A := some ⟨g, 0, none⟩) (n := 1) (c := 1) (own_of_block (vs := i32V [z]) h (Nat.zero_le _) (by simp [i32V]))
theorem RowAt.first2 {w : World} {B : Nat} {A : Option Addr} {c : Nat} {x y : Int} (h : RowAt w B 54 2 (.slice A 1 c) [[x, y]]) : ∃ g, A = some ⟨g, 0, none⟩ ∧ w.cell? ⟨g, 0, none⟩ = some (.int .i64 x) ∧ w.cell? ⟨g, 1, none⟩ = some (.int .i64 y) := by
  obtain ⟨g, rfl⟩ := RowAt.addr (l := [[x, y]]) h (by simp)
  obtain ⟨h1, _, _⟩ := RowAt.cell (l := [[x, y]]) h 0 (by simp)
  exact ⟨g, rfl, h1 0 _ rfl, h1 1 _ rfl⟩
set_option maxRecDepth 100000 in
set_option maxHeartbeats 1600000 in
theorem lives_any (w : World) : Calls Tryz.prog 9 #[] w fun e w' => e = .returned (.bool true) ∧ Below w.heap.size w w' := by
  have HNEW : Hid (∀ W, Calls Tryz.prog 29 #[.int .i64 1] W fun e w' => ∃ x b, e = .returned (.tuple #[.pointer (some ⟨x, 0, none⟩), .int .i64 0]) ∧ IxAt w' W.heap.size x b 1 0 [] ∧ Below W.heap.size W w') := fun W => inew_any 1 W (by decide)
  have HADD : Hid (∀ W x b g n F (z : Int), IxAt W w.heap.size x b 1 n F → vecE [z] 1 = 0 → n < 10 → W.heap[g]? = some (.cells #[.int .i32 z] 21 (0, 0)) →
      Calls Tryz.prog 30 #[.pointer (some ⟨x, 0, none⟩), .slice (some ⟨g, 0, none⟩) 1 1] W fun e w' => (∃ i er, e = .returned (.tuple #[.int .i64 i, .int .i64 er])) ∧ IxAt w' w.heap.size x b 1 (n + 1) (F ++ [z]) ∧ Below w.heap.size W w') := fun W x b g n F z hx he hn hg => iadd_ok W hx (some ⟨g, 0, none⟩) 1 (rt_one hg).1 he (by omega)
  have HBUI : Hid (∀ W x b, w.heap.size ≤ W.heap.size → IxAt W w.heap.size x b 1 2 [0, 9] → Calls Tryz.prog 31 #[.pointer (some ⟨x, 0, none⟩), .agg #[.int .i64 1, .int .i64 1, .int .i64 9, .bool false, .int .u64 0, .slice none 0 0], .int .i64 0, .slice none 0 0] W (BuiltPost W w.heap.size x b 1 2 1 9 1 [0, 9])) := fun W x b hs hx =>
    ibuild_any W w.heap.size x b 1 2 1 9 1 [0, 9] hx hs ⟨1, 1, 9, false, 0, []⟩ none 0 _ _ (fun W' hb => ibuild0_any W' w.heap.size x b 1 2 1 9 1 [0, 9] (hx.below hb) ⟨1, 1, 9, false, 0, []⟩ rfl rfl rfl none 0 (reads_nil _) (by decide) (by simp) (by decide) (by decide) (by decide) (by decide) _)
  have HQUE : Hid (∀ W x b g TA tc t, BxAt W w.heap.size x b 1 2 1 9 [0, 9] TA tc [t] → W.heap[g]? = some (.cells #[.int .i32 8] 21 (0, 0)) → Calls Tryz.prog 14 #[.pointer (some ⟨x, 0, none⟩), .slice (some ⟨g, 0, none⟩) 1 1, .int .i64 1, .int .i64 0] W (QueryPost W [[1, 1]])) := fun W x b g TA tc t hx hg => by
    have hr := ready_of hx (by simp) (by decide) (by decide) (by decide)
    have := query0_any W w.heap.size x b 1 2 1 9 [0, 9] TA tc t hr.st hr.tr hr.nodes [8] (some ⟨g, 0, none⟩) 1 (rt_one hg).1 (by decide)
    rw [two_tree (hx.reach t (by simp))] at this
    exact this
  go_enter Tryz.func9, Tryz.ntmps9
  go_wp2_with (first
    | (go_at_call 14
       have hal : Below w4.heap.size w4 (w4.alloc (.cells #[.int .i32 8] 21)) := (Below.refl _ _).alloc (Nat.le_refl _) _
       refine (HQUE.out _ x b w4.heap.size TA tc t (HX4.out.below hal) (heap_alloc_new _ _)).mono ?_
       rintro e w5 ⟨A, c, m, rfl, hm, hr, hb⟩
       have HB5 := Lib.hid (HB4.out.trans ((hal.trans (hb.mono hal.size)).mono HB4.out.size))
       have hm1 : m = 1 := hm.symm
       subst hm1
       obtain ⟨g, rfl, r0, r1⟩ := hr.first2
       clear hb hr hm hal)
    | (go_at_call 31; refine (HBUI.out w3 x b HB3.out.size HX3.out).mono ?_; rintro e w4 ⟨TA, tc, ts, rfl, hx, hl, hb⟩
       obtain ⟨t, rfl⟩ : ∃ t, ts = [t] := List.length_eq_one_iff.1 hl
       have HX4 := Lib.hid hx; have HB4 := Lib.hid (HB3.out.trans hb); clear hx hb hl)
    | (go_at_call 30
       have hal : Below w2.heap.size w2 (w2.alloc (.cells #[.int .i32 9] 21)) := (Below.refl _ _).alloc (Nat.le_refl _) _
       refine (HADD.out _ x b w2.heap.size 1 [0] 9 (HX2.out.below hal) (by decide) (by decide) (heap_alloc_new _ _)).mono ?_; rintro e w3 ⟨⟨i3, er3, rfl⟩, hx, hb⟩
       have HX3 := Lib.hid hx; have HB3 := Lib.hid ((HB2.out.trans (hal.mono HB2.out.size)).trans hb); clear hx hb hal)
    | (go_at_call 30
       have hal : Below w1.heap.size w1 (w1.alloc (.cells #[.int .i32 0] 21)) := (Below.refl _ _).alloc (Nat.le_refl _) _
       refine (HADD.out _ x b w1.heap.size 0 [] 0 (HX1.out.below hal) (by decide) (by decide) (heap_alloc_new _ _)).mono ?_; rintro e w2 ⟨⟨i2, er2, rfl⟩, hx, hb⟩
       have HX2 := Lib.hid hx; have HB2 := Lib.hid ((HB1.out.trans (hal.mono HB1.out.size)).trans hb); clear hx hb hal)
    | (go_at_call 29; refine (HNEW.out _).mono ?_; rintro e w1 ⟨x, b, rfl, hx, hb⟩; have HX1 := Lib.hid hx; have HB1 := Lib.hid hb; clear hx hb)
    | fail)
  go_ret
  refine ⟨?_, HB5.out⟩
  rfl
end Go.Proofs.YtladmconpolneaaGreat

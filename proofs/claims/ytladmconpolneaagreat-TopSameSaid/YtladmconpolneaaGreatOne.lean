/- forest.one: how a tree is built. -/
import Derived.Test.YtladmconpolneaaGreatMt
set_option linter.unusedVariables false
set_option linter.unusedSimpArgs false
namespace Go.Proofs.YtladmconpolneaaGreat
open Go.RowKit
theorem one_any (bi : Nat) (p : Par) (L : Option Addr) (c : Nat) (w : World) :
    Calls Tryz.prog 145 #[.pointer (some ⟨bi, 0, none⟩), .agg (parV p L c)] w fun e w' => e = .returned (.func (.func 187) #[] #[.pointer (some ⟨w.heap.size, 0, none⟩), .pointer (some ⟨w.heap.size + 1, 0, none⟩)]) ∧ w' = (w.alloc (.cells #[.pointer (some ⟨bi, 0, none⟩)] 57)).alloc (.cells (parV p L c) 28) := by
  have HI := Lib.hid Tryz.info28
  rw [par_cells] at *
  go_enter Tryz.func145, Tryz.ntmps145
  go_wp2
  go_ret
  exact ⟨rfl, rfl⟩
/-- A tree was grown. -/
def OnePost (w : World) (F : List Int) (dim leaf depth n : Nat) (e : Ending) (w' : World) : Prop :=
  ∃ (nodes : List Node) (A : Option Addr) (c : Nat) (cells : List Value), e = .returned (.slice A nodes.length c) ∧ w'.ownsRow w.heap.size 70 6 (.slice A nodes.length c) nodes.length cells ∧ Rows (NodeR w') 6 nodes cells ∧
    Reach F dim leaf depth n nodes [] ∧ Below w.heap.size w w'
set_option maxHeartbeats 1600000 in
set_option maxRecDepth 100000 in
theorem tree1_any (w : World) (B bi dim n leaf depth trees b1 b2 k : Nat) (F : List Int) (h : ItemsAt w B bi dim n F) (p : Par) (hpl : p.leaf = (leaf : Int)) (hpd : p.depth = (depth : Int)) (hpt : p.trees = (trees : Int)) (L : Option Addr) (c : Nat) (hL : Reads w L p.list.length (u64V p.list)) (hll : p.list.length ≤ 1000) (hu : ∀ x ∈ p.list, U64 x)
    (hE : growE p = 0) (hn : 1 ≤ n ∧ n ≤ 20000) (hl1 : 1 ≤ leaf) (ht : trees ≤ 256) (hk : k < trees) (g1 : w.heap[b1]? = some (.cells #[.pointer (some ⟨bi, 0, none⟩)] 57 (0, 0))) (g2 : w.heap[b2]? = some (.cells (parV p L c) 28 (0, 0))) :
    Calls Tryz.prog 187 #[.int .i64 (k : Int), .pointer (some ⟨b1, 0, none⟩), .pointer (some ⟨b2, 0, none⟩)] w (OnePost w F dim leaf depth n) := by
  have HPS : Hid (∀ W, Below w.heap.size w W → PS bi b2 p L c b1 W) := fun W hb => PS.of ((hb.block _ (lt_of_block g1)).trans g1) ((hb.block _ (lt_of_block g2)).trans g2)
  have HST : Hid (∀ W, Below w.heap.size w W → Calls Tryz.prog 97 #[.agg #[.bool p.scripted, .int .u64 p.seed, .slice L p.list.length c], .int .i64 (k : Int), .int .i64 p.trees] W (NewSrc W (srcOf p.scripted p.seed p.list k trees))) := fun W hb => by
    rw [hpt]
    exact stream_any p.scripted p.seed p.list L c k trees W (hL.below hb) hk (by omega) hll
  have HTA : Hid (∀ W b v, Below w.heap.size w W → SrcAt W b v (srcOf p.scripted p.seed p.list k trees) → Calls Tryz.prog 53 #[.pointer (some ⟨bi, 0, none⟩), .agg (parV p L c), v] W (TreePost W b v F dim leaf depth n)) := fun W b v hb hs => tree_any W (h.below hb) hs (srcOf_ok _ _ _ _ _ hu) p leaf depth hpl hpd hE hl1 L c hn.1 (by have := hn.2; omega)
  obtain ⟨c2, d0, d1, d2, d3, d4, d5⟩ := HPS.out w (Below.refl _ _)
  have HPT : Hid (∀ W, Below w.heap.size w W → W.cell? ⟨b1, 0, none⟩ = some (.pointer (some ⟨bi, 0, none⟩)) ∧ W.cell? ⟨b2, 0, none⟩ = some (.int .i64 p.trees) ∧ W.cell? ⟨b2, 1, none⟩ = some (.int .i64 p.leaf) ∧ W.cell? ⟨b2, 2, none⟩ = some (.int .i64 p.depth) ∧ W.cell? ⟨b2, 3, none⟩ = some (.bool p.scripted) ∧ W.cell? ⟨b2, 4, none⟩ = some (.int .u64 p.seed) ∧ W.cell? ⟨b2, 5, none⟩ = some (.slice L p.list.length c)) := fun W hb => by
    have := HPS.out W hb
    exact this
  rw [par_cells] at *
  clear h hL hll hu hE hn hl1 ht hk g1 g2 hpl hpd hpt HPS
  go_enter Tryz.func187, Tryz.ntmps187
  go_wp2_with fail
  go_region_held3 (fun W => W.cell? ⟨b1, 0, none⟩ = some (.pointer (some ⟨bi, 0, none⟩)) ∧ W.cell? ⟨b2, 0, none⟩ = some (.int .i64 p.trees) ∧ W.cell? ⟨b2, 1, none⟩ = some (.int .i64 p.leaf) ∧ W.cell? ⟨b2, 2, none⟩ = some (.int .i64 p.depth) ∧ W.cell? ⟨b2, 3, none⟩ = some (.bool p.scripted) ∧ W.cell? ⟨b2, 4, none⟩ = some (.int .u64 p.seed) ∧ W.cell? ⟨b2, 5, none⟩ = some (.slice L p.list.length c)) (first | go_keep | exact HPT.out _ HBN.out)
    (first
      | (go_at_call 97; refine (HST.out _ (bel_drew (Below.refl _ _))).mono ?_; rintro e w2 ⟨b, v, rfl, hs, hbz, hb⟩; have HS2 := Lib.hid hs; have HBZ := Lib.hid hbz; have HBN : Hid (Below w.heap.size w w2) := (bel_drew (Below.refl _ _)).trans hb; clear hs hb hbz)
      | (go_at_call 53; refine (HTA.out _ _ _ HBN.out HS2.out).mono ?_; rintro e w3 ⟨nodes, A, cA, cells, rfl, ho, hr, hre, -, hg⟩
         have HB3 : Hid (Below w.heap.size w w3) := HBN.out.trans (Below.grown (Below.refl _ _) hg HBN.out.size (fun k e => by have := HBZ.out; injection e with e; simp at this; omega))
         have HO3 := Lib.hid (And.intro (own_base0 ho HBN.out.size) (And.intro hr hre))
         clear HBN
         have HBN := HB3
         clear ho hr hre hg))
  go_wp2
  go_ret
  exact ⟨nodes, A, cA, cells, rfl, HO3.out.1, HO3.out.2.1, HO3.out.2.2, HBN.out⟩
end Go.Proofs.YtladmconpolneaaGreat

/- Several texts of this seat, laid together (no statement of its own): their conditions stand in each theorem. -/
import Derived.Test.YtladmconpolneaaGreatMe
import Derived.Deep.CutRange
/- The walk of a tree's growth. -/
set_option linter.unusedVariables false
set_option linter.unusedSimpArgs false
namespace Go.Proofs.YtladmconpolneaaGreat
open Go.RowKit
/-- How a forest is built. -/
structure Par where
  trees : Int
  leaf : Int
  depth : Int
  scripted : Bool
  seed : Int
  list : List Int
def parV (p : Par) (L : Option Addr) (c : Nat) : Array Value := #[.int .i64 p.trees, .int .i64 p.leaf, .int .i64 p.depth, .bool p.scripted, .int .u64 p.seed, .slice L p.list.length c]
theorem Tryz.info28 : (Tryz.prog.info? 28).map (·.size) = some 6 := by kernel_rfl
def growE (p : Par) : Int := if p.leaf < 1 ∨ 1024 < p.leaf ∨ p.depth < 0 ∨ 64 < p.depth then 1 else if p.trees < 1 ∨ 256 < p.trees then 5 else 0
set_option maxHeartbeats 400000 in
theorem gcheck_any (p : Par) (L : Option Addr) (c : Nat) (w : World) : Calls Tryz.prog 95 #[.agg (parV p L c)] w fun e w' => e = .returned (.int .i64 (growE p)) ∧ Below w.heap.size w w' := by
  have HB0 : Hid (∀ o, Below w.heap.size w (w.alloc o)) := fun o => (Below.refl _ _).alloc (Nat.le_refl _) _
  have hh : (p.leaf < 1 ∧ growE p = 1) ∨ (¬ p.leaf < 1 ∧ 1024 < p.leaf ∧ growE p = 1) ∨ (¬ p.leaf < 1 ∧ ¬ 1024 < p.leaf ∧ p.depth < 0 ∧ growE p = 1) ∨ (¬ p.leaf < 1 ∧ ¬ 1024 < p.leaf ∧ ¬ p.depth < 0 ∧ 64 < p.depth ∧ growE p = 1) ∨
    (¬ p.leaf < 1 ∧ ¬ 1024 < p.leaf ∧ ¬ p.depth < 0 ∧ ¬ 64 < p.depth ∧ p.trees < 1 ∧ growE p = 5) ∨ (¬ p.leaf < 1 ∧ ¬ 1024 < p.leaf ∧ ¬ p.depth < 0 ∧ ¬ 64 < p.depth ∧ ¬ p.trees < 1 ∧ 256 < p.trees ∧ growE p = 5) ∨
    (¬ p.leaf < 1 ∧ ¬ 1024 < p.leaf ∧ ¬ p.depth < 0 ∧ ¬ 64 < p.depth ∧ ¬ p.trees < 1 ∧ ¬ 256 < p.trees ∧ growE p = 0) := by
    unfold growE
    split
    · omega
    · split <;> omega
  unfold parV
  generalize growE p = er at *
  generalize p.leaf = lf at *
  generalize p.depth = dp at *
  generalize p.trees = tr at *
  rcases hh with ⟨h1, rfl⟩ | ⟨h1, h2, rfl⟩ | ⟨h1, h2, h3, rfl⟩ | ⟨h1, h2, h3, h4, rfl⟩ | ⟨h1, h2, h3, h4, h5, rfl⟩ | ⟨h1, h2, h3, h4, h5, h6, rfl⟩ | ⟨h1, h2, h3, h4, h5, h6, rfl⟩
  all_goals
    go_enter Tryz.func95, Tryz.ntmps95
    go_wp2
    go_ret
    exact ⟨rfl, HB0.out _⟩
theorem Tryz.info70 : (Tryz.prog.info? 70).map (fun i => (i.zero, i.size, i.bytes)) = some (some (.agg #[.bool false, .slice none 0 0, .slice none 0 0, .int .i64 0, .int .i64 0, .int .i64 0]), 6, 80) := by kernel_rfl
theorem par_one (p : Par) (L : Option Addr) (c : Nat) : (parV p L c).all (·.oneCell') = true := by simp [parV, Value.oneCell']
def fillTo (n k : Nat) : List Nat := List.range k ++ List.replicate (n - k) 0
theorem fillTo_zero (n : Nat) : natV (fillTo n 0) = List.replicate n (.int .i64 0) := by simp [fillTo, natV]
theorem fillTo_all (n : Nat) : fillTo n n = List.range n := by simp [fillTo]
theorem fillTo_length (n k : Nat) (h : k ≤ n) : (fillTo n k).length = n := by simp [fillTo]; omega
theorem fillTo_succ (n k : Nat) (h : k < n) : fillTo n (k + 1) = (fillTo n k).set k k := by
  unfold fillTo
  refine List.ext_getElem (by simp; omega) fun i h1 h2 => ?_
  rw [List.getElem_set]
  by_cases hik : k = i
  · subst hik; simp
  · rw [if_neg hik]
    by_cases h3 : i < k
    · rw [List.getElem_append_left (by simp; omega), List.getElem_append_left (by simp; omega)]; simp
    · rw [List.getElem_append_right (by simp; omega), List.getElem_append_right (by simp; omega)]; simp
def TreePost (w : World) (b : Nat) (v : Value) (F : List Int) (dim leaf depth n : Nat) (e : Ending) (w' : World) : Prop :=
  ∃ (nodes : List Node) (A : Option Addr) (c : Nat) (cells : List Value), e = .returned (.tuple #[.slice A nodes.length c, .int .i64 0]) ∧ w'.ownsRow w.heap.size 70 6 (.slice A nodes.length c) nodes.length cells ∧ Rows (NodeR w') 6 nodes cells ∧
    Reach F dim leaf depth n nodes [] ∧ (∃ s', SrcAt w' b v s' ∧ s'.Ok) ∧ w.grownBy w' (some b)
set_option maxRecDepth 100000 in
set_option maxHeartbeats 3200000 in
theorem tree_any {B bi dim n b : Nat} {F : List Int} {v : Value} {s : Src} (w : World) (h : ItemsAt w B bi dim n F) (hs : SrcAt w b v s) (hso : s.Ok) (p : Par) (leaf depth : Nat) (hpl : p.leaf = (leaf : Int)) (hpd : p.depth = (depth : Int)) (hp : growE p = 0) (hl1 : 1 ≤ leaf) (L : Option Addr) (c : Nat) (h1 : 1 ≤ n) (h2 : n ≤ 100000) :
    Calls Tryz.prog 53 #[.pointer (some ⟨bi, 0, none⟩), .agg (parV p L c), v] w (TreePost w b v F dim leaf depth n) := by
  have hblt := hs.lt
  have HIT : Hid (∀ W, w.grownBy W (some b) → ItemsAt W B bi dim n F) := fun W hg => h.grown hs hg
  have HI28 := Lib.hid Tryz.info28
  have HB0 : Hid (∀ o, Below w.heap.size w (w.alloc o)) := fun o => (Below.refl _ _).alloc (Nat.le_refl _) _
  have HG0 : Hid ((w.alloc (.cells (parV p L c) 28)).heap[w.heap.size]? = some (.cells (parV p L c) 28 (0, 0))) := heap_alloc_new _ _
  have HS0 := Lib.hid hs
  have HSO := Lib.hid hso
  have HCK : Hid (Calls Tryz.prog 95 #[.agg (parV p L c)] (w.alloc (.cells (parV p L c) 28)) fun e w' => e = .returned (.int .i64 0) ∧ Below (w.alloc (.cells (parV p L c) 28)).heap.size (w.alloc (.cells (parV p L c) 28)) w') := by
    have := gcheck_any p L c (w.alloc (.cells (parV p L c) 28))
    rw [hp] at this; exact this
  have hz : ((n : Int) == 0) = false := by rw [beq_eq_false_iff_ne]; omega
  have HLEN : Hid (∀ W, w.grownBy W (some b) → Calls Tryz.prog 73 #[.pointer (some ⟨bi, 0, none⟩)] W fun e w' => e = .returned (.int .i64 (n : Int)) ∧ ∃ nn, w' = W.drewN nn) := fun W hg => len_any W (HIT.out W hg)
  have hmk := run_make_ints (P := Tryz.prog) 66 3 .i64 8 Tryz.underlying66 Tryz.info3 (by decide) n (by omega)
  have hd64 : depth ≤ 64 := by
    unfold growE at hp
    split at hp <;> omega
  clear h hs hso hp
  go_enter Tryz.func53, Tryz.ntmps53
  go_wp2_with (first
    | (refine wpList_load_row rfl 28 (.tmp 4) rfl w.heap.size rfl 28 (parV p L c) (0, 0) _ HG0.out Tryz.underlying28 rfl HI28.out ?_)
    | (go_at_call 95; refine HCK.out.mono ?_; rintro e w1 ⟨rfl, hb1⟩; have HGR1 : Hid (w.grownBy w1 (some b)) := grown_of_below ((HB0.out _).trans (hb1.mono (by simp))); have HG1 : Hid (w1.heap[w.heap.size]? = some (.cells (parV p L c) 28 (0, 0))) := (by show _ = _; rw [hb1.block _ (by simp)]; exact HG0.out); have HBE1 := Lib.hid ((HB0.out _).trans (hb1.mono (by simp))); have hsz1 : w.heap.size < w1.heap.size := lt_of_block HG1.out; clear hb1)
    | (go_at_call 73; refine (HLEN.out _ HGR1.out).mono ?_; rintro e w2 ⟨rfl, n2, rfl⟩)
    | (go_at_call 73; refine (HLEN.out _ (grown_drewN HGR1.out _)).mono ?_; rintro e w2 ⟨rfl, n3, rfl⟩))
  have HG9 : Hid (∀ W : World, (W.alloc (.cells (madeCells #[.int .i64 0] n) 3)).heap[W.heap.size]? = some (.cells (natV (fillTo n 0)).toArray 3 (0, 0))) := fun W => by
    rw [heap_alloc_new, made_list _ rfl, fillTo_zero]
  go_loopg [30] n (fun gk i wr => ∃ k : Nat, gk = n - k ∧ k ≤ n ∧ i = .int .i64 (k : Int) ∧ wr.heap[w1.heap.size]? = some (.cells (natV (fillTo n k)).toArray 3 (0, 0)) ∧ Below w1.heap.size w1 wr)
  case atStart => exact ⟨0, rfl, Nat.zero_le _, rfl, HG9.out (w1.drewN (n2 + n3)), (bel_drewN (Below.refl _ _) (n2 + n3)).alloc (Nat.le_refl _) _⟩
  case round =>
    obtain ⟨k, rfl, hk, rfl, hg, hbel⟩ := hrel
    have HG := Lib.hid hg
    have HB := Lib.hid hbel
    by_cases hlt : k < n
    · have hfl := fillTo_length n k hk
      have c9 : wr.cell? ⟨w1.heap.size, k, none⟩ = some (.int .i64 (((fillTo n k)[k]'(by omega) : Nat) : Int)) := by
        rw [cell_of_row _ _ _ _ _ _ hg]
        simp [natV, List.getElem?_eq_getElem (show k < (fillTo n k).length by omega)]
      have f9 : wr.frozen? ⟨w1.heap.size, k, none⟩ = false := frozen_of_row _ _ _ _ _ hg
      generalize (fillTo n k)[k]'(by omega) = x at *
      have hlt' : (k : Int) < (n : Int) := by omega
      have HFS := Lib.hid (fillTo_succ n k hlt)
      clear hg hbel hfl
      go_wp2
      go_roundg (n - (k + 1))
      case measure => omega
      case rel =>
        refine ⟨k + 1, rfl, hlt, by go_num, ?_, HB.out.setCell (Nat.le_refl _) _⟩
        have h5 := heap_setCell_same wr w1.heap.size k _ _ (.int .i64 (k : Int)) HG.out
        have e5 : (natV (fillTo n k)).toArray.setIfInBounds k (.int .i64 (k : Int)) = (natV ((fillTo n k).set k k)).toArray := by simp [natV, List.map_set]
        rw [e5] at h5
        rw [HFS.out]
        exact h5
    · have hkn : k = n := by omega
      rw [hkn, fillTo_all] at hg
      have HRNG := Lib.hid hg
      have HGR := Lib.hid (HGR1.out.trans (grown_of_below hbel))
      have HPB : Hid (wr.heap[w.heap.size]? = some (.cells (parV p L c) 28 (0, 0))) := by show _ = _; rw [hbel.block _ hsz1]; exact HG1.out
      have HBW := Lib.hid (HBE1.out.trans (hbel.mono (Nat.le_of_lt hsz1)))
      have hszr := hbel.size
      clear hg hbel
      go_wp2
      have hrl : (List.range n).length = n := List.length_range
      have HST0 : Hid (GrowSt w ((wr.alloc (.cells #[.slice (some ⟨w1.heap.size, 0, none⟩) n n, .int .i64 0, .int .i64 (-1)] 183)).alloc (.cells #[.slice (some ⟨wr.heap.size, 0, none⟩) 1 1] 184)) b v (parV p L c) (wr.heap.size + 1) (.slice (some ⟨wr.heap.size, 0, none⟩) 1 1) (.slice none 0 0) [] [⟨List.range n, 0, -1⟩] s) := by
        show GrowSt _ _ _ _ _ _ _ _ _ _ _
        have hb1 : Below wr.heap.size wr ((wr.alloc (.cells #[.slice (some ⟨w1.heap.size, 0, none⟩) n n, .int .i64 0, .int .i64 (-1)] 183)).alloc (.cells #[.slice (some ⟨wr.heap.size, 0, none⟩) 1 1] 184)) := ((Below.refl _ _).alloc (Nat.le_refl _) _).alloc (by simp) _
        have hblk : ((wr.alloc (.cells #[.slice (some ⟨w1.heap.size, 0, none⟩) n n, .int .i64 0, .int .i64 (-1)] 183)).alloc (.cells #[.slice (some ⟨wr.heap.size, 0, none⟩) 1 1] 184)).heap[wr.heap.size]? = some (.cells #[.slice (some ⟨w1.heap.size, 0, none⟩) n n, .int .i64 0, .int .i64 (-1)] 183 (0, 0)) := by
          rw [Below.heap_alloc _ _ _ (by simp), heap_alloc_new]
        refine ⟨by rw [hb1.block _ (lt_of_block HPB.out)]; exact HPB.out, ⟨?_, by omega, [.slice (some ⟨w1.heap.size, 0, none⟩) n n, .int .i64 0, .int .i64 (-1)], ⟨rfl, .inr ⟨wr.heap.size, 1, _, rfl, by omega, hblk, Nat.le_refl _, by decide, rfl, rfl⟩⟩, ?_⟩, ⟨[], own_nil _ _ _ _, Rows.nil⟩, (HS0.out.below HBW.out).below hb1, HSO.out, HGR.out.trans (grown_of_below hb1), hblt⟩
        · have := heap_alloc_new (wr.alloc (.cells #[.slice (some ⟨w1.heap.size, 0, none⟩) n n, .int .i64 0, .int .i64 (-1)] 183)) (.cells #[.slice (some ⟨wr.heap.size, 0, none⟩) 1 1] 184)
          rw [World.size_alloc] at this
          exact this
        · refine (Rows.nil (R := JobR _) (sz := 3)).snoc (x := ⟨List.range n, 0, -1⟩) (c := [.slice (some ⟨w1.heap.size, 0, none⟩) n n, .int .i64 0, .int .i64 (-1)]) ⟨some ⟨w1.heap.size, 0, none⟩, n, ?_, ?_, ?_⟩ rfl
          · simp
          · have ho := own_of_block (base := 0) HRNG.out (Nat.zero_le _) (by rw [natV_length]; omega)
            rw [natV_length, hrl] at ho
            have := (RT.of_own ho).keep (w' := (wr.alloc (.cells #[.slice (some ⟨w1.heap.size, 0, none⟩) n n, .int .i64 0, .int .i64 (-1)] 183)).alloc (.cells #[.slice (some ⟨wr.heap.size, 0, none⟩) 1 1] 184)) fun k cells fr hk => hb1.block k (lt_of_block hk)
            simpa using this
          · simp
      clear hkn hk hlt
      generalize wr.heap.size + 1 = g at *
      go_loopg [11] (wt [⟨List.range n, 0, -1⟩]) (fun gk nv wr2 => ∃ (nodes : List Node) (st : List Job) (sv : Value) (s' : Src), gk = wt st ∧ Reach F dim leaf depth n nodes st ∧ GrowSt w wr2 b v (parV p L c) g sv nv nodes st s')
      case atStart => exact ⟨[], _, _, s, rfl, .start, HST0.out⟩
      case round =>
        obtain ⟨nodes, st, sv, s1, rfl, hreach, hst⟩ := hrel
        have HST := Lib.hid hst
        have HRE := Lib.hid hreach
        have hinv := reach_inv hl1 h1 hreach
        obtain ⟨ncells, hno, hnr⟩ := hst.nodes
        obtain ⟨scells, hso, hsr⟩ := hst.stack.row
        obtain ⟨S, cS, rfl⟩ := own_slice hso
        obtain ⟨N, cN, rfl⟩ := own_slice hno
        have c12 : _root_.Go.World.cell? _ ⟨g, 0, none⟩ = some (.slice S st.reverse.length cS) := cell_of_row _ _ _ _ _ _ hst.stack.box
        cases st with
        | nil =>
          have c12' : wr.cell? ⟨g, 0, none⟩ = some (.slice S 0 cS) := c12
          have HNO := Lib.hid hno
          have HNR := Lib.hid hnr
          clear c12 hno hnr hso hsr hst hreach hinv
          go_wp2
          go_ret2
          exact ⟨nodes, N, cN, ncells, rfl, own_low HNO.out (Nat.le_succ _), HNR.out, HRE.out, ⟨s1, HST.out.src, HST.out.ok⟩, HST.out.gr⟩
        | cons j st =>
          have el : (j :: st).reverse.length = st.length + 1 := by simp
          have ej : (j :: st).reverse[st.length]'(by omega) = j := by simp
          obtain ⟨cj, hcl, hjr, hcells⟩ := hsr.get st.length (by omega)
          rw [ej] at hjr
          obtain ⟨A, ca, rfl, hRT, hca⟩ := hjr
          rw [el] at c12 hso
          have hst' : GrowSt w wr b v (parV p L c) g (.slice S (st.length + 1) cS) (.slice N nodes.length cN) nodes (j :: st) s1 := by rw [← el]; exact hst
          obtain ⟨gS, rfl⟩ := own_addr hso (by omega)
          have hmid : wr.rangeAt gS (st.length * 3) [.slice A j.ids.length ca, .int .i64 (j.depth : Int), .int .i64 j.up] := fun i u hi => by
            have hi3 : i < 3 := by have := (List.getElem?_eq_some_iff.mp hi).1; simpa using this
            exact (own_cell hso _ _ ((hcells i hi3).trans hi)).1
          have hgSlt : gS < wr.heap.size := own_ltB hso gS rfl
          have hjids := hinv.ids j (by simp)
          have hjdep := hinv.depth j (by simp)
          have hjup := hinv.up j (by simp)
          have hsum := hinv.sum
          rw [wt_cons] at hsum
          have HMID := Lib.hid hmid
          have HI183 : Hid ((Tryz.prog.info? 183).map (·.size) = some 3) := by show _ = _; kernel_rfl
          have HST1 := Lib.hid hst'
          have HRT := Lib.hid hRT
          have HCA := Lib.hid hca
          have hglt := lt_of_block hst'.stack.box
          have hgw : w.heap.size + 1 ≤ g := hst'.stack.base
          have hjl : j.ids.length ≤ 100000 := by omega
          have hstl : st.length ≤ 200000 := by
            have := wt_ge st fun k hk => (hinv.ids k (by simp [hk])).1
            omega
          have hscS : st.length + 1 ≤ cS := own_cap hso
          have hnl : nodes.length ≤ 200000 := by omega
          have hNcap := own_cap hno
          have HJL := Lib.hid hjl
          have HSTL := Lib.hid hstl
          have HNL := Lib.hid hnl
          clear hno hnr hso hsr hst hst' hreach hinv el ej hcl hcells hRT hca hmid HST
          obtain ⟨W1, hW1⟩ : ∃ W1, (wr.alloc (.cells #[.slice none 0 0, .int .i64 0, .int .i64 0] 183)).setRow wr.heap.size #[.slice A j.ids.length ca, .int .i64 (j.depth : Int), .int .i64 j.up] = W1 := ⟨_, rfl⟩
          have HW1 := Lib.hid hW1
          have hzj : ((wr.alloc (.cells #[.slice none 0 0, .int .i64 0, .int .i64 0] 183))).heap[wr.heap.size]? = some (.cells #[.slice none 0 0, .int .i64 0, .int .i64 0] 183 (0, 0)) := heap_alloc_new _ _
          have HZJ := Lib.hid hzj
          have HJ1 : Hid (W1.heap[wr.heap.size]? = some (.cells #[.slice A j.ids.length ca, .int .i64 (j.depth : Int), .int .i64 j.up] 183 (0, 0))) := by
            show _ = _
            rw [← hW1]; exact setRow_heap _ _ _ _ _ _ hzj
          have hbW1 : Below wr.heap.size wr W1 := by
            rw [← hW1]
            exact ((Below.refl _ _).alloc (Nat.le_refl _) _).trans ⟨rfl, rfl, rfl, by simp, fun i hi => setRow_other _ _ _ _ (by omega)⟩
          have HG1 := Lib.hid (HST1.out.below hbW1)
          have c12b : W1.cell? ⟨g, 0, none⟩ = some (.slice (some ⟨gS, 0, none⟩) (st.length + 1) cS) := cell_of_row _ _ _ _ _ _ HG1.out.stack.box
          have f12b : W1.frozen? ⟨g, 0, none⟩ = false := frozen_of_row _ _ _ _ _ HG1.out.stack.box
          have hpos : (0 : Int) < (st.length : Int) + 1 := by omega
          have hm1 : ((st.length : Int) + 1) - 1 = (st.length : Int) := by omega
          clear hW1 hzj
          obtain ⟨W2, hW2⟩ : ∃ W2, W1.setCell ⟨g, 0, none⟩ (.slice (some ⟨gS, 0, none⟩) st.length cS) = W2 := ⟨_, rfl⟩
          have HST2 : Hid (GrowSt w W2 b v (parV p L c) g (.slice (some ⟨gS, 0, none⟩) st.length cS) (.slice N nodes.length cN) nodes st s1) := by
            show GrowSt _ _ _ _ _ _ _ _ _ _ _
            rw [← hW2]; exact HG1.out.pop
          have HJ2 : Hid (W2.heap[wr.heap.size]? = some (.cells #[.slice A j.ids.length ca, .int .i64 (j.depth : Int), .int .i64 j.up] 183 (0, 0))) := by
            show _ = _
            rw [← hW2, Below.heap_setCell _ _ _ _ (by show wr.heap.size ≠ g; omega)]; exact HJ1.out
          have HRT2 : Hid (RT W2 3 A j.ids.length (natV j.ids)) := by
            show RT _ _ _ _ _
            rw [← hW2]; exact (HRT.out.kept (Kept.below hbW1) (.inl rfl)).kept (Kept.set HG1.out.stack.box (by decide)) (.inl rfl)
          have c2u : W2.cell? ⟨wr.heap.size, 2, none⟩ = some (.int .i64 j.up) := cell_of_row _ _ _ _ _ _ HJ2.out
          have HI70 : Hid ((Tryz.prog.info? 70).map (·.size) = some 6) := by show _ = _; kernel_rfl
          clear hbW1
          go_upto_if 60 with (first
            | (refine wpList_load_mid rfl 183 (.tmp 49) rfl gS (st.length * 3) rfl [.slice A j.ids.length ca, .int .i64 (j.depth : Int), .int .i64 j.up] _ HMID.out Tryz.underlying183 rfl HI183.out ?_)
            | (refine wpList_store_row rfl 183 (.tmp 14) (.tmp 50) rfl wr.heap.size rfl 183 #[.slice none 0 0, .int .i64 0, .int .i64 0] #[.slice A j.ids.length ca, .int .i64 (j.depth : Int), .int .i64 j.up] rfl HZJ.out HI183.out rfl (by simp [Value.oneCell']) ?_; rw [HW1.out]))
          go_cut [] from 42 to 114 (fun wc => GrowSt w wc b v (parV p L c) g (.slice (some ⟨gS, 0, none⟩) st.length cS) (.slice N nodes.length cN) (setR nodes j.up (nodes.length : Int)) st s1 ∧ wc.heap[wr.heap.size]? = some (.cells #[.slice A j.ids.length ca, .int .i64 (j.depth : Int), .int .i64 j.up] 183 (0, 0)) ∧ RT wc 3 A j.ids.length (natV j.ids))
          case first =>
            by_cases hup : 0 ≤ j.up
            · have hu : j.up.toNat < nodes.length := by omega
              obtain ⟨cells2, ho2, hr2⟩ := HST2.out.nodes
              obtain ⟨gN, rfl⟩ := own_addr ho2 (by omega)
              have hk2 : j.up.toNat * 6 + 5 < cells2.length := by have := hr2.1; omega
              obtain ⟨cR, fR⟩ := own_cell ho2 (j.up.toNat * 6 + 5) _ (List.getElem?_eq_getElem hk2)
              have HRG := Lib.hid (HST2.out.right j.up (nodes.length : Int) hup hjup.2)
              have HJ3 := Lib.hid (HRG.out.2.2 _ _ _ _ HJ2.out (by decide))
              have HK3 := Lib.hid (HRT2.out.kept (HRG.out.2.kept (by decide) (by decide)) (.inl rfl))
              generalize cells2[j.up.toNat * 6 + 5]'hk2 = xR at *
              clear ho2 hr2 hk2
              go_wp2
              go_meet
              case rel => exact ⟨HRG.out.1, HJ3.out.trans HJ2.out, HK3.out⟩
            · go_wp2
              go_meet
              case rel =>
                have e0 : setR nodes j.up (nodes.length : Int) = nodes := by unfold setR; rw [if_pos (by omega)]
                rw [e0]
                exact ⟨HST2.out, HJ2.out, HRT2.out⟩
          case rest =>
            obtain ⟨hst3, hj3, hrt3⟩ := hcut
            have HLEAF : Hid ((j.ids.length ≤ leaf ∨ j.depth = depth) → Reach F dim leaf depth n (setR nodes j.up (nodes.length : Int) ++ [leafN j.ids]) st) := fun h => HRE.out.step (.leaf nodes j st h)
            have HSPL : Hid (¬ (j.ids.length ≤ leaf ∨ j.depth = depth) → ∀ nrm off LL RR, Chosen F dim j.ids nrm off LL RR → Reach F dim leaf depth n (setR nodes j.up (nodes.length : Int) ++ [splitN nrm off ((nodes.length : Int) + 1)]) (⟨LL, j.depth + 1, -1⟩ :: ⟨RR, j.depth + 1, (nodes.length : Int)⟩ :: st)) := fun h nrm off LL RR hc => HRE.out.step (.split nodes j st nrm off LL RR h hc)
            have hl3 := setR_length nodes j.up (nodes.length : Int)
            generalize setR nodes j.up (nodes.length : Int) = nodes3 at *
            clear c2u HRT2 HST2 HJ2 hW2 c12b f12b HG1 HJ1 HZJ HW1 HI183 HRT HST1 HMID c12 HRE
            have HST3 := Lib.hid hst3
            have HJ3 := Lib.hid hj3
            have HRT3 := Lib.hid hrt3
            have cJ0 : wc.cell? ⟨wr.heap.size, 0, none⟩ = some (.slice A j.ids.length ca) := cell_of_row _ _ _ _ _ _ hj3
            have cJ1 : wc.cell? ⟨wr.heap.size, 1, none⟩ = some (.int .i64 (j.depth : Int)) := cell_of_row _ _ _ _ _ _ hj3
            have cP1 : wc.cell? ⟨w.heap.size, 1, none⟩ = some (.int .i64 (leaf : Int)) := by rw [← hpl]; exact cell_of_row _ _ _ _ _ _ hst3.par
            have cP2 : wc.cell? ⟨w.heap.size, 2, none⟩ = some (.int .i64 (depth : Int)) := by rw [← hpd]; exact cell_of_row _ _ _ _ _ _ hst3.par
            clear hst3 hj3 hrt3
            go_upto_region 21 with fail
            go_cut [79] from 42 to 114 (fun x wx => x = .bool (decide (j.ids.length ≤ leaf ∨ j.depth = depth)) ∧ wx = wc)
            case first =>
              by_cases hq1 : j.ids.length ≤ leaf
              · have hq1' : (j.ids.length : Int) ≤ (leaf : Int) := by omega
                go_wp2
                go_meet
                case rel => exact ⟨by rw [decide_eq_true (Or.inl hq1)], rfl⟩
              · have hq1' : ¬ (j.ids.length : Int) ≤ (leaf : Int) := by omega
                by_cases hq2 : j.depth = depth
                · have hq2' : ((j.depth : Int) == (depth : Int)) = true := by rw [hq2]; simp
                  have HQ2 := Lib.hid hq2
                  clear hq2
                  go_wp2
                  go_meet
                  case rel => exact ⟨by rw [decide_eq_true (Or.inr HQ2.out)], rfl⟩
                · have hq2' : ((j.depth : Int) == (depth : Int)) = false := by rw [beq_eq_false_iff_ne]; omega
                  go_wp2
                  go_meet
                  case rel => exact ⟨by rw [decide_eq_false (by omega)], rfl⟩
            case rest =>
              obtain ⟨rfl, rfl⟩ := hcut
              clear cP1 cP2
              obtain ⟨cells3, ho3, hr3⟩ := HST3.out.nodes
              rw [hl3] at ho3
              have HO3 := Lib.hid ho3
              have HR3 := Lib.hid hr3
              have hsz3 := HST3.out.gr.size
              have hJlt := lt_of_block HJ3.out
              clear ho3 hr3
              by_cases hlf : j.ids.length ≤ leaf ∨ j.depth = depth
              · have HRE4 := Lib.hid (HLEAF.out hlf)
                have hdt : decide (j.ids.length ≤ leaf ∨ j.depth = depth) = true := decide_eq_true hlf
                clear HLEAF HSPL hlf
                rw [hdt]
                go_wp2_with fail
                refine (cloneI_any j.ids A j.ids.length ca _ HRT3.out.1 (by have := HJL.out; omega)).mono ?_
                rintro e w5 ⟨A5, c5, rfl, ho5, hb5⟩
                have HST5 := Lib.hid (HST3.out.below hb5)
                have HO5 := Lib.hid (own_below HO3.out hb5)
                have HID5 := Lib.hid (RT.of_own ho5)
                have hc5 := own_cap ho5
                have hsz5 := hb5.size
                have HR5 := Lib.hid (HR3.out.imp fun x c hx => hx.kept (Kept.below hb5))
                clear ho5 hb5 cJ0 cJ1
                go_wp2_with (at_builtin; refine append_cells (w.heap.size + 1) rfl _ _ 65 70 (.agg #[.bool false, .slice none 0 0, .slice none 0 0, .int .i64 0, .int .i64 0, .int .i64 0]) 6 80 rfl Tryz.underlying65 Tryz.info70 rfl (by decide) (by decide) (.slice N nodes.length cN) nodes.length cells3 [.bool true, .slice A5 j.ids.length c5, .slice none 0 0, .int .i64 0, .int .i64 0, .int .i64 0] rfl rfl rfl (by simp [Value.oneCell']) HO5.out (by omega) (by have := HNL.out; omega) ?_)
                intro A6 c6 w6 ho6 hg6 hat6 hsz6
                have HO6 := Lib.hid ho6
                have HG6 := Lib.hid hg6
                have HAT6 := Lib.hid hat6
                clear ho6 hg6 hat6
                go_wp2
                go_roundg (wt st)
                case measure => rw [wt_cons]; omega
                case rel =>
                  have hot6 : Other 70 w5 w6 := Other.row HO5.out HG6.out
                  have hk6 := hot6.kept (by decide) (by decide)
                  have e6 : (nodes3 ++ [leafN j.ids]).length = nodes.length + 1 := by simp [hl3]
                  refine ⟨nodes3 ++ [leafN j.ids], st, _, s1, rfl, HRE4.out, HST5.out.nodesTo hot6 ((Below.refl _ _).grown HG6.out (by omega) (own_base HO5.out)) (cells' := cells3 ++ [.bool true, .slice A5 j.ids.length c5, .slice none 0 0, .int .i64 0, .int .i64 0, .int .i64 0]) ?_ ?_⟩
                  · rw [e6]; exact HO6.out
                  · exact (HR5.out.imp fun x c hx => hx.kept hk6).snoc ((leaf_cells _ _ _ _ HID5.out hc5).kept hk6) rfl
              · have hdf : decide (j.ids.length ≤ leaf ∨ j.depth = depth) = false := decide_eq_false hlf
                rw [hdf]
                have hj2 : 2 ≤ j.ids.length := by omega
                have HSPLT := Lib.hid (HSPL.out hlf)
                have hjd64 : (j.depth : Int) ≤ 64 := by omega
                have HSUM := Lib.hid hsum
                have hw1 : wrap64 ((j.depth : Int) + 1) = (j.depth : Int) + 1 := by unfold wrap64; omega
                clear HLEAF HSPL hlf hdf
                have HCHO := Lib.hid (choose_any _ (HIT.out _ HST3.out.gr) HST3.out.src HST3.out.ok j.ids A ca HRT3.out hjids.2 hj2 (by have := HJL.out; omega) HCA.out)
                go_wp2_with fail
                refine HCHO.out.mono ?_
                rintro e w4 ⟨nrm, off, LL, RR, tries, NN, d4, AL, cL, AR, cR, rfl, hch, hoN, hoL, hoR, ⟨s4, hs4, hok4⟩, hg4⟩
                have HST4 := Lib.hid (HST3.out.draw hs4 hok4 hg4)
                have hJ4 : w4.heap[wr.heap.size]? = some (.cells #[.slice A j.ids.length ca, .int .i64 (j.depth : Int), .int .i64 j.up] 183 (0, 0)) := grown_blk hg4 HJ3.out (HST3.out.src.ne HJ3.out (by decide) (by decide))
                have hsz4 := hg4.size
                have hcN := own_cap hoN
                have hcL := own_cap hoL
                have hcR := own_cap hoR
                have hok := chosen_ok hch hj2
                have hokL := hok.left
                have hokR := hok.right
                have hokS := hok.sum
                have HOKL := Lib.hid hokL
                have HOKR := Lib.hid hokR
                have HRE4 := Lib.hid (HSPLT.out _ _ _ _ hch)
                obtain ⟨cells4, ho4, hr4⟩ := HST4.out.nodes
                rw [hl3] at ho4
                have hb45 : Below w4.heap.size w4 (w4.alloc (.cells #[.slice NN nrm.length d4, .int .i64 off, .slice AL LL.length cL, .slice AR RR.length cR, .int .i64 tries] 187)) := (Below.refl _ _).alloc (Nat.le_refl _) _
                have hk45 := Kept.below hb45
                have HST5 := Lib.hid (HST4.out.below hb45)
                have HO5 := Lib.hid (own_below ho4 hb45)
                have HR5 := Lib.hid (hr4.imp fun x c hx => hx.kept hk45)
                have HJ5 := Lib.hid ((hb45.block _ (lt_of_block hJ4)).trans hJ4)
                have HG5 := Lib.hid (heap_alloc_new w4 (.cells #[.slice NN nrm.length d4, .int .i64 off, .slice AL LL.length cL, .slice AR RR.length cR, .int .i64 tries] 187))
                have HNN := Lib.hid ((RT.of_own hoN).kept hk45 (.inr rfl))
                have HLL := Lib.hid ((RT.of_own hoL).kept hk45 (.inl rfl))
                have HRR := Lib.hid ((RT.of_own hoR).kept hk45 (.inl rfl))
                clear hch hoN hoL hoR hg4 hs4 hok4 hok ho4 hr4 hb45 hk45 hJ4 HSPLT HST4 HCHO HO3 HR3 HJ3 HRT3 HST3 cJ0 cJ1
                go_wp2_with (at_builtin; refine append_cells (W := w4.alloc (.cells #[.slice NN nrm.length d4, .int .i64 off, .slice AL LL.length cL, .slice AR RR.length cR, .int .i64 tries] 187)) (w.heap.size + 1) rfl _ _ 65 70 (.agg #[.bool false, .slice none 0 0, .slice none 0 0, .int .i64 0, .int .i64 0, .int .i64 0]) 6 80 rfl Tryz.underlying65 Tryz.info70 rfl (by decide) (by decide) (.slice N nodes.length cN) nodes.length cells4 [.bool false, .slice none 0 0, .slice NN nrm.length d4, .int .i64 off, .int .i64 ((nodes.length : Int) + 1), .int .i64 0] rfl (by rw [World.size_alloc]; rfl) rfl (by simp [Value.oneCell']) HO5.out (by simp; omega) (by have := HNL.out; omega) ?_)
                intro A6 c6 w6 ho6 hg6 hat6 hsz6
                have hot6 := Other.row HO5.out hg6
                have hk6 := hot6.kept (by decide) (by decide)
                have e6 : (nodes3 ++ [splitN nrm off ((nodes.length : Int) + 1)]).length = nodes.length + 1 := by simp [hl3]
                have HST6 : Hid (GrowSt w w6 b v (parV p L c) g (.slice (some ⟨gS, 0, none⟩) st.length cS) (.slice A6 (nodes.length + 1) c6) (nodes3 ++ [splitN nrm off ((nodes.length : Int) + 1)]) st s4) :=
                  HST5.out.nodesTo hot6 ((Below.refl _ _).grown hg6 (by simp; omega) (own_base HO5.out)) (cells' := cells4 ++ [.bool false, .slice none 0 0, .slice NN nrm.length d4, .int .i64 off, .int .i64 ((nodes.length : Int) + 1), .int .i64 0]) (by rw [e6]; exact ho6) ((HR5.out.imp fun x c hx => hx.kept hk6).snoc ((split_cells _ _ _ _ _ _ HNN.out hcN).kept hk6) rfl)
                have hG6 := (hot6.2 _ _ _ _ HG5.out (by decide)).trans HG5.out
                have hJ6 := (hot6.2 _ _ _ _ HJ5.out (by decide)).trans HJ5.out
                have HG6 := Lib.hid hG6
                have HJ6 := Lib.hid hJ6
                have cK3 : w6.cell? ⟨w4.heap.size, 3, none⟩ = some (.slice AR RR.length cR) := cell_of_row _ _ _ _ _ _ hG6
                have cJ6 : w6.cell? ⟨wr.heap.size, 1, none⟩ = some (.int .i64 (j.depth : Int)) := cell_of_row _ _ _ _ _ _ hJ6
                have HLL6 := Lib.hid (HLL.out.kept hk6 (.inl rfl))
                have HPU : Hid (Calls Tryz.prog 98 #[.slice AR RR.length cR, .int .i64 ((j.depth : Int) + 1), .int .i64 (nodes.length : Int), .pointer (some ⟨g, 0, none⟩)] w6 (PushPost w6 (w.heap.size + 1) g (.slice (some ⟨gS, 0, none⟩) st.length cS) st.reverse ⟨RR, j.depth + 1, (nodes.length : Int)⟩)) :=
                  push_any (w.heap.size + 1) g _ st.reverse ⟨RR, j.depth + 1, (nodes.length : Int)⟩ AR cR w6 HST6.out.stack (HRR.out.kept hk6 (.inl rfl)) hcR (by have := HST6.out.stack.base; have := lt_of_block HST6.out.stack.box; omega) (by have := HSTL.out; simp; omega)
                clear ho6 hg6 hat6 hot6 hk6 hG6 hJ6
                clear h2 hjl hstl hnl hsum hjd64 hpos hm1 hscS hNcap hokL hokR hcN
                go_wp2_with fail
                refine HPU.out.mono ?_
                rintro e w7 ⟨rfl, v7, hst7, hown7, hbl7, hsz7, hblk7⟩
                have HST7 := Lib.hid (HST6.out.push hst7 hbl7 hsz7 hblk7)
                have hk7 := push_kept HST6.out.stack hsz7 hblk7
                have hG7 := (hblk7 w4.heap.size (lt_of_block HG6.out) (by omega) (by intro e; have e' : some w4.heap.size = some gS := e; injection e' with e'; omega)).trans HG6.out
                have hJ7 := (hblk7 wr.heap.size (lt_of_block HJ6.out) (by omega) (by intro e; have e' : some wr.heap.size = some gS := e; injection e' with e'; omega)).trans HJ6.out
                have cK2 : w7.cell? ⟨w4.heap.size, 2, none⟩ = some (.slice AL LL.length cL) := cell_of_row _ _ _ _ _ _ hG7
                have cJ7 : w7.cell? ⟨wr.heap.size, 1, none⟩ = some (.int .i64 (j.depth : Int)) := cell_of_row _ _ _ _ _ _ hJ7
                have HPU2 : Hid (Calls Tryz.prog 98 #[.slice AL LL.length cL, .int .i64 ((j.depth : Int) + 1), .int .i64 (-1), .pointer (some ⟨g, 0, none⟩)] w7 (PushPost w7 (w.heap.size + 1) g v7 (⟨RR, j.depth + 1, (nodes.length : Int)⟩ :: st).reverse ⟨LL, j.depth + 1, -1⟩)) :=
                  push_any (w.heap.size + 1) g v7 (⟨RR, j.depth + 1, (nodes.length : Int)⟩ :: st).reverse ⟨LL, j.depth + 1, -1⟩ AL cL w7 HST7.out.stack (HLL6.out.kept hk7 (.inl rfl)) hcL (by have := HST7.out.stack.base; have := lt_of_block HST7.out.stack.box; omega) (by have := HSTL.out; simp; omega)
                clear hst7 hown7 hbl7 hblk7 hk7 hG7 hJ7 cK3 cJ6
                go_wp2_with fail
                refine HPU2.out.mono ?_
                rintro e w8 ⟨rfl, v8, hst8, hown8, hbl8, hsz8, hblk8⟩
                have HST8 := Lib.hid (HST7.out.push hst8 hbl8 hsz8 hblk8)
                clear hst8 hown8 hbl8 hblk8 cK2 cJ7
                go_wp2
                go_roundg (wt (⟨LL, j.depth + 1, -1⟩ :: ⟨RR, j.depth + 1, (nodes.length : Int)⟩ :: st))
                case measure =>
                  rw [wt_cons, wt_cons, wt_cons]
                  show 2 * LL.length - 1 + (2 * RR.length - 1 + wt st) < _
                  have := HOKL.out
                  have := HOKR.out
                  omega
                case rel => exact ⟨_, _, _, s4, rfl, HRE4.out, by have := HST8.out; rw [e6] at *; exact this⟩
end Go.Proofs.YtladmconpolneaaGreat

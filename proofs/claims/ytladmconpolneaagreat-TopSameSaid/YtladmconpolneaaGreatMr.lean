/- Several texts of this seat, laid together (no statement of its own): their conditions stand in each theorem. -/
import Derived.Test.YtladmconpolneaaGreatMq
import Derived.Test.YtladmconpolneaaGreatMp
/- search.Gather, walked. -/
set_option linter.unusedVariables false
set_option linter.unusedSimpArgs false
namespace Go.Proofs.YtladmconpolneaaGreat
open Go.RowKit
def nodesN (ts : List (List Node)) : Nat := (ts.map List.length).sum
theorem begin_bs (ts : List (List Node)) (htr : ∀ t ∈ ts, ∃ bt : BT, t = bt.nodes 0) : ∀ m, m ≤ ts.length → ∃ bs : List (El × BT), (bs.map (·.1)).Perm (beginL m) ∧ (∀ p ∈ bs, TaskAt ts p.1 p.2) ∧ bsz bs = nodesN (ts.take m)
  | 0, _ => ⟨[], .refl _, fun p hp => (by cases hp), (by simp [bsz, nodesN])⟩
  | m + 1, hm => by
    obtain ⟨bs, h1, h2, h3⟩ := begin_bs ts htr m (by omega)
    obtain ⟨bt, hbt⟩ := htr _ (List.getElem_mem (show m < ts.length by omega))
    refine ⟨bs ++ [([9223372036854775807, (m : Int), (m : Int), 0], bt)], ?_, ?_, ?_⟩
    · rw [List.map_append]
      exact (h1.append_right _).trans (pushL_perm ltT _ _).symm
    · intro p hp
      rcases List.mem_append.1 hp with hp | hp
      · exact h2 p hp
      · have e : p = ([9223372036854775807, (m : Int), (m : Int), 0], bt) := by simpa using hp
        subst e
        refine ⟨9223372036854775807, (m : Int), m, 0, [], [], by simp, by omega, ?_, rfl⟩
        rw [List.getD_eq_getElem?_getD, List.getElem?_eq_getElem (show m < ts.length by omega)]
        simpa using hbt
    · have e1 : bsz (bs ++ [([9223372036854775807, (m : Int), (m : Int), 0], bt)]) = bsz bs + bt.size := by simp [bsz]
      rw [e1, h3, List.take_succ_eq_append_getElem (show m < ts.length by omega)]
      simp only [nodesN, List.map_append, List.sum_append, List.map_cons, List.map_nil, List.sum_cons, List.sum_nil]
      rw [hbt, bt.nodes_length]
      omega
def gs0 (n : Nat) : GS := ⟨beginL n, (n : Int), 0, 0, 0⟩
theorem gok_start (ts : List (List Node)) (n : Nat) (htr : ∀ t ∈ ts, ∃ bt : BT, t = bt.nodes 0) : GOk ts n (nodesN ts) (gs0 ts.length) := by
  obtain ⟨bs, h1, h2, h3⟩ := begin_bs ts htr ts.length (Nat.le_refl _)
  rw [List.take_length] at h3
  refine ⟨⟨bs, h1, h2, (by show (0 : Int) + ((bsz bs : Nat) : Int) = ((nodesN ts : Nat) : Int); rw [h3]; omega)⟩, ⟨[], MetIs.nil, List.nodup_nil, fun i hi => (by cases hi)⟩, ?_, Int.le_refl _⟩
  exact ⟨(by show (0 : Int) ≤ (ts.length : Int); omega), (by show (ts.length : Int) = (ts.length : Int) + ((ts.length : Int) - (ts.length : Int)); omega), (by show (ts.length : Int) ≤ (ts.length : Int) + 2 * 0; omega)⟩
theorem nodeB_of {dim : Nat} {x : Node} (h : NodeOk dim x) (hd : dim ≤ 1024) : NodeB x := by
  cases h with
  | leaf ids => exact ⟨fun y hy => (by cases hy), Nat.zero_le _, (show -9007199254740992 ≤ (0 : Int) ∧ (0 : Int) ≤ 9007199254740992 by omega)⟩
  | split nrm off left right hl hb ho => exact ⟨hb, by show nrm.length ≤ 1024; omega, ho⟩
theorem WalkAt.keepT {w W : World} {T : List TypeId} {B b h : Nat} {I lf dp TV vV v : Value} {s n : Int} {l : List El} (x : WalkAt w B b h I lf dp TV vV s n v l) (hk : KeepT T w W) (h1 : 157 ∉ T) (h2 : 253 ∉ T) (h3 : 205 ∉ T) : WalkAt W B b h I lf dp TV vV s n v l := by
  obtain ⟨rc, r1, r2⟩ := x.heap.row
  exact ⟨hk.2 _ _ _ _ x.box h1, x.base, ⟨hk.2 _ _ _ _ x.heap.box h2, x.heap.base, rc, own_keepT r1 hk h3, r2⟩⟩
theorem RowAt.low {w : World} {B B' sz : Nat} {e : TypeId} {v : Value} {l : List (List Int)} (h : RowAt w B e sz v l) (hb : B' ≤ B) : RowAt w B' e sz v l := by
  obtain ⟨rc, r1, r2⟩ := h
  exact ⟨rc, own_low r1 hb, r2⟩
theorem WalkAt.low {w : World} {B B' b h : Nat} {I lf dp TV vV v : Value} {s n : Int} {l : List El} (x : WalkAt w B b h I lf dp TV vV s n v l) (hb : B' ≤ B) : WalkAt w B' b h I lf dp TV vV s n v l :=
  ⟨x.box, Nat.le_trans hb x.base, ⟨x.heap.box, Nat.le_trans hb x.heap.base, x.heap.row.low hb⟩⟩
theorem MarksAt.low {w : World} {B B' m g n c X : Nat} (h : MarksAt w B m g n c X) (hb : B' ≤ B) : MarksAt w B' m g n c X := ⟨h.box, h.word, ⟨Nat.le_trans hb h.base.1, Nat.le_trans hb h.base.2.1, h.base.2.2⟩, h.bd⟩
def GatherPost (w : World) (n : Nat) (R : GS) (e : Ending) (w' : World) : Prop := ∃ A c, e = .returned (.tuple #[.slice A (metTo R.X n).length c, .int .i64 R.st, .int .i64 0]) ∧ w'.ownsRow w.heap.size 3 1 (.slice A (metTo R.X n).length c) (metTo R.X n).length (natV (metTo R.X n)) ∧ Below w.heap.size w w'
set_option maxHeartbeats 3200000 in
set_option maxRecDepth 100000 in
theorem gather_any (w : World) (B bi dim n lfn depth : Nat) (F : List Int) (TA : Option Addr) (tc : Nat) (ts : List (List Node)) (h : FrAt w B bi dim n lfn depth F TA tc ts) (htr : ∀ t ∈ ts, ∃ bt : BT, t = bt.nodes 0) (hN : nodesN ts ≤ 10000)
    (vec : List Int) (Av : Option Addr) (cv : Nat) (hv : Reads w Av vec.length (i32V vec)) (hve : vecE vec dim = 0) (hvb : Bd 2097152 vec) (limit : Nat) (hl : 1 ≤ limit ∧ limit ≤ 60000) :
    Calls Tryz.prog 41 #[frV bi lfn depth TA ts.length tc, .slice Av vec.length cv, .int .i64 (limit : Int)] w (GatherPost w n (grun ts vec limit (nodesN ts + 1) (gs0 ts.length))) := by
  obtain ⟨l1, l2⟩ := hl
  have HB0 : Hid (∀ o, Below w.heap.size w (w.alloc o)) := fun o => (Below.refl _ _).alloc (Nat.le_refl _) _
  have HI := Lib.hid Tryz.size62
  have HFR := Lib.hid h
  have HV := Lib.hid hv
  have HVB := Lib.hid hvb
  have HNN := Lib.hid hN
  have HG0 := Lib.hid (gok_start ts n htr)
  have hcnt := h.ok.cnt
  have HCN := Lib.hid hcnt
  obtain ⟨R, hR⟩ : ∃ R, grun ts vec limit (nodesN ts + 1) (gs0 ts.length) = R := ⟨_, rfl⟩
  have HR := Lib.hid hR
  rw [hR]
  have HXC : Hid (∀ W, Below w.heap.size w W → Calls Tryz.prog 38 #[frV bi lfn depth TA ts.length tc, .slice Av vec.length cv] W fun e w' => e = .returned (.int .i64 0) ∧ Below W.heap.size W w') := fun W hb => by
    have := xcheck_any W B bi dim n lfn depth F TA tc ts (h.below hb) vec Av cv (hv.below hb)
    rw [hve] at this
    exact this
  have HBG : Hid (∀ W, Calls Tryz.prog 74 #[frV bi lfn depth TA ts.length tc, .slice Av vec.length cv] W fun e w' => ∃ b h v', e = .returned (.pointer (some ⟨b, 0, none⟩)) ∧ WalkAt w' W.heap.size b h (.pointer (some ⟨bi, 0, none⟩)) (.int .i64 (lfn : Int)) (.int .i64 (depth : Int)) (.slice TA ts.length tc) (.slice Av vec.length cv) 0 (ts.length : Int) v' (beginL ts.length) ∧ Below W.heap.size W w') := fun W => begin_any (some ⟨bi, 0, none⟩) Av TA (lfn : Int) (depth : Int) vec.length cv ts.length tc W (by omega)
  have HLN : Hid (∀ W, Below w.heap.size w W → Calls Tryz.prog 73 #[.pointer (some ⟨bi, 0, none⟩)] W fun e w' => e = .returned (.int .i64 (n : Int)) ∧ Below W.heap.size W w') := fun W hb => (len_any W (h.it.below hb)).mono (by rintro e w' ⟨rfl, nn, rfl⟩; exact ⟨rfl, bel_drewN (Below.refl _ _) _⟩)
  have HMN : Hid (∀ W, Calls Tryz.prog 75 #[.int .i64 (n : Int)] W fun e w' => ∃ m g, e = .returned (.pointer (some ⟨m, 0, none⟩)) ∧ MarksAt w' W.heap.size m g n 0 0 ∧ Below W.heap.size W w') := fun W => mnew_any n W h.n
  have HG := Lib.hid (heap_alloc_new w (.cells #[.pointer (some ⟨bi, 0, none⟩), .int .i64 (lfn : Int), .int .i64 (depth : Int), .slice TA ts.length tc] 62))
  have a1 : ¬ (limit : Int) < 1 := by omega
  have a2 : ¬ (limit : Int) > 16777216 := by omega
  have hlb : (limit : Int) ≤ 60000 := by omega
  clear h hv hvb hN hcnt hR hve htr l1 l2
  go_enter Tryz.func41, Tryz.ntmps41
  go_wp2_with (first
    | (refine wpList_load_row rfl 62 (.tmp 3) rfl w.heap.size rfl 62 #[.pointer (some ⟨bi, 0, none⟩), .int .i64 (lfn : Int), .int .i64 (depth : Int), .slice TA ts.length tc] (0, 0) _ HG.out Tryz.underlying62 rfl HI.out ?_; clear HG)
    | (refine wpList_load_row rfl 62 (.tmp 3) rfl w.heap.size rfl 62 #[.pointer (some ⟨bi, 0, none⟩), .int .i64 (lfn : Int), .int .i64 (depth : Int), .slice TA ts.length tc] (0, 0) _ HG2.out Tryz.underlying62 rfl HI.out ?_)
    | (go_at_call 38; refine (HXC.out _ (HB0.out _)).mono ?_; rintro e w2 ⟨rfl, hb⟩
       have HB2 := Lib.hid ((HB0.out _).trans (hb.mono (HB0.out _).size))
       have HG2 := Lib.hid ((hb.block _ (by simp)).trans (heap_alloc_new w (.cells #[.pointer (some ⟨bi, 0, none⟩), .int .i64 (lfn : Int), .int .i64 (depth : Int), .slice TA ts.length tc] 62)))
       clear hb)
    | (go_at_call 74; refine (HBG.out _).mono ?_; rintro e w3 ⟨b, hp, v0, rfl, hw, hb⟩
       have HB3 := Lib.hid (HB2.out.trans (hb.mono HB2.out.size))
       have HW3 := Lib.hid hw
       have HG3 := Lib.hid ((hb.block _ (lt_of_block HG2.out)).trans HG2.out)
       have q0 : w3.cell? ⟨w.heap.size, 0, none⟩ = some (.pointer (some ⟨bi, 0, none⟩)) := cell_of_row _ _ _ _ _ _ HG3.out
       clear hw hb)
    | (go_at_call 73; refine (HLN.out _ HB3.out).mono ?_; rintro e w4 ⟨rfl, hb⟩
       have HB4 := Lib.hid (HB3.out.trans (hb.mono HB3.out.size))
       have HW4 := Lib.hid (HW3.out.move hb)
       clear hb)
    | (go_at_call 75; refine (HMN.out _).mono ?_; rintro e w5 ⟨m, g, rfl, hm, hb⟩
       have HB5 := Lib.hid (HB4.out.trans (hb.mono HB4.out.size))
       have HW5 := Lib.hid (HW4.out.move hb)
       have HM5 := Lib.hid hm
       clear hm hb)
    | fail)
  have HWB := Lib.hid (HW5.out.low HB2.out.size)
  have HMB := Lib.hid (HM5.out.low HB4.out.size)
  have HS5 : Hid (w.heap.size ≤ w5.heap.size) := HB5.out.size
  clear a1 a2 q0 HB2 HB3 HB4 HG2 HG3 HW3 HW4 HW5 HM5 HXC HBG HLN HMN HB0
  go_loopg [] (nodesN ts + 1) (fun gk wr => ∃ (f : Nat) (s : GS) (v : Value), f = gk ∧ Hid (grun ts vec limit f s = R) ∧ Hid (GOk ts n (nodesN ts) s) ∧ Hid ((nodesN ts : Int) + 1 ≤ s.st + (f : Int)) ∧
    Hid (WalkAt wr w.heap.size b hp (.pointer (some ⟨bi, 0, none⟩)) (.int .i64 (lfn : Int)) (.int .i64 (depth : Int)) (.slice TA ts.length tc) (.slice Av vec.length cv) s.st s.nx v s.l) ∧ Hid (MarksAt wr w.heap.size m g n s.c s.X) ∧ Hid (Below w.heap.size w wr))
  case atStart => exact ⟨nodesN ts + 1, gs0 ts.length, v0, rfl, HR, HG0, Lib.hid (by show _ ≤ (0 : Int) + _; omega), HWB, HMB, HB5⟩
  case round =>
    obtain ⟨f, s, v, rfl, HGR, HGO, HFU, HW, HM, HBW⟩ := hrel
    have HLEN := Lib.hid (mlen_any w.heap.size m g n s.c s.X wr HM.out)
    have hc0 : (0 : Int) ≤ (s.c : Int) := by omega
    by_cases hlim : limit ≤ s.c
    · have hli : ¬ (s.c : Int) < (limit : Int) := by omega
      have hf1 : ∃ f', f = f' + 1 := by
        obtain ⟨bs, b1, b2, b3⟩ := HGO.out.bs
        have := HFU.out
        exact ⟨f - 1, by omega⟩
      obtain ⟨f', rfl⟩ := hf1
      have hRs : s = R := by have := HGR.out; simp only [grun, if_pos hlim] at this; exact this
      subst hRs
      clear hlim HGR
      go_wp2_with (first
        | (go_at_call 76; refine HLEN.out.mono ?_; rintro e w6 ⟨rfl, rfl⟩)
        | fail)
      have c6 : w6.cell? ⟨b, 6, none⟩ = some (.int .i64 s.st) := cell_of_row _ _ _ _ _ _ HW.out.box
      have HKEEP := Lib.hid (fun (W : World) (hb : Below w6.heap.size w6 W) => keepc hb c6)
      have HAL : Hid (∀ W, Calls Tryz.prog 80 #[.pointer (some ⟨m, 0, none⟩)] W fun e w' => e = .returned (.func (.func 118) #[] #[.pointer (some ⟨W.heap.size, 0, none⟩)]) ∧ w' = W.alloc (.cells #[.pointer (some ⟨m, 0, none⟩)] 146)) := mall_any m
      have HBA : Hid (Below w6.heap.size w6 (w6.drew.alloc (.cells #[.pointer (some ⟨m, 0, none⟩)] 146))) := (bel_drew (Below.refl _ _)).alloc (Nat.le_refl _) _
      have HCO := Lib.hid (collect_any (w6.drew.alloc (.cells #[.pointer (some ⟨m, 0, none⟩)] 146)) w.heap.size w6.heap.size m g n s.c s.X (HM.out.keepT (T := []) (KeepT.below HBA.out) (by simp) (by simp)) (alloc_at0 _ _ _ rfl))
      go_region_held3 (fun W => W.cell? ⟨b, 6, none⟩ = some (.int .i64 s.st)) (first | go_keep | exact HKEEP.out _ HBN.out)
        (first
          | (go_at_call 80; refine (HAL.out _).mono ?_; rintro e w8 ⟨rfl, rfl⟩; have HBN : Hid (Below w6.heap.size w6 (w6.drew.alloc (.cells #[.pointer (some ⟨m, 0, none⟩)] 146))) := HBA.out)
          | (go_at_call 79; refine HCO.out.mono ?_; rintro e w9 ⟨A9, c9, rfl, ho, hb⟩; have HO9 := Lib.hid ho; have HBM := Lib.hid (HBA.out.trans (hb.mono HBA.out.size)); clear HBN; have HBN := HBM; clear HBM ho hb))
      go_wp2
      refine bodyPost_ret (results_tmp3 rfl _ _ _) rfl ?_
      exact ⟨A9, c9, rfl, own_low HO9.out (Nat.le_trans HBW.out.size HBA.out.size), HBW.out.trans (HBN.out.mono HBW.out.size)⟩
    · have hli : (s.c : Int) < (limit : Int) := by omega
      obtain ⟨f, rfl⟩ : ∃ f', f = f' + 1 := by
        obtain ⟨bs, b1, b2, b3⟩ := HGO.out.bs
        have := HFU.out
        exact ⟨f - 1, by omega⟩
      have hG := HGR.out
      simp only [grun, if_neg hlim] at hG
      clear HGR hlim
      cases hl : s.l with
      | nil =>
        rw [if_pos hl] at hG
        subst hG
        have HWl := HW.out
        rw [hl] at HWl
        have HSN := Lib.hid (step_none w.heap.size b hp _ _ _ _ _ s.st s.nx v wr HWl HBW.out.size)
        clear HWl hl HW
        go_wp2_with (first
          | (go_at_call 76; refine HLEN.out.mono ?_; rintro e w6 ⟨rfl, rfl⟩)
          | (go_at_call 77; refine HSN.out.mono ?_; rintro e w7 ⟨rfl, v7, hw7, hb7, hk7, hs7⟩
             have HW7 := Lib.hid hw7
             have HM7 := Lib.hid (HM.out.keepT hk7 (by decide) (by decide))
             have HB7 := Lib.hid (HBW.out.trans hb7)
             clear hw7 hb7 hk7 hs7)
          | fail)
        have c6 : w7.cell? ⟨b, 6, none⟩ = some (.int .i64 s.st) := cell_of_row _ _ _ _ _ _ HW7.out.box
        have HKEEP := Lib.hid (fun (W : World) (hb : Below w7.heap.size w7 W) => keepc hb c6)
        have HAL : Hid (∀ W, Calls Tryz.prog 80 #[.pointer (some ⟨m, 0, none⟩)] W fun e w' => e = .returned (.func (.func 118) #[] #[.pointer (some ⟨W.heap.size, 0, none⟩)]) ∧ w' = W.alloc (.cells #[.pointer (some ⟨m, 0, none⟩)] 146)) := mall_any m
        have HBA : Hid (Below w7.heap.size w7 (w7.drew.alloc (.cells #[.pointer (some ⟨m, 0, none⟩)] 146))) := (bel_drew (Below.refl _ _)).alloc (Nat.le_refl _) _
        have HCO := Lib.hid (collect_any (w7.drew.alloc (.cells #[.pointer (some ⟨m, 0, none⟩)] 146)) w.heap.size w7.heap.size m g n s.c s.X (HM7.out.keepT (T := []) (KeepT.below HBA.out) (by simp) (by simp)) (alloc_at0 _ _ _ rfl))
        go_region_held3 (fun W => W.cell? ⟨b, 6, none⟩ = some (.int .i64 s.st)) (first | go_keep | exact HKEEP.out _ HBN.out)
          (first
            | (go_at_call 80; refine (HAL.out _).mono ?_; rintro e w8 ⟨rfl, rfl⟩; have HBN : Hid (Below w7.heap.size w7 (w7.drew.alloc (.cells #[.pointer (some ⟨m, 0, none⟩)] 146))) := HBA.out)
            | (go_at_call 79; refine HCO.out.mono ?_; rintro e w9 ⟨A9, c9, rfl, ho, hb⟩; have HO9 := Lib.hid ho; have HBM := Lib.hid (HBA.out.trans (hb.mono HBA.out.size)); clear HBN; have HBN := HBM; clear HBM ho hb))
        go_wp2
        refine bodyPost_ret (results_tmp3 rfl _ _ _) rfl ?_
        exact ⟨A9, c9, rfl, own_low HO9.out (Nat.le_trans HB7.out.size HBA.out.size), HB7.out.trans (HBN.out.mono HB7.out.size)⟩
      | cons x r =>
        rw [if_neg (by rw [hl]; exact List.cons_ne_nil _ _)] at hG
        have HG := Lib.hid hG
        obtain ⟨hgo2, hst2⟩ := gok_step vec HFR.out.ok HGO.out hl
        obtain ⟨bt, bs', hta, hb1, hb2, hb3⟩ := HGO.out.head hl
        obtain ⟨mm, qq, k, a, hk, ha, hx, hnd, -⟩ := hta.node
        have hmem : nodeOf ts x ∈ ts[k] := by rw [← hnd]; exact List.getElem_mem ha
        have htk := HFR.out.ok.ok _ (List.getElem_mem hk)
        have hx0 : x.getD 0 0 = mm := by rw [hx]; rfl
        have hx2 : x.getD 2 0 = (k : Int) := by rw [hx]; rfl
        have hst0 := HGO.out.st
        have hnx0 := HGO.out.nx
        have hrl : r.length ≤ 10000 := by
          have h1 := hb1.length_eq
          rw [List.length_map] at h1
          have h2 := bsz_length bs'
          have h3 := HNN.out
          have h4 := bt.size_pos
          omega
        have hstb : s.st ≤ 10000 := by have := HNN.out; have := bt.size_pos; omega
        have HW' := HW.out
        rw [hl, hx] at HW'
        have HSS := Lib.hid (step_some w.heap.size b hp _ _ _ TA Av tc cv ts vec s.st s.nx v mm qq k a r wr HW' HBW.out.size (HFR.out.fr.keep (KeepF.below HBW.out)) ⟨HV.out.old HBW.out fun ad e hn => HV.out.lt ad e hn, fun ad e hn => HV.out.lt ad e hn⟩ hk ha (nodeOf ts x) hnd (nodeB_of (htk.ok _ hmem) HFR.out.d.2) HVB.out ⟨hst0, by omega⟩ ⟨hnx0.1, by have := HCN.out.2; omega⟩ (by omega) (by have := HCN.out.2; omega) (by have := htk.len.2; omega))
        have HGO2 := Lib.hid hgo2
        have HFU2 : Hid ((nodesN ts : Int) + 1 ≤ (gstep ts vec s).st + (f : Int)) := by rw [hst2]; have := HFU.out; show _ ≤ _; omega
        have hgs : gstep ts vec s = if (nodeOf ts x).leaf then ⟨popL ltT ([mm, qq, (k : Int), (a : Int)] :: r), s.nx, s.st + 1, (addAll s.X s.c (nodeOf ts x).ids).1, (addAll s.X s.c (nodeOf ts x).ids).2⟩
            else ⟨pushL ltT (pushL ltT (popL ltT ([mm, qq, (k : Int), (a : Int)] :: r)) [min mm (-(marL (nodeOf ts x).nrm (nodeOf ts x).off vec)), s.nx, (k : Int), (nodeOf ts x).left]) [min mm (marL (nodeOf ts x).nrm (nodeOf ts x).off vec), s.nx + 1, (k : Int), (nodeOf ts x).right], s.nx + 2, s.st + 1, s.X, s.c⟩ := by
          unfold gstep
          rw [hl]
          dsimp only
          rw [hx0, hx2, hx]
        have HGS := Lib.hid hgs
        have HIDS : Hid ((nodeOf ts x).leaf = true → ∀ i ∈ (nodeOf ts x).ids, i < n) := fun hlf i hi => htk.lt i (lf_ids hmem hlf i hi)
        have HIL : Hid ((nodeOf ts x).ids.length ≤ 60000) := htk.il _ hmem
        have HMET := Lib.hid HGO.out.met
        clear hG hgo2 hst2 hta hb1 hb2 hb3 hx hnd hmem htk hx0 hx2 hst0 hnx0 hrl hstb HW' hgs HW hl HFU
        generalize gstep ts vec s = s2 at *
        generalize nodeOf ts x = nd at *
        cases hlf : nd.leaf with
        | true =>
          have hG2 := HGS.out
          rw [if_pos hlf] at hG2
          have HG2 := Lib.hid hG2
          have HID2 := Lib.hid (HIDS.out hlf)
          have HLF := Lib.hid hlf
          clear hG2 hlf HGS HIDS
          go_wp2_with (first
            | (go_at_call 76; refine HLEN.out.mono ?_; rintro e w6 ⟨rfl, rfl⟩)
            | (go_at_call 77; refine HSS.out.mono ?_; rintro e w7 ⟨h1, -⟩
               obtain ⟨Ai, ca, rfl, hrt, hca, v7, hw7, hb7, hk7, hs7⟩ := h1 HLF.out
               have HW7 := Lib.hid hw7
               have HM7 := Lib.hid (HM.out.keepT hk7 (by decide) (by decide))
               have HB7 := Lib.hid (HBW.out.trans hb7)
               have HRT7 := Lib.hid hrt
               clear h1 hrt hca hw7 hb7 hk7 hs7)
            | fail)
          go_loopg [16, 50] nd.ids.length (fun gk u i wq => ∃ (q X c : Nat), gk = nd.ids.length - q ∧ q ≤ nd.ids.length ∧ i = .int .i64 (q : Int) ∧ Hid (addAll X c (nd.ids.drop q) = addAll s.X s.c nd.ids) ∧ Hid (∃ l, MetIs X c l ∧ l.Nodup ∧ ∀ i ∈ l, i < n) ∧
            Hid (WalkAt wq w.heap.size b hp (.pointer (some ⟨bi, 0, none⟩)) (.int .i64 (lfn : Int)) (.int .i64 (depth : Int)) (.slice TA ts.length tc) (.slice Av vec.length cv) (s.st + 1) s.nx v7 (popL ltT ([mm, qq, (k : Int), (a : Int)] :: r))) ∧ Hid (MarksAt wq w.heap.size m g n c X) ∧ Hid (Below w.heap.size w wq) ∧ Hid (RT wq 3 Ai nd.ids.length (natV nd.ids)))
          case atStart => exact ⟨0, s.X, s.c, rfl, Nat.zero_le _, rfl, Lib.hid rfl, HMET, HW7, HM7, HB7, HRT7⟩
          case round =>
            obtain ⟨q, X, c, rfl, hq, rfl, HAD, HME, HWq, HMq, HBq, HRq⟩ := hrel
            by_cases hqn : q = nd.ids.length
            · subst hqn
              have had := HAD.out
              rw [List.drop_length] at had
              have hXc : (X, c) = addAll s.X s.c nd.ids := had
              rw [← hXc] at HG2
              clear had hXc HAD
              go_wp2
              go_roundg f
              case measure => omega
              case rel =>
                refine ⟨f, s2, v7, rfl, HG, HGO2, HFU2, ?_, ?_, HBq⟩
                · rw [HG2.out]; exact HWq
                · rw [HG2.out]; exact HMq
            · have hqn' : q < nd.ids.length := by omega
              have hql : (q : Int) < (nd.ids.length : Int) := by omega
              have hq9 : (0 : Int) ≤ (q : Int) := by omega
              have hqb : (q : Int) ≤ 60000 := by have := HIL.out; omega
              obtain ⟨ad, rfl, hc⟩ := HRq.out.1.nat q hqn'
              have hgd : nd.ids.getD q 0 = nd.ids[q] := by rw [List.getD_eq_getElem?_getD, List.getElem?_eq_getElem hqn']; rfl
              rw [hgd] at hc
              have hidn := HID2.out _ (List.getElem_mem hqn')
              have had := HAD.out
              rw [List.drop_eq_getElem_cons hqn'] at had
              simp only [addAll] at had
              obtain ⟨l, e1, e2, e3⟩ := HME.out
              have hcb : c ≤ 64 := by have := nodup_le n l e2 e3; have := e1.1; have := HFR.out.n.2; omega
              have HADD := Lib.hid (madd_any w.heap.size m g n c X nd.ids[q] wr HMq.out hidn (by omega))
              have hme2 : ∃ l, MetIs (if X.testBit nd.ids[q] then X else X ||| 2 ^ nd.ids[q]) (if X.testBit nd.ids[q] then c else c + 1) l ∧ l.Nodup ∧ ∀ i ∈ l, i < n := by
                obtain ⟨l', x1, x2, x3, _⟩ := addAll_met (n := n) [nd.ids[q]] X c l e1 e2 e3 (by simpa using hidn)
                exact ⟨l', x1, x2, x3⟩
              have HAD2 := Lib.hid had
              have HME2 := Lib.hid hme2
              clear hgd hidn had e1 e2 e3 hcb hme2 hqn HAD
              generalize nd.ids[q] = id at *
              go_wp2_with (first
                | (go_at_call 78; refine HADD.out.mono ?_; rintro e w8 ⟨rfl, hb8, hk8, hs8, hm8⟩
                   have HB8 := Lib.hid (HBq.out.trans hb8)
                   have HW8 := Lib.hid (HWq.out.keepT hk8 (by decide) (by decide) (by decide))
                   have HR8 := Lib.hid (HRq.out.keep fun q cs fr hq => (hk8.2 _ _ _ _ hq (by decide)).trans hq.symm)
                   have HM8 := Lib.hid hm8
                   clear hb8 hk8 hs8 hm8)
                | fail)
              go_roundg (nd.ids.length - (q + 1))
              case measure => omega
              case rel => exact ⟨q + 1, _, _, rfl, by omega, by simp, HAD2, HME2, HW8, HM8, HB8, HR8⟩
        | false =>
          have hG2 := HGS.out
          rw [if_neg (by rw [hlf]; decide)] at hG2
          have HG2 := Lib.hid hG2
          have HLF := Lib.hid hlf
          clear hG2 hlf HGS HIDS
          go_wp2_with (first
            | (go_at_call 76; refine HLEN.out.mono ?_; rintro e w6 ⟨rfl, rfl⟩)
            | (go_at_call 77; refine HSS.out.mono ?_; rintro e w7 ⟨-, h1⟩
               obtain ⟨rfl, v7, hw7, hb7, hk7, hs7⟩ := h1 HLF.out
               have HW7 := Lib.hid hw7
               have HM7 := Lib.hid (HM.out.keepT hk7 (by decide) (by decide))
               have HB7 := Lib.hid (HBW.out.trans hb7)
               clear h1 hw7 hb7 hk7 hs7)
            | fail)
          go_loopg [16, 50] 0 (fun gk u i wq => i = .int .i64 0 ∧ wq = w7)
          case atStart => exact ⟨rfl, rfl⟩
          case round =>
            obtain ⟨rfl, rfl⟩ := hrel
            go_wp2
            go_roundg f
            case measure => omega
            case rel =>
              refine ⟨f, s2, v7, rfl, HG, HGO2, HFU2, ?_, ?_, HB7⟩
              · rw [HG2.out]; exact HW7
              · rw [HG2.out]; exact HM7
end Go.Proofs.YtladmconpolneaaGreat

/- index: the looks ahead of a query. -/
set_option linter.unusedVariables false
set_option linter.unusedSimpArgs false
namespace Go.Proofs.YtladmconpolneaaGreat
open Go.RowKit
/-- An index that may be asked. -/
structure StandAt (w : World) (B x b dim n leaf depth : Nat) (F : List Int) (TA : Option Addr) (tc : Nat) (ts : List (List Node)) : Prop where
  box : w.heap[x]? = some (.cells #[.int .i64 (dim : Int), .pointer (some ⟨b, 0, none⟩), .pointer (some ⟨b, 0, none⟩), .int .i64 (leaf : Int), .int .i64 (depth : Int), .slice TA ts.length tc, .bool true] 93 (0, 0))
  fr : FrAt w B b dim n leaf depth F TA tc ts
theorem StandAt.below {w W : World} {B x b dim n leaf depth : Nat} {F : List Int} {TA : Option Addr} {tc : Nat} {ts : List (List Node)} (h : StandAt w B x b dim n leaf depth F TA tc ts) (hb : Below w.heap.size w W) : StandAt W B x b dim n leaf depth F TA tc ts :=
  ⟨(hb.block _ (lt_of_block h.box)).trans h.box, h.fr.below hb⟩
/-- The cells of an index that a query reads. -/
def XS (x b leaf depth : Nat) (TA : Option Addr) (tl tc : Nat) (W : World) : Prop :=
  W.cell? ⟨x, 1, none⟩ = some (.pointer (some ⟨b, 0, none⟩)) ∧ W.cell? ⟨x, 2, none⟩ = some (.pointer (some ⟨b, 0, none⟩)) ∧ W.cell? ⟨x, 3, none⟩ = some (.int .i64 (leaf : Int)) ∧ W.cell? ⟨x, 4, none⟩ = some (.int .i64 (depth : Int)) ∧ W.cell? ⟨x, 5, none⟩ = some (.slice TA tl tc) ∧ W.cell? ⟨x, 6, none⟩ = some (.bool true)
theorem XS.of {w : World} {B x b dim n leaf depth : Nat} {F : List Int} {TA : Option Addr} {tc : Nat} {ts : List (List Node)} (h : StandAt w B x b dim n leaf depth F TA tc ts) : XS x b leaf depth TA ts.length tc w :=
  ⟨cell_of_row _ _ _ _ _ _ h.box, cell_of_row _ _ _ _ _ _ h.box, cell_of_row _ _ _ _ _ _ h.box, cell_of_row _ _ _ _ _ _ h.box, cell_of_row _ _ _ _ _ _ h.box, cell_of_row _ _ _ _ _ _ h.box⟩
set_option maxRecDepth 100000 in
set_option maxHeartbeats 1600000 in
theorem look1_any (w : World) (B x b dim n leaf depth : Nat) (F : List Int) (TA : Option Addr) (tc : Nat) (ts : List (List Node)) (h : StandAt w B x b dim n leaf depth F TA tc ts) (v : List Int) (Av : Option Addr) (cv : Nat) (hv : Reads w Av v.length (i32V v)) (k4 k5 : Nat)
    (h4 : w.heap[k4]? = some (.cells #[.pointer (some ⟨x, 0, none⟩)] 33 (0, 0))) (h5 : w.heap[k5]? = some (.cells #[.slice Av v.length cv] 30 (0, 0))) :
    Calls Tryz.prog 37 #[.pointer (some ⟨k4, 0, none⟩), .pointer (some ⟨k5, 0, none⟩)] w fun e w' => e = .returned (.int .i64 (vecE v dim)) ∧ Below w.heap.size w w' := by
  have HX : Hid (∀ m, Calls Tryz.prog 38 #[frV b leaf depth TA ts.length tc, .slice Av v.length cv] (w.drewN m) fun e w' => e = .returned (.int .i64 (vecE v dim)) ∧ Below (w.drewN m).heap.size (w.drewN m) w') := fun m =>
    xcheck_any (w.drewN m) B b dim n leaf depth F TA tc ts (h.fr.below (bel_drewN (Below.refl _ _) m)) v Av cv (hv.below (bel_drewN (Below.refl _ _) m))
  obtain ⟨c1, c2, c3, c4, c5, c6⟩ := XS.of h
  have d4 : w.cell? ⟨k4, 0, none⟩ = some (.pointer (some ⟨x, 0, none⟩)) := cell_of_row _ _ _ _ _ _ h4
  have d5 : w.cell? ⟨k5, 0, none⟩ = some (.slice Av v.length cv) := cell_of_row _ _ _ _ _ _ h5
  have HKEEP := Lib.hid (fun (W : World) (hb : Below w.heap.size w W) => And.intro (keepc hb d4) (And.intro (keepc hb c2) (And.intro (keepc hb c3) (And.intro (keepc hb c4) (And.intro (keepc hb c5) (keepc hb d5))))))
  obtain ⟨E, hE⟩ : ∃ E, vecE v dim = E := ⟨_, rfl⟩
  rw [hE] at HX ⊢
  have HBN : Hid (Below w.heap.size w w) := Below.refl _ _
  clear h hv h4 h5 hE c1 c6
  go_enter Tryz.func37, Tryz.ntmps37
  go_wp2_with fail
  go_region_held3 (fun W => W.cell? ⟨k4, 0, none⟩ = some (.pointer (some ⟨x, 0, none⟩)) ∧ W.cell? ⟨x, 2, none⟩ = some (.pointer (some ⟨b, 0, none⟩)) ∧ W.cell? ⟨x, 3, none⟩ = some (.int .i64 (leaf : Int)) ∧ W.cell? ⟨x, 4, none⟩ = some (.int .i64 (depth : Int)) ∧ W.cell? ⟨x, 5, none⟩ = some (.slice TA ts.length tc) ∧ W.cell? ⟨k5, 0, none⟩ = some (.slice Av v.length cv))
    (first | go_keep | exact HKEEP.out _ HBN.out)
    (first
      | (go_at_call 38; refine (HX.out 1).mono ?_; rintro e w8 ⟨rfl, hb⟩; have HBM : Hid (Below w.heap.size w w8) := (bel_drewN (Below.refl _ _) 1).trans hb; clear HBN; have HBN := HBM; clear HBM hb))
  go_wp2
  go_ret
  exact ⟨rfl, HBN.out⟩
set_option maxRecDepth 100000 in
set_option maxHeartbeats 1600000 in
theorem look2_any (w : World) (B x b dim n leaf depth : Nat) (F : List Int) (TA : Option Addr) (tc : Nat) (ts : List (List Node)) (h : StandAt w B x b dim n leaf depth F TA tc ts) (v : List Int) (Av : Option Addr) (cv : Nat) (hv : Reads w Av v.length (i32V v)) (k : Int) (k4 k5 k6 : Nat)
    (h4 : w.heap[k4]? = some (.cells #[.pointer (some ⟨x, 0, none⟩)] 33 (0, 0))) (h5 : w.heap[k5]? = some (.cells #[.slice Av v.length cv] 30 (0, 0))) (h6 : w.heap[k6]? = some (.cells #[.int .i64 k] 3 (0, 0))) :
    Calls Tryz.prog 39 #[.pointer (some ⟨k4, 0, none⟩), .pointer (some ⟨k5, 0, none⟩), .pointer (some ⟨k6, 0, none⟩)] w fun e w' => e = .returned (.int .i64 (exactE n dim v k)) ∧ Below w.heap.size w w' := by
  have HX : Hid (∀ m, Calls Tryz.prog 40 #[.pointer (some ⟨b, 0, none⟩), .slice Av v.length cv, .int .i64 k] (w.drewN m) fun e w' => e = .returned (.int .i64 (exactE n dim v k)) ∧ ∃ nn, w' = (w.drewN m).drewN nn) := fun m =>
    echeck_any (w.drewN m) B b dim n F v Av cv k (h.fr.it.below (bel_drewN (Below.refl _ _) m)) (hv.below (bel_drewN (Below.refl _ _) m))
  obtain ⟨c1, c2, c3, c4, c5, c6⟩ := XS.of h
  have d4 : w.cell? ⟨k4, 0, none⟩ = some (.pointer (some ⟨x, 0, none⟩)) := cell_of_row _ _ _ _ _ _ h4
  have d5 : w.cell? ⟨k5, 0, none⟩ = some (.slice Av v.length cv) := cell_of_row _ _ _ _ _ _ h5
  have d6 : w.cell? ⟨k6, 0, none⟩ = some (.int .i64 k) := cell_of_row _ _ _ _ _ _ h6
  have HKEEP := Lib.hid (fun (W : World) (hb : Below w.heap.size w W) => And.intro (keepc hb d4) (And.intro (keepc hb c1) (And.intro (keepc hb d5) (keepc hb d6))))
  obtain ⟨E, hE⟩ : ∃ E, exactE n dim v k = E := ⟨_, rfl⟩
  rw [hE] at HX ⊢
  have HBN : Hid (Below w.heap.size w w) := Below.refl _ _
  clear h hv h4 h5 h6 hE c2 c3 c4 c5 c6
  go_enter Tryz.func39, Tryz.ntmps39
  go_wp2_with fail
  go_region_held3 (fun W => W.cell? ⟨k4, 0, none⟩ = some (.pointer (some ⟨x, 0, none⟩)) ∧ W.cell? ⟨x, 1, none⟩ = some (.pointer (some ⟨b, 0, none⟩)) ∧ W.cell? ⟨k5, 0, none⟩ = some (.slice Av v.length cv) ∧ W.cell? ⟨k6, 0, none⟩ = some (.int .i64 k))
    (first | go_keep | exact HKEEP.out _ HBN.out)
    (first
      | (go_at_call 40; refine (HX.out 1).mono ?_; rintro e w8 ⟨rfl, nn, rfl⟩; have HBM : Hid (Below w.heap.size w ((w.drewN 1).drewN nn)) := bel_drewN (bel_drewN (Below.refl _ _) 1) nn; clear HBN; have HBN := HBM; clear HBM))
  go_wp2
  go_ret
  exact ⟨rfl, bel_drewN (Below.refl _ _) _⟩
theorem ifirst_any (w : World) (g : Nat) (c1 c2 : Array Value) (e1 e2 : Int) (hg : w.heap[g]? = some (.cells #[.func (.func 37) #[] c1, .func (.func 39) #[] c2] 96 (0, 0)))
    (h1 : ∀ W, Below w.heap.size w W → Calls Tryz.prog 37 c1 W fun e w' => e = .returned (.int .i64 e1) ∧ Below W.heap.size W w') (h2 : ∀ W, Below w.heap.size w W → Calls Tryz.prog 39 c2 W fun e w' => e = .returned (.int .i64 e2) ∧ Below W.heap.size W w') :
    Calls Tryz.prog 36 #[.slice (some ⟨g, 0, none⟩) 2 2] w fun e w' => e = .returned (.int .i64 (orI e1 e2)) ∧ Below w.heap.size w w' := by
  have H1 := Lib.hid h1
  have H2 := Lib.hid h2
  have HG := Lib.hid hg
  obtain ⟨E, hE⟩ : ∃ E, orI e1 e2 = E := ⟨_, rfl⟩
  have HE := Lib.hid hE
  rw [hE]
  clear h1 h2 hg hE
  go_enter Tryz.func36, Tryz.ntmps36
  go_wp2
  go_loopg [8] 2 (fun gk i wr => ∃ k : Nat, gk = 2 - k ∧ k ≤ 2 ∧ i = .int .i64 (k : Int) ∧ Hid (Below w.heap.size w wr) ∧ (k = 0 ∨ Hid (e1 = 0)) ∧ (k ≤ 1 ∨ Hid (e2 = 0)))
  case atStart => exact ⟨0, rfl, by decide, rfl, Lib.hid (Below.refl _ _), .inl rfl, .inl (by decide)⟩
  case round =>
    obtain ⟨k, rfl, hk, rfl, HB, hx, hy⟩ := hrel
    have HGW : Hid (wr.heap[g]? = some (.cells #[.func (.func 37) #[] c1, .func (.func 39) #[] c2] 96 (0, 0))) := (HB.out.block _ (lt_of_block HG.out)).trans HG.out
    have q0 : wr.cell? ⟨g, 0, none⟩ = some (.func (.func 37) #[] c1) := cell_of_row _ _ _ _ _ _ HGW.out
    have q1 : wr.cell? ⟨g, 1, none⟩ = some (.func (.func 39) #[] c2) := cell_of_row _ _ _ _ _ _ HGW.out
    match k, hk, hx, hy with
    | 0, _, _, _ =>
      by_cases h0 : e1 = 0
      · have h0' : (e1 == 0) = true := by simp [h0]
        have H0 := Lib.hid h0
        clear h0
        go_wp2_with (first
          | (go_at_call 37; refine (H1.out wr HB.out).mono ?_; rintro e w2 ⟨rfl, hb⟩; have HB2 := Lib.hid (HB.out.trans (hb.mono HB.out.size)); clear hb)
          | fail)
        go_roundg 1
        case measure => decide
        case rel => exact ⟨1, rfl, by decide, rfl, HB2, .inr H0, .inl (by decide)⟩
      · have h0' : (e1 == 0) = false := by simp [h0]
        have HEE : Hid (E = e1) := by show E = e1; rw [← HE.out]; unfold orI; rw [if_neg h0]
        go_wp2_with (first
          | (go_at_call 37; refine (H1.out wr HB.out).mono ?_; rintro e w2 ⟨rfl, hb⟩; have HB2 := Lib.hid (HB.out.trans (hb.mono HB.out.size)); clear hb)
          | fail)
        go_ret
        exact ⟨by rw [HEE.out]; rfl, HB2.out⟩
    | 1, _, hx, _ =>
      have hx0 : e1 = 0 := (hx.resolve_left (by decide)).out
      have HEE : Hid (E = e2) := by show E = e2; rw [← HE.out]; unfold orI; rw [if_pos hx0]
      have HX0 := Lib.hid hx0
      clear hx hx0
      by_cases h0 : e2 = 0
      · have h0' : (e2 == 0) = true := by simp [h0]
        have H0 := Lib.hid h0
        clear h0
        go_wp2_with (first
          | (go_at_call 39; refine (H2.out wr HB.out).mono ?_; rintro e w2 ⟨rfl, hb⟩; have HB2 := Lib.hid (HB.out.trans (hb.mono HB.out.size)); clear hb)
          | fail)
        go_roundg 0
        case measure => decide
        case rel => exact ⟨2, rfl, by decide, rfl, HB2, .inr HX0, .inr H0⟩
      · have h0' : (e2 == 0) = false := by simp [h0]
        go_wp2_with (first
          | (go_at_call 39; refine (H2.out wr HB.out).mono ?_; rintro e w2 ⟨rfl, hb⟩; have HB2 := Lib.hid (HB.out.trans (hb.mono HB.out.size)); clear hb)
          | fail)
        go_ret
        exact ⟨by rw [HEE.out]; rfl, HB2.out⟩
    | 2, _, hx, hy =>
      have hx0 : e1 = 0 := (hx.resolve_left (by decide)).out
      have hy0 : e2 = 0 := (hy.resolve_left (by decide)).out
      have HEE : Hid (E = 0) := by show E = 0; rw [← HE.out]; unfold orI; rw [if_pos hx0]; exact hy0
      clear hx hy hx0 hy0
      go_wp2
      go_ret
      exact ⟨by rw [HEE.out]; rfl, HB.out⟩
end Go.Proofs.YtladmconpolneaaGreat

/- What a search meets. Plain Lean. -/
set_option linter.unusedVariables false
set_option linter.unusedSimpArgs false
namespace Go.Proofs.YtladmconpolneaaGreat
open Go.RowKit
def SubX (X Y : Nat) : Prop := ∀ i, X.testBit i = true → Y.testBit i = true
theorem SubX.trans {X Y Z : Nat} (h : SubX X Y) (k : SubX Y Z) : SubX X Z := fun i hi => k i (h i hi)
theorem SubX.refl (X : Nat) : SubX X X := fun _ h => h
theorem addAll_sub : ∀ (ids : List Nat) (X c : Nat), SubX X (addAll X c ids).1 ∧ ∀ i ∈ ids, (addAll X c ids).1.testBit i = true
  | [], X, c => ⟨SubX.refl X, fun i hi => by cases hi⟩
  | id :: ids, X, c => by
    rw [addAll]
    obtain ⟨h1, h2⟩ := addAll_sub ids (if X.testBit id then X else X ||| 2 ^ id) (if X.testBit id then c else c + 1)
    have h0 : SubX X (if X.testBit id then X else X ||| 2 ^ id) ∧ (if X.testBit id then X else X ||| 2 ^ id).testBit id = true := by
      by_cases hb : X.testBit id = true
      · rw [if_pos hb]; exact ⟨SubX.refl X, hb⟩
      · rw [if_neg hb]
        refine ⟨fun i hi => ?_, ?_⟩
        · rw [Nat.testBit_or, hi]; rfl
        · rw [Nat.testBit_or, Nat.testBit_two_pow]; simp
    refine ⟨h0.1.trans h1, fun i hi => ?_⟩
    rw [List.mem_cons] at hi
    rcases hi with rfl | hi
    · exact h1 _ h0.2
    · exact h2 i hi
theorem gstep_sub (ts : List (List Node)) (vec : List Int) (s : GS) : SubX s.X (gstep ts vec s).X := by
  unfold gstep
  split
  · exact SubX.refl _
  · split
    · exact (addAll_sub _ _ _).1
    · exact SubX.refl _
theorem grun_sub (ts : List (List Node)) (vec : List Int) (limit : Nat) : ∀ (f : Nat) (s : GS), SubX s.X (grun ts vec limit f s).X
  | 0, s => SubX.refl _
  | f + 1, s => by
    rw [grun]
    split
    · exact SubX.refl _
    · split
      · exact SubX.refl _
      · exact (gstep_sub ts vec s).trans (grun_sub ts vec limit f _)
/-- WHO MAY MEET MORE MEETS MORE. -/
theorem grun_mono (ts : List (List Node)) (vec : List Int) {limit limit' : Nat} (h : limit ≤ limit') : ∀ (f : Nat) (s : GS), SubX (grun ts vec limit f s).X (grun ts vec limit' f s).X
  | 0, s => SubX.refl _
  | f + 1, s => by
    by_cases h1 : limit ≤ s.c
    · rw [grun, if_pos h1]
      exact grun_sub ts vec limit' (f + 1) s
    · rw [grun, grun, if_neg h1, if_neg (show ¬ limit' ≤ s.c by omega)]
      by_cases h2 : s.l = []
      · rw [if_pos h2, if_pos h2]; exact SubX.refl _
      · rw [if_neg h2, if_neg h2]
        exact grun_mono ts vec h f _
theorem gok_run {ts : List (List Node)} {n N dim depth : Nat} (vec : List Int) (limit : Nat) (hok : FOk ts n dim depth) : ∀ (f : Nat) (s : GS), GOk ts n N s → (N : Int) - s.st < f → GOk ts n N (grun ts vec limit f s) ∧ (limit ≤ (grun ts vec limit f s).c ∨ (grun ts vec limit f s).l = [])
  | 0, s, h, hf => by
    obtain ⟨bs, h1, h2, h3⟩ := h.bs
    omega
  | f + 1, s, h, hf => by
    rw [grun]
    by_cases h1 : limit ≤ s.c
    · rw [if_pos h1]; exact ⟨h, .inl h1⟩
    · rw [if_neg h1]
      by_cases h2 : s.l = []
      · rw [if_pos h2]; exact ⟨h, .inr h2⟩
      · rw [if_neg h2]
        obtain ⟨x, r, hl⟩ := List.exists_cons_of_ne_nil h2
        obtain ⟨k1, k2⟩ := gok_step vec hok h hl
        exact gok_run vec limit hok f _ k1 (by omega)
/-- Whoever isn't met waits in a task. -/
def GAll (ts : List (List Node)) (n : Nat) (s : GS) : Prop := ∃ bs : List (El × BT), (bs.map (·.1)).Perm s.l ∧ (∀ p ∈ bs, TaskAt ts p.1 p.2) ∧ ∀ i, i < n → s.X.testBit i = true ∨ ∃ p ∈ bs, i ∈ p.2.ids
theorem GAll.head {ts : List (List Node)} {n : Nat} {s : GS} {x : El} {r : List El} (h : GAll ts n s) (hl : s.l = x :: r) : ∃ (t : BT) (bs' : List (El × BT)), TaskAt ts x t ∧ (bs'.map (·.1)).Perm r ∧ (∀ p ∈ bs', TaskAt ts p.1 p.2) ∧ ∀ i, i < n → s.X.testBit i = true ∨ i ∈ t.ids ∨ ∃ p ∈ bs', i ∈ p.2.ids := by
  obtain ⟨bs, h1, h2, h3⟩ := h
  rw [hl] at h1
  have hx : x ∈ bs.map (·.1) := h1.mem_iff.2 List.mem_cons_self
  obtain ⟨p, hp, rfl⟩ := List.mem_map.1 hx
  obtain ⟨a, b, rfl⟩ := List.append_of_mem hp
  have hperm : (a ++ p :: b).Perm (p :: (a ++ b)) := List.perm_middle
  refine ⟨p.2, a ++ b, h2 p hp, ?_, fun q hq => h2 q (hperm.mem_iff.2 (List.mem_cons_of_mem _ hq)), fun i hi => ?_⟩
  · have := (hperm.map (·.1)).symm.trans h1
    exact (List.perm_cons _).1 this
  · rcases h3 i hi with h | ⟨q, hq, hqi⟩
    · exact .inl h
    · have := hperm.mem_iff.1 hq
      rw [List.mem_cons] at this
      rcases this with rfl | hq2
      · exact .inr (.inl hqi)
      · exact .inr (.inr ⟨q, hq2, hqi⟩)
theorem gall_step {ts : List (List Node)} {n : Nat} {s : GS} {x : El} {r : List El} (vec : List Int) (h : GAll ts n s) (hl : s.l = x :: r) : GAll ts n (gstep ts vec s) := by
  obtain ⟨t, bs', ht, hb1, hb2, hb3⟩ := h.head hl
  obtain ⟨m, q, k, a, hk, ha, hx, hnd, hhead⟩ := ht.node
  unfold gstep
  rw [hl]
  dsimp only
  by_cases hlf : (nodeOf ts x).leaf = true
  · rw [if_pos hlf]
    obtain ⟨a1, a2⟩ := addAll_sub (nodeOf ts x).ids s.X s.c
    refine ⟨bs', hb1.trans (popL_perm ltT x r).symm, hb2, fun i hi => ?_⟩
    rcases hb3 i hi with h | h | h
    · exact .inl (a1 i h)
    · cases t with
      | leaf ids =>
        simp [BT.nodes] at hhead
        refine .inl (a2 i ?_)
        rw [← hhead]
        exact h
      | split nrm off l r =>
        simp [BT.nodes] at hhead
        rw [← hhead] at hlf
        cases hlf
    · exact .inr h
  · rw [if_neg hlf]
    cases t with
    | leaf ids =>
      simp [BT.nodes] at hhead
      rw [← hhead] at hlf
      exact absurd rfl hlf
    | split nrm off l rr =>
      have hroot : nodeOf ts x = (splitN nrm off ((a : Int) + 1)).withRight ((a + 1 + l.size : Nat) : Int) := by
        simp [BT.nodes] at hhead
        exact hhead.symm
      obtain ⟨m', q', k', a', pre, rest, hx', hk', he, hp⟩ := ht
      have e1 : k = k' ∧ a = a' := by
        rw [hx] at hx'
        simp at hx'
        exact ⟨by omega, by omega⟩
      obtain ⟨rfl, rfl⟩ := e1
      have hleft : (nodeOf ts x).left = ((a + 1 : Nat) : Int) := by rw [hroot]; show (a : Int) + 1 = _; omega
      have hright : (nodeOf ts x).right = ((a + 1 + l.size : Nat) : Int) := by rw [hroot]; rfl
      have hx2 : x.getD 2 0 = (k : Int) := by rw [hx]; rfl
      rw [hleft, hright, hx2]
      rw [BT.nodes] at he
      have c1 : ∀ (mm qq : Int), TaskAt ts [mm, qq, (k : Int), ((a + 1 : Nat) : Int)] l := fun mm qq => ⟨mm, qq, k, a + 1, pre ++ [(splitN nrm off ((a : Int) + 1)).withRight ((a + 1 + l.size : Nat) : Int)], rr.nodes (a + 1 + l.size) ++ rest, rfl, hk, by rw [he]; simp, by simp [hp]⟩
      have c2 : ∀ (mm qq : Int), TaskAt ts [mm, qq, (k : Int), ((a + 1 + l.size : Nat) : Int)] rr := fun mm qq => ⟨mm, qq, k, a + 1 + l.size, pre ++ (splitN nrm off ((a : Int) + 1)).withRight ((a + 1 + l.size : Nat) : Int) :: l.nodes (a + 1), rest, rfl, hk, by rw [he]; simp, by rw [List.length_append, List.length_cons, l.nodes_length, hp]; omega⟩
      have t1 := c1 (min (x.getD 0 0) (-(marL (nodeOf ts x).nrm (nodeOf ts x).off vec))) s.nx
      have t2 := c2 (min (x.getD 0 0) (marL (nodeOf ts x).nrm (nodeOf ts x).off vec)) (s.nx + 1)
      generalize ([min (x.getD 0 0) (-(marL (nodeOf ts x).nrm (nodeOf ts x).off vec)), s.nx, (k : Int), ((a + 1 : Nat) : Int)] : El) = y1 at *
      generalize ([min (x.getD 0 0) (marL (nodeOf ts x).nrm (nodeOf ts x).off vec), s.nx + 1, (k : Int), ((a + 1 + l.size : Nat) : Int)] : El) = y2 at *
      refine ⟨bs' ++ [(y1, l)] ++ [(y2, rr)], ?_, ?_, fun i hi => ?_⟩
      · rw [List.map_append, List.map_append]
        exact (((hb1.trans (popL_perm ltT x r).symm).append_right _).trans (pushL_perm ltT _ _).symm |>.append_right _).trans (pushL_perm ltT _ _).symm
      · intro p hp'
        rcases List.mem_append.1 hp' with hp' | hp'
        · rcases List.mem_append.1 hp' with hp' | hp'
          · exact hb2 p hp'
          · have e : p = (y1, l) := by simpa using hp'
            subst e; exact t1
        · have e : p = (y2, rr) := by simpa using hp'
          subst e; exact t2
      · rcases hb3 i hi with h | h | ⟨p, hp, h⟩
        · exact .inl h
        · rw [BT.ids, List.mem_append] at h
          rcases h with h | h
          · exact .inr ⟨(y1, l), by simp, h⟩
          · exact .inr ⟨(y2, rr), by simp, h⟩
        · exact .inr ⟨p, by simp [hp], h⟩
theorem gall_run {ts : List (List Node)} {n : Nat} (vec : List Int) (limit : Nat) : ∀ (f : Nat) (s : GS), GAll ts n s → GAll ts n (grun ts vec limit f s)
  | 0, s, h => h
  | f + 1, s, h => by
    rw [grun]
    by_cases h1 : limit ≤ s.c
    · rw [if_pos h1]; exact h
    · rw [if_neg h1]
      by_cases h2 : s.l = []
      · rw [if_pos h2]; exact h
      · rw [if_neg h2]
        obtain ⟨x, r, hl⟩ := List.exists_cons_of_ne_nil h2
        exact gall_run vec limit f _ (gall_step vec h hl)
theorem gall_bs (ts : List (List Node)) (n : Nat) (htr : ∀ t ∈ ts, ∃ bt : BT, t = bt.nodes 0 ∧ ∀ i, i < n → i ∈ bt.ids) : ∀ m, m ≤ ts.length → ∃ bs : List (El × BT), (bs.map (·.1)).Perm (beginL m) ∧ (∀ p ∈ bs, TaskAt ts p.1 p.2) ∧ (1 ≤ m → ∀ i, i < n → ∃ p ∈ bs, i ∈ p.2.ids)
  | 0, _ => ⟨[], .refl _, fun p hp => (by cases hp), fun h => by omega⟩
  | m + 1, hm => by
    obtain ⟨bs, h1, h2, h3⟩ := gall_bs ts n htr m (by omega)
    obtain ⟨bt, hbt, hids⟩ := htr _ (List.getElem_mem (show m < ts.length by omega))
    refine ⟨bs ++ [([9223372036854775807, (m : Int), (m : Int), 0], bt)], ?_, ?_, ?_⟩
    · rw [List.map_append]
      exact (h1.append_right _).trans (pushL_perm ltT _ _).symm
    · intro p hp
      rcases List.mem_append.1 hp with hp | hp
      · exact h2 p hp
      · have e : p = ([9223372036854775807, (m : Int), (m : Int), 0], bt) := by simpa using hp
        subst e
        refine ⟨9223372036854775807, (m : Int), m, 0, [], [], by simp, by omega, ?_, rfl⟩
        rw [List.getD_eq_getElem?_getD, List.getElem?_eq_getElem (show m < ts.length by omega)]
        simpa using hbt
    · intro _ i hi
      exact ⟨_, List.mem_append_right _ (List.mem_singleton.2 rfl), hids i hi⟩
theorem metTo_sorted (X n : Nat) : (metTo X n).Pairwise (· < ·) := by
  unfold metTo
  exact List.Pairwise.sublist List.filter_sublist List.pairwise_lt_range
theorem metTo_mem {X n i : Nat} : i ∈ metTo X n ↔ i < n ∧ X.testBit i = true := by
  unfold metTo
  rw [List.mem_filter, List.mem_range]
theorem nodup_subN : ∀ (l m : List Nat), l.Nodup → l ⊆ m → l.length ≤ m.length
  | [], m, _, _ => Nat.zero_le _
  | a :: l, m, hd, h => by
    have ha : a ∈ m := h List.mem_cons_self
    rw [List.nodup_cons] at hd
    have h1 := List.length_erase_of_mem ha
    have h0 : 0 < m.length := List.length_pos_of_mem ha
    have := nodup_subN l (m.erase a) hd.2 fun x hx => (List.mem_erase_of_ne (fun (e : x = a) => hd.1 (e ▸ hx))).2 (h (List.mem_cons_of_mem _ hx))
    rw [List.length_cons]
    omega
/-- WHAT IS MET: as many as are asked for, or all. -/
structure Met (n limit : Nat) (l : List Nat) : Prop where
  sorted : l.Pairwise (· < ·)
  lt : ∀ i ∈ l, i < n
  many : limit ≤ l.length ∨ l = List.range n
theorem Met.min {n limit : Nat} {l : List Nat} (h : Met n limit l) : min limit n ≤ l.length ∧ l.length ≤ n := by
  constructor
  · rcases h.many with h | h
    · omega
    · rw [h, List.length_range]; omega
  · have := nodup_subN l (List.range n) (h.sorted.imp fun {a b} hab e => by omega) fun i hi => by simpa using h.lt i hi
    simpa using this
theorem sorted_all : ∀ (n : Nat) (l : List Nat), l.Pairwise (· < ·) → (∀ i ∈ l, i < n) → n ≤ l.length → l = List.range n := by
  intro n l hs hl hn
  have hnd : l.Nodup := hs.imp fun {a b} hab e => by omega
  have hle : l.length ≤ n := by
    have := nodup_subN l (List.range n) hnd fun i hi => by simpa using hl i hi
    simpa using this
  have key : ∀ k (hk : k < l.length), k ≤ l[k] := by
    intro k
    induction k with
    | zero => intro _; omega
    | succ k ih =>
      intro hk
      have h1 := ih (by omega)
      have h2 := List.pairwise_iff_getElem.1 hs k (k + 1) (by omega) hk (by omega)
      omega
  have key2 : ∀ d k (hk : k < l.length), k + d + 1 = l.length → l[k] + d < n := by
    intro d
    induction d with
    | zero => intro k hk _; have := hl _ (List.getElem_mem hk); omega
    | succ d ih =>
      intro k hk he
      have h1 := ih (k + 1) (by omega) (by omega)
      have h2 := List.pairwise_iff_getElem.1 hs k (k + 1) hk (by omega) (by omega)
      omega
  apply List.ext_getElem
  · rw [List.length_range]; omega
  · intro k h1 h2
    have a := key k h1
    have b := key2 (l.length - k - 1) k h1 (by omega)
    rw [List.getElem_range]
    omega
theorem met_of {ts : List (List Node)} {n dim depth : Nat} (vec : List Int) (limit : Nat) (hok : FOk ts n dim depth) (htr : ∀ t ∈ ts, ∃ bt : BT, t = bt.nodes 0 ∧ ∀ i, i < n → i ∈ bt.ids) :
    Met n limit (metTo (grun ts vec limit (nodesN ts + 1) (gs0 ts.length)).X n) := by
  have hg := gok_start ts n fun t ht => (htr t ht).imp fun bt h => h.1
  have ha : GAll ts n (gs0 ts.length) := by
    obtain ⟨bs, h1, h2, h3⟩ := gall_bs ts n htr ts.length (Nat.le_refl _)
    exact ⟨bs, h1, h2, fun i hi => .inr (h3 hok.cnt.1 i hi)⟩
  obtain ⟨r1, r2⟩ := gok_run vec limit hok (nodesN ts + 1) _ hg (by show (nodesN ts : Int) - 0 < _; omega)
  obtain ⟨bs, a1, a2, a3⟩ := gall_run vec limit (nodesN ts + 1) _ ha
  refine ⟨metTo_sorted _ _, fun i hi => (metTo_mem.1 hi).1, ?_⟩
  rcases r2 with r2 | r2
  · left
    obtain ⟨l, m1, m2, m3⟩ := r1.met
    refine Nat.le_trans r2 ?_
    rw [m1.1]
    refine nodup_subN l _ m2 fun i hi => metTo_mem.2 ⟨m3 i hi, ?_⟩
    rw [m1.2]; simpa using hi
  · right
    rw [r2] at a1
    have : bs = [] := by simpa using a1.eq_nil
    subst this
    unfold metTo
    rw [List.filter_eq_self]
    intro i hi
    rcases a3 i (by simpa using hi) with h | ⟨p, hp, _⟩
    · exact h
    · cases hp
theorem met_more {ts : List (List Node)} (n : Nat) (vec : List Int) {limit limit' : Nat} (h : limit ≤ limit') : metTo (grun ts vec limit (nodesN ts + 1) (gs0 ts.length)).X n ⊆ metTo (grun ts vec limit' (nodesN ts + 1) (gs0 ts.length)).X n := by
  intro i hi
  obtain ⟨h1, h2⟩ := metTo_mem.1 hi
  exact metTo_mem.2 ⟨h1, grun_mono ts vec h _ _ i h2⟩
end Go.Proofs.YtladmconpolneaaGreat

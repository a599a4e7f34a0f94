/- TopSides, walked. -/
import Derived.Test.YtladmconpolneaaGreatSides1
set_option linter.unusedVariables false
set_option linter.unusedSimpArgs false
namespace Go.Proofs.YtladmconpolneaaGreat
open Go.RowKit
set_option maxRecDepth 100000 in
set_option maxHeartbeats 6400000 in
theorem sides_law (dim : Int) (vs : List (List Int)) (A : Option Addr) (ca : Nat) (p : Par) (L : Option Addr) (c : Nat) (w : World)
    (h : ListsAt w A vs) (hs : Small vs) (hn : vs.length ≤ 281474976710656) (hp : ParAt w p L) :
    Calls Tryz.prog 7 #[.int .i64 dim, .slice A vs.length ca, .agg (parV p L c)] w fun e w' => e = .returned (.bool true) ∧ Below w.heap.size w w' := by
  obtain ⟨W0, hW0⟩ : ∃ W, w.alloc (.cells (parV p L c) 28) = W := ⟨_, rfl⟩
  have HB0 : Hid (Below w.heap.size w W0) := by show Below _ _ _; rw [← hW0]; exact (Below.refl _ _).alloc (Nat.le_refl _) _
  have G0 : Hid (W0.heap[w.heap.size]? = some (.cells (parV p L c) 28 (0, 0))) := by show _ = _; rw [← hW0]; exact heap_alloc_new _ _
  have HW0 := Lib.hid hW0
  have HPS : Hid (∀ W, Below W0.heap.size W0 W → PSt w.heap.size p L c W) := fun W hb => PSt.of ((hb.block _ (lt_of_block G0.out)).trans G0.out)
  have HLI : Hid (∀ W, Calls Tryz.prog 9 #[] W fun e w' => e = .returned (.bool true) ∧ Below W.heap.size W w') := fun W => lives_any W
  have HBI : Hid (∀ W, Below w.heap.size w W → Calls Tryz.prog 10 #[.slice A vs.length ca, .agg (parV p L c), .slice none 0 0] W (BigPost (NotBig vs p 0) W)) := fun W hb => big_any vs A ca p L c none 0 0 W (h.below hb) hs hn
  have HIT : Hid (∀ W, Below w.heap.size w W → vs.length ≤ 40 → Calls Tryz.prog 18 #[.int .i64 dim, .slice A vs.length ca] W (ItemsPost W dim vs)) := fun W hb hn => items_any dim vs A ca W (h.below hb) (by omega)
  have HP : Hid (∀ W, Below w.heap.size w W → Reads W L p.list.length (u64V p.list)) := fun W hb => hp.rt.below hb
  have HU := Lib.hid hp.u64
  rw [par_cell] at *
  clear h hs hn hp hW0
  go_enter Tryz.func7, Tryz.ntmps7
  go_wp2_with (first
    | (go_at_call 9; rw [HW0.out]; refine (HLI.out W0).mono ?_; rintro e w1 ⟨rfl, hb1⟩
       have HB01 := Lib.hid hb1
       have HB1 := Lib.hid (HB0.out.trans (hb1.mono HB0.out.size))
       obtain ⟨d0, d1, d2, d3, d4, d5⟩ := HPS.out w1 hb1
       clear hb1)
    | (go_at_call 10; refine (HBI.out w1 HB1.out).mono ?_; rintro e w2 ⟨bo, rfl, hbo, hb2⟩
       have HB02 := Lib.hid (HB01.out.trans (hb2.mono HB01.out.size))
       have HB2 := Lib.hid (HB1.out.trans (hb2.mono HB1.out.size))
       have HBO := Lib.hid hbo
       clear hb2 hbo d0 d1 d2 d3 d4 d5
       cases bo)
    | (go_at_call 18
       have HNB := Lib.hid (HBO.out (by first | rfl | trivial))
       refine (HIT.out w2 HB2.out HNB.out.cnt).mono ?_; rintro e w3 ⟨hb3, hor⟩
       rcases hor with ⟨rfl, -⟩ | ⟨bi, rfl, hd1, hd2, -, hi⟩
       case' inl =>
         have HB3 := Lib.hid (HB2.out.trans (hb3.mono HB2.out.size))
         clear hb3
       case' inr =>
         obtain ⟨d, rfl⟩ := Int.eq_ofNat_of_zero_le (show 0 ≤ dim by omega)
         have HB03 := Lib.hid (HB02.out.trans (hb3.mono HB02.out.size))
         have HB3 := Lib.hid (HB2.out.trans (hb3.mono HB2.out.size))
         obtain ⟨r0, r1, r2, r3, r4, r5⟩ := HPS.out w3 HB03.out
         have HD := Lib.hid (And.intro hd1 hd2)
         have hi : ItemsAt w3 w2.heap.size bi d vs.length vs.flatten := hi
         have HI3 := Lib.hid hi
         have HBU := build_or w3 w2.heap.size bi d vs.length vs.flatten hi p L c (HP.out w3 HB3.out) (by have := HNB.out.list; omega) HU.out (by have := HNB.out.cnt; omega)
         rw [par_cell] at HBU
         have HBU := Lib.hid HBU
         clear hb3 hd1 hd2 hi)
    | (go_at_call 20
       refine HBU.out.mono ?_; rintro e w4 hor
       rcases hor with ⟨er, her, rfl, hb4⟩ | ⟨leaf, depth, TA, tc, ts, rfl, hf, N, hn1, hr, hb4⟩
       case' inl =>
         have HB4 := Lib.hid (HB3.out.trans (hb4.mono HB3.out.size))
         have her' : (er == 0) = false := by simpa using her
         clear hb4 her r0 r1 r2 r3 r4 r5
       case' inr =>
         have HB4 := Lib.hid (HB3.out.trans (hb4.mono HB3.out.size))
         have HF4 := Lib.hid hf
         have HN4 := Lib.hid (And.intro N (And.intro hn1 hr))
         have HI4 := Lib.hid (HI3.out.below hb4)
         clear hb4 hf N hn1 hr r0 r1 r2 r3 r4 r5)
    | fail)
  rotate_left
  · go_ret; exact ⟨rfl, HB4.out.alloc HB4.out.size _⟩
  · go_ret; exact ⟨rfl, HB3.out⟩
  · go_ret; exact ⟨rfl, HB2.out⟩
  obtain ⟨W5, hW5⟩ : ∃ W, w4.alloc (.cells #[.pointer (some ⟨bi, 0, none⟩), .int .i64 (leaf : Int), .int .i64 (depth : Int), .slice TA ts.length tc] 62) = W := ⟨_, rfl⟩
  have HB45 : Hid (Below w4.heap.size w4 W5) := by show Below _ _ _; rw [← hW5]; exact (Below.refl _ _).alloc (Nat.le_refl _) _
  have HB5 := Lib.hid (HB4.out.trans (HB45.out.mono HB4.out.size))
  have HF5 := Lib.hid (HF4.out.keep (KeepF.below HB45.out))
  have HI5 := Lib.hid (HI4.out.below HB45.out)
  have HN := Lib.hid HN4.out.1
  rw [hW5]
  clear hW5 HB45 HF4 HI3 HBU HIT HBI HLI HBO HPS G0 HW0
  go_loopg [45] ts.length (fun gk i wr => ∃ j : Nat, gk = ts.length - j ∧ j ≤ ts.length ∧ i = .int .i64 (j : Int) ∧ Hid (Below W5.heap.size W5 wr))
  case atStart => exact ⟨0, rfl, Nat.zero_le _, rfl, Lib.hid (Below.refl _ _)⟩
  case round =>
    obtain ⟨j, rfl, hj, rfl, HB⟩ := hrel
    have HBX := Lib.hid (HB5.out.trans (HB.out.mono HB5.out.size))
    by_cases hjn : j = ts.length
    · subst hjn
      go_wp2
      go_ret
      exact ⟨rfl, HBX.out⟩
    have hlt : j < ts.length := by omega
    have hkl : (j : Int) < (ts.length : Int) := by omega
    have hk9 : (0 : Int) ≤ (j : Int) := by omega
    have hkb : (j : Int) ≤ 256 := by have := HN.out.tr.2; omega
    have hnb : vs.length ≤ 40 := HNB.out.cnt
    have hn1 : 1 ≤ vs.length := HN4.out.2.1
    obtain ⟨fc, hfo, _⟩ := HF5.out
    obtain ⟨gF, rfl⟩ := own_addr hfo (by omega)
    obtain ⟨TB, cap, cells, hct, ho, hr⟩ := (HF5.out.keep (KeepF.below HB.out)).tree j hlt
    have HTJ : Hid (ts.length - (j + 1) < ts.length - j ∧ j + 1 ≤ ts.length ∧ (j : Int) ≤ 256) := by show _ ∧ _ ∧ _; omega
    have HDI : Hid (1 ≤ d ∧ d ≤ 1024) := by have := HD.out; exact ⟨by omega, by omega⟩
    have HS := Lib.hid (sides_of HI5.out.len HI5.out.bd HDI.out.2 HN.out.lf.1 HN.out.dp hn1 (by omega) (HN4.out.2.2 _ (List.getElem_mem hlt)))
    have HIJ := Lib.hid (HI5.out.below HB.out)
    clear hfo hjn
    generalize ts[j] = t at *
    have HHO := Lib.hid (And.intro ho hr)
    have htl := HS.out.tok.len.2
    have htp := HS.out.tok.len.1
    obtain ⟨gT, rfl⟩ := own_addr ho (by omega)
    clear ho hr
    go_wp2
    clear hct hkl
    generalize wr = Wj at *
    go_loopg [51] t.length (fun gk i wr => ∃ a : Nat, gk = t.length - a ∧ a ≤ t.length ∧ i = .int .i64 (a : Int) ∧ Hid (Below Wj.heap.size Wj wr))
    case atStart => exact ⟨0, rfl, Nat.zero_le _, rfl, Lib.hid (Below.refl _ _)⟩
    case round =>
      obtain ⟨a, rfl, ha, rfl, HA⟩ := hrel
      by_cases hax : a = t.length
      · subst hax
        go_wp2
        go_roundg (ts.length - (j + 1))
        case measure => exact HTJ.out.1
        case rel => exact ⟨j + 1, rfl, HTJ.out.2.1, by go_num, HB.out.trans (HA.out.mono HB.out.size)⟩
      have hal : a < t.length := by omega
      have hal' : (a : Int) < (t.length : Int) := by omega
      have ha9 : (0 : Int) ≤ (a : Int) := by omega
      have hab : (a : Int) ≤ 60000 := by omega
      obtain ⟨Ai, ca', N, cn, hn⟩ := tree_node HHO.out.1 HHO.out.2 a hal
      have hxg : t[a]? = some t[a] := List.getElem?_eq_getElem hal
      generalize t[a] = x at *
      have HXG := Lib.hid hxg
      have HNX := Lib.hid hn
      have HTA : Hid (t.length - (a + 1) < t.length - a) := by show _ < _; omega
      have n0 := keepc HA.out hn.c0
      have n2 := keepc HA.out hn.c2
      have n3 := keepc HA.out hn.c3
      clear hn hxg hax
      cases hlf : x.leaf with
      | true =>
        rw [hlf] at n0
        clear hlf
        go_wp2
        go_quiet (fail)
        go_wp2
        go_roundg (t.length - (a + 1))
        case measure => exact HTA.out
        case rel => exact ⟨a + 1, rfl, hal, by go_num, bel_drewN HA.out _⟩
      | false =>
        rw [hlf] at n0
        obtain ⟨zz, hz⟩ : ∃ z, List.replicate d (0 : Int) = z := ⟨_, rfl⟩
        have HFL : Hid (∀ W, Calls Tryz.prog 22 #[.int .i64 (d : Int)] W fun e w' => ∃ B m, e = .returned (.agg #[.slice B d m, .int .i64 0]) ∧ Reads w' B d (i32V zz) ∧ Below W.heap.size W w') := fun W => (flat_any d W HDI.out.2).mono fun e w' ⟨B, m, he, ho, hb⟩ => by
          rw [hz] at ho he
          have hzl : zz.length = d := by rw [← hz]; simp
          rw [hzl] at ho he
          exact ⟨B, m, he, own_reads ho, hb⟩
        have HSM : Hid (∀ W B m, Below Wj.heap.size Wj W → Reads W B d (i32V zz) → Calls Tryz.prog 21 #[.agg #[.slice N x.nrm.length cn, .int .i64 x.off], .agg #[.slice B d m, .int .i64 0]] W fun e w' => e = .returned (.bool (decide (x.off = 0) && (x.nrm == zz))) ∧ Below W.heap.size W w') := fun W B m hb hB =>
          psame_any x.nrm zz x.off 0 N B x.nrm.length cn d m W (HNX.out.nrm.1.below hb) hB
        have HZ := Lib.hid hz
        clear hz
        have HKEEP : Hid (∀ W : World, Below wr.heap.size wr W → W.cell? ⟨gT, a * 6, none⟩ = some (.bool false) ∧ W.cell? ⟨gT, a * 6 + 2, none⟩ = some (.slice N x.nrm.length cn) ∧ W.cell? ⟨gT, a * 6 + 3, none⟩ = some (.int .i64 x.off)) := fun W hb => And.intro (keepc hb n0) (And.intro (keepc hb n2) (keepc hb n3))
        have HLF := Lib.hid hlf
        clear hlf
        obtain ⟨bq, hbq⟩ : ∃ b, (decide (x.off = 0) && (x.nrm == zz)) = b := ⟨_, rfl⟩
        rw [hbq] at HSM
        have HBQ := Lib.hid hbq
        clear hbq
        go_wp2_with fail
        cases bq with
        | true =>
          go_region_held3 (fun W => W.cell? ⟨gT, a * 6, none⟩ = some (.bool false) ∧ W.cell? ⟨gT, a * 6 + 2, none⟩ = some (.slice N x.nrm.length cn) ∧ W.cell? ⟨gT, a * 6 + 3, none⟩ = some (.int .i64 x.off)) (first | go_keep | exact HKEEP.out _ HBN.out)
            (first
              | (go_at_call 22; refine (HFL.out _).mono ?_; rintro e w6 ⟨B1, c1, rfl, ho1, hb⟩; have HO6 := Lib.hid ho1; have HBN : Hid (Below wr.heap.size wr w6) := (bel_drew (Below.refl _ _)).trans hb; clear ho1 hb)
              | (go_at_call 21; refine (HSM.out _ _ _ (HA.out.trans (HBN.out.mono HA.out.size)) HO6.out).mono ?_; rintro e w7 ⟨rfl, hb⟩; have HBM : Hid (Below wr.heap.size wr w7) := HBN.out.trans (hb.mono HBN.out.size); clear HBN; have HBN := HBM; clear HBM hb))
          go_wp2
          go_roundg (t.length - (a + 1))
          case measure => exact HTA.out
          case rel => exact ⟨a + 1, rfl, hal, by go_num, HA.out.trans (HBN.out.mono HA.out.size)⟩
        | false =>
          go_region_held3 (fun W => W.cell? ⟨gT, a * 6, none⟩ = some (.bool false) ∧ W.cell? ⟨gT, a * 6 + 2, none⟩ = some (.slice N x.nrm.length cn) ∧ W.cell? ⟨gT, a * 6 + 3, none⟩ = some (.int .i64 x.off)) (first | go_keep | exact HKEEP.out _ HBN.out)
            (first
              | (go_at_call 22; refine (HFL.out _).mono ?_; rintro e w6 ⟨B1, c1, rfl, ho1, hb⟩; have HO6 := Lib.hid ho1; have HBN : Hid (Below wr.heap.size wr w6) := (bel_drew (Below.refl _ _)).trans hb; clear ho1 hb)
              | (go_at_call 21; refine (HSM.out _ _ _ (HA.out.trans (HBN.out.mono HA.out.size)) HO6.out).mono ?_; rintro e w7 ⟨rfl, hb⟩; have HBM : Hid (Below wr.heap.size wr w7) := HBN.out.trans (hb.mono HBN.out.size); clear HBN; have HBN := HBM; clear HBM hb))
          have HNF : Hid (¬ (x.off = 0 ∧ x.nrm = List.replicate d 0)) := by
            show ¬ _
            rintro ⟨h1, h2⟩
            have := HBQ.out
            rw [h1, h2, HZ.out] at this
            simp at this
          have HSD := Lib.hid (HS.out.sides a x HXG.out HLF.out HNF.out)
          have HA7 := Lib.hid (HA.out.trans (HBN.out.mono HA.out.size))
          clear HFL HSM HKEEP HBQ HZ HNF n0 n2 n3 HO6 HBN
          go_wp2
          generalize wr = wa at *
          go_loopg [13, 14] a (fun gk ev uv wr => ∃ (u : Nat) (E : Int), gk = a - u ∧ u ≤ a ∧ ev = .int .i64 E ∧ uv = .int .i64 (u : Int) ∧ wr = w7 ∧ Hid (E ≤ (t.length : Int) ∧ ∀ v y, v < u → t[v]? = some y → y.leaf = false → (a : Int) < y.right → E ≤ y.right))
          case atStart => exact ⟨0, (t.length : Int), rfl, Nat.zero_le _, rfl, rfl, rfl, Int.le_refl _, fun v y hv => absurd hv (Nat.not_lt_zero _)⟩
          case round =>
            obtain ⟨u, E, rfl, hu, rfl, rfl, rfl, HE⟩ := hrel
            by_cases hua : u = a
            · subst hua
              go_wp2
              have HBD1 : Hid (Bd 2097152 x.nrm ∧ x.nrm.length ≤ 1024 ∧ -9007199254740992 ≤ x.off ∧ x.off ≤ 9007199254740992) := by
                have hk := HS.out.tok.ok x (List.mem_of_getElem? HXG.out)
                have hxf := HLF.out
                cases hk with
                | leaf ids => cases hxf
                | split nrm off left right hl hb ho => exact ⟨hb, by have := HDI.out.2; show nrm.length ≤ _; omega, ho⟩
              have HSE := Lib.hid (HSD.out E HE.out.1 HE.out.2)
              have HEL := Lib.hid HE.out.1
              have HBF : Hid (∀ id, Bd 1048576 (rowL vs.flatten d id)) := fun id => rowL_bd HI5.out.bd d id
              clear HE
              generalize wr = w8 at *
              go_loopg [15] (t.length - (u + 1)) (fun gk kv wr => ∃ k : Nat, gk = t.length - k ∧ u < k ∧ kv = .int .i64 (k : Int) ∧ Hid (Below w8.heap.size w8 wr))
              case atStart => exact ⟨u + 1, rfl, Nat.lt_succ_self _, by go_num, Lib.hid (Below.refl _ _)⟩
              case round =>
                obtain ⟨k, rfl, huk, rfl, HK⟩ := hrel
                have HQW := Lib.hid (HA7.out.trans (HK.out.mono HA7.out.size))
                have hk9 : (0 : Int) ≤ (k : Int) := by omega
                by_cases hke : (k : Int) < E
                · have hkt : k < t.length := by have := HEL.out; omega
                  have hkt' : (k : Int) < (t.length : Int) := by omega
                  have hkb6 : (k : Int) ≤ 60000 := by omega
                  obtain ⟨Ay, cy, Ny, cny, hny⟩ := tree_node HHO.out.1 HHO.out.2 k hkt
                  have hyg : t[k]? = some t[k] := List.getElem?_eq_getElem hkt
                  generalize t[k] = y at *
                  have m1 := keepc HQW.out hny.c1
                  have HYR := Lib.hid hny.ids.1
                  have HSY := Lib.hid (HSE.out k huk hke y hyg)
                  have HLY := Lib.hid (HS.out.lt k y hyg)
                  have HYL := Lib.hid (HS.out.tok.il y (List.mem_of_getElem? hyg))
                  have HTK : Hid (t.length - (k + 1) < t.length - k ∧ u < k + 1) := by show _ ∧ _; omega
                  clear hny hyg
                  go_wp2
                  generalize wr = wk at *
                  clear m1
                  go_loopg [118] y.ids.length (fun gk i wr => ∃ q : Nat, gk = y.ids.length - q ∧ q ≤ y.ids.length ∧ i = .int .i64 (q : Int) ∧ Hid (Below wk.heap.size wk wr))
                  case atStart => exact ⟨0, rfl, Nat.zero_le _, rfl, Lib.hid (Below.refl _ _)⟩
                  case round =>
                    obtain ⟨q, rfl, hq, rfl, HQ⟩ := hrel
                    by_cases hqn : q = y.ids.length
                    · subst hqn
                      go_wp2
                      go_roundg (t.length - (k + 1))
                      case measure => exact HTK.out.1
                      case rel => exact ⟨k + 1, rfl, HTK.out.2, by go_num, HK.out.trans (HQ.out.mono HK.out.size)⟩
                    have hql : q < y.ids.length := by omega
                    have hql' : (q : Int) < (y.ids.length : Int) := by omega
                    have hq9 : (0 : Int) ≤ (q : Int) := by omega
                    have hqb : (q : Int) ≤ 60000 := by have := HYL.out; omega
                    have HTQ : Hid (y.ids.length - (q + 1) < y.ids.length - q ∧ q + 1 ≤ y.ids.length) := by show _ ∧ _; omega
                    have HQB := Lib.hid (HQW.out.trans (HQ.out.mono HQW.out.size))
                    obtain ⟨ad, rfl, hc⟩ := (HYR.out.below HQB.out).nat q hql
                    have him : y.ids.getD q 0 ∈ y.ids := by rw [List.getD_eq_getElem?_getD, List.getElem?_eq_getElem hql]; exact List.getElem_mem hql
                    have hidn := HLY.out _ him
                    have hsl := HSY.out _ him
                    generalize y.ids.getD q 0 = id at *
                    have HATT := Lib.hid (at_any wr (HIJ.out.below HQB.out) id hidn)
                    have HLB := Lib.hid (HBF.out id)
                    have HSL := Lib.hid hsl
                    have HBK : Hid (∀ w1 w2 : World, Below wr.heap.size wr w1 → Below w1.heap.size w1 w2 → Below wk.heap.size wk w2) := fun w1 w2 h1 h2 => HQ.out.trans ((h1.trans (h2.mono h1.size)).mono HQ.out.size)
                    clear him hidn hsl hqn
                    generalize rowL vs.flatten d id = l at *
                    by_cases hrk : x.right ≤ (k : Int)
                    · have HSD2 : Hid (∀ W V m e, Below Wj.heap.size Wj W → Reads W V m (i32V l) → Calls Tryz.prog 24 #[.agg #[.slice N x.nrm.length cn, .int .i64 x.off], .slice V m e] W fun en w' => en = .returned (.bool true) ∧ Below W.heap.size W w') := fun W V m e hb hv => by
                        have := side_any x.nrm l x.off N V x.nrm.length cn m e W (HNX.out.nrm.1.below hb) hv HBD1.out.1 (bd_up HLB.out) (by have := HBD1.out.2.1; omega) HBD1.out.2.2
                        rw [HSL.out, show decide (x.right ≤ (k : Int)) = true by simp; omega] at this
                        exact this
                      go_wp2_with fail
                      refine HATT.out.mono ?_
                      rintro e w1 ⟨C, c1, rfl, ho1, hb1⟩
                      have HR1 := Lib.hid (own_reads ho1)
                      have HB1 := Lib.hid (HQB.out.trans (hb1.mono HQB.out.size))
                      have HK1 : Hid (∀ W : World, Below w1.heap.size w1 W → W.cell? ⟨gT, u * 6 + 2, none⟩ = some (.slice N x.nrm.length cn) ∧ W.cell? ⟨gT, u * 6 + 3, none⟩ = some (.int .i64 x.off) ∧ W.cell? ⟨gT, u * 6 + 5, none⟩ = some (.int .i64 x.right)) := fun W hb =>
                        have h1 := HB1.out.trans (hb.mono HB1.out.size)
                        And.intro (keepc h1 HNX.out.c2) (And.intro (keepc h1 HNX.out.c3) (keepc h1 HNX.out.c5))
                      have k2 := keepc HB1.out HNX.out.c2
                      have k3 := keepc HB1.out HNX.out.c3
                      have k5 := keepc HB1.out HNX.out.c5
                      have HB1Q := Lib.hid hb1
                      clear ho1 hb1 hc
                      go_wp2_with fail
                      go_region_held3 (fun W => W.cell? ⟨gT, u * 6 + 2, none⟩ = some (.slice N x.nrm.length cn) ∧ W.cell? ⟨gT, u * 6 + 3, none⟩ = some (.int .i64 x.off) ∧ W.cell? ⟨gT, u * 6 + 5, none⟩ = some (.int .i64 x.right)) (first | go_keep | exact HK1.out _ HBN.out)
                        (first | (go_at_call 24; refine (HSD2.out _ _ _ _ (HB1.out.trans ((bel_drew (Below.refl _ _)).mono HB1.out.size)) (HR1.out.below (bel_drew (Below.refl _ _)))).mono ?_; rintro e w2 ⟨rfl, hb⟩; have HBN : Hid (Below w1.heap.size w1 w2) := (bel_drew (Below.refl _ _)).trans hb; clear hb))
                      go_wp2
                      go_roundg (y.ids.length - (q + 1))
                      case measure => exact HTQ.out.1
                      case rel => exact ⟨q + 1, rfl, HTQ.out.2, by go_num, HBK.out w1 w2 HB1Q.out HBN.out⟩

                    · have HSD2 : Hid (∀ W V m e, Below Wj.heap.size Wj W → Reads W V m (i32V l) → Calls Tryz.prog 24 #[.agg #[.slice N x.nrm.length cn, .int .i64 x.off], .slice V m e] W fun en w' => en = .returned (.bool false) ∧ Below W.heap.size W w') := fun W V m e hb hv => by
                        have := side_any x.nrm l x.off N V x.nrm.length cn m e W (HNX.out.nrm.1.below hb) hv HBD1.out.1 (bd_up HLB.out) (by have := HBD1.out.2.1; omega) HBD1.out.2.2
                        rw [HSL.out, show decide (x.right ≤ (k : Int)) = false by simp; omega] at this
                        exact this
                      go_wp2_with fail
                      refine HATT.out.mono ?_
                      rintro e w1 ⟨C, c1, rfl, ho1, hb1⟩
                      have HR1 := Lib.hid (own_reads ho1)
                      have HB1 := Lib.hid (HQB.out.trans (hb1.mono HQB.out.size))
                      have HK1 : Hid (∀ W : World, Below w1.heap.size w1 W → W.cell? ⟨gT, u * 6 + 2, none⟩ = some (.slice N x.nrm.length cn) ∧ W.cell? ⟨gT, u * 6 + 3, none⟩ = some (.int .i64 x.off) ∧ W.cell? ⟨gT, u * 6 + 5, none⟩ = some (.int .i64 x.right)) := fun W hb =>
                        have h1 := HB1.out.trans (hb.mono HB1.out.size)
                        And.intro (keepc h1 HNX.out.c2) (And.intro (keepc h1 HNX.out.c3) (keepc h1 HNX.out.c5))
                      have k2 := keepc HB1.out HNX.out.c2
                      have k3 := keepc HB1.out HNX.out.c3
                      have k5 := keepc HB1.out HNX.out.c5
                      have HB1Q := Lib.hid hb1
                      clear ho1 hb1 hc
                      go_wp2_with fail
                      go_region_held3 (fun W => W.cell? ⟨gT, u * 6 + 2, none⟩ = some (.slice N x.nrm.length cn) ∧ W.cell? ⟨gT, u * 6 + 3, none⟩ = some (.int .i64 x.off) ∧ W.cell? ⟨gT, u * 6 + 5, none⟩ = some (.int .i64 x.right)) (first | go_keep | exact HK1.out _ HBN.out)
                        (first | (go_at_call 24; refine (HSD2.out _ _ _ _ (HB1.out.trans ((bel_drew (Below.refl _ _)).mono HB1.out.size)) (HR1.out.below (bel_drew (Below.refl _ _)))).mono ?_; rintro e w2 ⟨rfl, hb⟩; have HBN : Hid (Below w1.heap.size w1 w2) := (bel_drew (Below.refl _ _)).trans hb; clear hb))
                      go_wp2
                      go_roundg (y.ids.length - (q + 1))
                      case measure => exact HTQ.out.1
                      case rel => exact ⟨q + 1, rfl, HTQ.out.2, by go_num, HBK.out w1 w2 HB1Q.out HBN.out⟩

                · have HQX := Lib.hid HQW.out
                  go_wp2
                  go_roundg (t.length - (u + 1))
                  case measure => exact HTA.out
                  case rel => exact ⟨u + 1, rfl, hal, by go_num, HQX.out⟩
            · have hul : u < a := by omega
              have hul' : (u : Int) < (a : Int) := by omega
              have hut : (u : Int) < (t.length : Int) := by omega
              have hu9 : (0 : Int) ≤ (u : Int) := by omega
              have hub : (u : Int) ≤ 60000 := by omega
              obtain ⟨Au, cu, Nu, cv, hnu⟩ := tree_node HHO.out.1 HHO.out.2 u (by omega)
              have hyg : t[u]? = some t[u] := List.getElem?_eq_getElem (by omega)
              generalize t[u] = y at *
              have HYG := Lib.hid hyg
              have m0 := keepc HA7.out hnu.c0
              have m5 := keepc HA7.out hnu.c5
              have HNX1 : Hid (∀ E' : Int, E' ≤ E → (y.leaf = false → (a : Int) < y.right → E' ≤ y.right) → (E' ≤ (t.length : Int) ∧ ∀ v z, v < u + 1 → t[v]? = some z → z.leaf = false → (a : Int) < z.right → E' ≤ z.right)) := fun E' h1 h2 => by
                refine ⟨Int.le_trans h1 HE.out.1, fun v z hv hz hzl hzr => ?_⟩
                by_cases hvu : v = u
                · subst hvu
                  have : y = z := by have := HYG.out; rw [hz] at this; injection this with this; exact this.symm
                  subst this
                  exact h2 hzl hzr
                · exact Int.le_trans h1 (HE.out.2 v z (by omega) hz hzl hzr)
              have HTU : Hid (a - (u + 1) < a - u) := by show _ < _; omega
              clear hnu hyg hua
              cases hyl : y.leaf with
              | true =>
                rw [hyl] at m0
                have HQ := Lib.hid (HNX1.out E (Int.le_refl _) (fun h => by rw [hyl] at h; cases h))
                clear hyl
                go_wp2
                go_roundg (a - (u + 1))
                case measure => exact HTU.out
                case rel => exact ⟨u + 1, E, rfl, hul, rfl, by go_num, rfl, HQ⟩
              | false =>
                rw [hyl] at m0
                clear hyl
                by_cases h1 : (a : Int) < y.right
                · by_cases h2 : y.right < E
                  · have HQ := Lib.hid (HNX1.out y.right (by omega) (fun _ _ => Int.le_refl _))
                    go_wp2
                    go_roundg (a - (u + 1))
                    case measure => exact HTU.out
                    case rel => exact ⟨u + 1, y.right, rfl, hul, rfl, by go_num, rfl, HQ⟩
                  · have HQ := Lib.hid (HNX1.out E (Int.le_refl _) (fun _ _ => by omega))
                    go_wp2
                    go_roundg (a - (u + 1))
                    case measure => exact HTU.out
                    case rel => exact ⟨u + 1, E, rfl, hul, rfl, by go_num, rfl, HQ⟩
                · have HQ := Lib.hid (HNX1.out E (Int.le_refl _) (fun _ h => absurd h h1))
                  go_wp2
                  go_roundg (a - (u + 1))
                  case measure => exact HTU.out
                  case rel => exact ⟨u + 1, E, rfl, hul, rfl, by go_num, rfl, HQ⟩
end Go.Proofs.YtladmconpolneaaGreat

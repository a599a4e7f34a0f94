/- Several texts of this seat, laid together (no statement of its own): their conditions stand in each theorem. -/
import Derived.Test.YtladmconpolneaaGreatMf
/- The heap of entries: sink. -/
set_option linter.unusedVariables false
set_option linter.unusedSimpArgs false
namespace Go.Proofs.YtladmconpolneaaGreat
open Go.RowKit
def HeapPostEK (qc : Nat) (w : World) (B h : Nat) (v : Value) (l' : List El) (w' : World) : Prop := ∃ v', HeapE w' B h (FE qc) v' l' ∧ Below B w w' ∧ KeepT [270, 324] w w' ∧ HStep h w v w' v' ∧ v'.ownBlock = v.ownBlock
set_option maxHeartbeats 1600000 in
set_option maxRecDepth 100000 in
theorem hsinkE_own (qc : Nat) (B h : Nat) (v : Value) (l : List El) (lt : El → El → Bool) (w : World) (hh : HeapE w B h (FE qc) v l) (hF : FirstE qc w lt) (hB : B ≤ w.heap.size) (hn : l.length ≤ 60000) :
    Calls Tryz.prog 205 #[.pointer (some ⟨h, 0, none⟩)] w fun e w' => e = .returned (.tuple #[]) ∧ HeapPostEK qc w B h v (sinkF lt (l.length + 1) l 0) w' := by
  obtain ⟨A, c, rfl⟩ := hh.row.slice
  have HN := Lib.hid hn
  have HI := Lib.hid Tryz.size270
  have HF := Lib.hid hF
  have HH := Lib.hid hh
  obtain ⟨R, hR⟩ : ∃ R, sinkF lt (l.length + 1) l 0 = R := ⟨_, rfl⟩
  have HR : Hid (sinkF lt (l.length + 1) l 0 = R) := hR
  rw [hR]
  clear hR hF hh hn
  go_enter Tryz.func205, Tryz.ntmps205
  go_wp2_with fail
  go_loopg [2] (l.length + 1) (fun gk i wr => ∃ (q f c2 : Nat) (A2 : Option Addr) (l2 : List El), f = gk ∧ i = .int .i64 (q : Int) ∧ l2.length < f + q ∧ (q = 0 ∨ q < l2.length) ∧ Hid (l2.length = l.length) ∧ Hid (sinkF lt f l2 q = R) ∧ Hid (HeapE wr B h (FE qc) (.slice A2 l2.length c2) l2) ∧ Hid (Below B w wr) ∧ Hid (KeepT [270, 324] w wr) ∧ Hid (HStep h w (.slice A l.length c) wr (.slice A2 l2.length c2)) ∧ Hid ((Value.slice A2 l2.length c2).ownBlock = (Value.slice A l.length c).ownBlock))
  case atStart => exact ⟨0, l.length + 1, _, _, l, rfl, rfl, by omega, .inl rfl, Lib.hid rfl, HR, HH, Lib.hid (Below.refl _ _), Lib.hid (KeepT.refl _ _), Lib.hid (HStep.below (Below.refl _ _)), Lib.hid rfl⟩
  case round =>
    obtain ⟨q, f, c2, A2, l2, rfl, rfl, hfq, hq0, HL2, HR2, HST2, HB2, HK2, HS2, HOW⟩ := hrel
    have hqb : (q : Int) ≤ 60000 := by have := HN.out; have := HL2.out; omega
    obtain ⟨f, rfl⟩ : ∃ f', f = f' + 1 := ⟨f - 1, by omega⟩
    obtain ⟨p1, hp1⟩ : ∃ p, 2 * q + 1 = p := ⟨_, rfl⟩
    obtain ⟨p2, hp2⟩ : ∃ p, 2 * q + 2 = p := ⟨_, rfl⟩
    have hR3 := HR2.out
    simp only [sinkF, hp1, hp2] at hR3
    obtain ⟨z, hz⟩ : ∃ z, bestL lt l2 (bestL lt l2 q p1) p2 = z := ⟨_, rfl⟩
    rw [hz] at hR3
    have HZC : Hid (z = q ∨ (q < z ∧ z < l2.length)) := by
      show z = q ∨ (q < z ∧ z < l2.length)
      rcases bestL_or (lt := lt) (l := l2) (b := bestL lt l2 q p1) (q := p2) with h | ⟨h1, h⟩
      · rcases bestL_or (lt := lt) (l := l2) (b := q) (q := p1) with h' | ⟨h1', h'⟩ <;> rw [hz] at h <;> rw [h'] at h <;> omega
      · rw [hz] at h; omega
    have HR3 := Lib.hid hR3
    have HZ := Lib.hid hz
    have HBL : Hid (B ≤ wr.heap.size) := by show B ≤ wr.heap.size; have := lt_of_block HST2.out.box; have := HST2.out.base; omega
    have e1 : 2 * (q : Int) + 1 = (p1 : Int) := by omega
    have e2 : 2 * (q : Int) + 2 = (p2 : Int) := by omega
    clear hR3 hz HR2
    go_wp2_with fail
    generalize wr = W0 at *
    go_loopg [3, 14] 2 (fun gk b i W => ∃ (k bq : Nat), gk = 2 - k ∧ k ≤ 2 ∧ b = .int .i64 (bq : Int) ∧ i = .int .i64 (k : Int) ∧ (bq = q ∨ bq < l2.length) ∧ Hid (SinkRel lt l2 q p2 z k bq) ∧ Hid (Below W0.heap.size W0 W))
    case atStart => exact ⟨0, q, rfl, by decide, rfl, rfl, .inl rfl, Lib.hid ⟨fun _ => rfl, fun h => (by cases h), fun h => (by cases h)⟩, Lib.hid (Below.refl _ _)⟩
    case round =>
      obtain ⟨k, bq, rfl, hk, rfl, rfl, hbq, HKZ, HB3⟩ := hrel
      have HST3 := Lib.hid (HST2.out.below HB3.out)
      by_cases hk2 : k = 2
      · subst hk2
        obtain rfl : bq = z := HKZ.out.2.2 rfl
        clear e1 e2 hp1 hp2 HZ HKZ
        by_cases hzq : bq = q
        · subst hzq
          have HE : Hid (l2 = R) := by show _ = _; rw [← HR3.out, if_pos rfl]
          go_wp2_with fail
          refine bodyPost_ret (results_none rfl _ _ _) rfl ?_
          exact ⟨rfl, _, by have := HST3.out; rw [HE.out] at this; exact this, HB2.out.trans (HB3.out.mono HBL.out), HK2.out.trans (KeepT.below HB3.out), by have := HS2.out.trans (HStep.below HB3.out); rw [HE.out] at this; exact this, by have := HOW.out; rw [HE.out] at this; exact this⟩
        · have hE := HR3.out
          rw [if_neg hzq] at hE
          have HE := Lib.hid hE
          obtain ⟨hzq2, hzl⟩ : q < bq ∧ bq < l2.length := by have := HZC.out; omega
          have hql : q < l2.length := by omega
          have he : ((bq : Int) == (q : Int)) = false := by rw [beq_eq_false_iff_ne]; omega
          generalize bq = u at *
          obtain ⟨g, rfl⟩ := HST3.out.row.addr (by omega)
          obtain ⟨x1, x2, x3⟩ := HST3.out.row.cell q hql
          obtain ⟨y1, y2, y3⟩ := HST3.out.row.cell u hzl
          have gq : l2.getD q [] = l2[q] := by rw [List.getD_eq_getElem?_getD, List.getElem?_eq_getElem hql]; rfl
          have gu : l2.getD u [] = l2[u] := by rw [List.getD_eq_getElem?_getD, List.getElem?_eq_getElem hzl]; rfl
          have HSW := Lib.hid (HST3.out.swap q u hql hzl)
          rw [gq, gu] at HSW
          generalize l2[q] = x at *
          generalize l2[u] = y at *
          obtain ⟨xa, xb, xc, rfl⟩ := El.three x3
          obtain ⟨ya, yb, yc, rfl⟩ := El.three y3
          have z1 : wr.cell? ⟨h, 1, none⟩ = some (.slice (some ⟨g, 0, none⟩) l2.length c2) := cell_of_row wr h 1 _ _ _ HST3.out.box
          have z2 : wr.cell? ⟨g, q * 3, none⟩ = some (.int .i64 xa) := x1 0 _ rfl
          have z3 : wr.cell? ⟨g, q * 3 + 1, none⟩ = some (.int .i64 xb) := x1 1 _ rfl
          have z4 : wr.cell? ⟨g, q * 3 + 2, none⟩ = some (.int .i64 xc) := x1 2 _ rfl
          have z6 : wr.cell? ⟨g, u * 3, none⟩ = some (.int .i64 ya) := y1 0 _ rfl
          have z7 : wr.cell? ⟨g, u * 3 + 1, none⟩ = some (.int .i64 yb) := y1 1 _ rfl
          have z8 : wr.cell? ⟨g, u * 3 + 2, none⟩ = some (.int .i64 yc) := y1 2 _ rfl
          have hql' : (q : Int) < (l2.length : Int) := by omega
          have hul' : (u : Int) < (l2.length : Int) := by omega
          have hq9 : (0 : Int) ≤ (q : Int) := by omega
          have hu9 : (0 : Int) ≤ (u : Int) := by omega
          obtain ⟨cur, hcur⟩ := HST3.out.row.blk g rfl
          have fg : ∀ o, wr.frozen? ⟨g, o, none⟩ = false := fun o => frozen_of_row _ _ _ _ _ hcur
          have HK3 := Lib.hid (HK2.out.trans (KeepT.below HB3.out))
          have HB4 := Lib.hid (HB2.out.trans (HB3.out.mono HBL.out))
          have HS3 := Lib.hid (HS2.out.trans (HStep.below HB3.out))
          clear gq gu x1 x2 x3 y1 y2 y3 hcur hE hbq HR3 HST2 HST3 HI HF HH HB3
          go_wp2_with fail
          go_region
          obtain ⟨W, hW⟩ : ∃ W, ((((((wr.setCell { block := g, off := q * 3 } (Value.int IntKind.i64 ya)).setCell { block := g, off := q * 3 + 1 } (Value.int IntKind.i64 yb)).setCell { block := g, off := q * 3 + 2 } (Value.int IntKind.i64 yc)).setCell { block := g, off := u * 3 } (Value.int IntKind.i64 xa)).setCell { block := g, off := u * 3 + 1 } (Value.int IntKind.i64 xb)).setCell { block := g, off := u * 3 + 2 } (Value.int IntKind.i64 xc)).drew = W := ⟨_, rfl⟩
          rw [hW]
          obtain ⟨s1, s2, s3, s4⟩ := HSW.out
          have S1 : Hid (HeapE W B h (FE qc) (.slice (some ⟨g, 0, none⟩) l2.length c2) (swapL l2 q u)) := by
            show HeapE _ _ _ _ _ _
            rw [← hW]; exact s1.below (bel_drew (Below.refl _ _))
          have S2 : Hid (Below B w W) := by
            show Below _ _ _
            rw [← hW]; exact HB4.out.trans (bel_drew s2)
          have S3 : Hid (KeepT [270, 324] w W) := by
            show KeepT _ _ _
            rw [← hW]; exact (HK3.out.trans s3).trans (KeepT.below (bel_drew (Below.refl _ _)))
          have S4 : Hid (HStep h w (.slice A l.length c) W (.slice (some ⟨g, 0, none⟩) l2.length c2)) := by
            show HStep _ _ _ _ _
            rw [← hW]; exact (HS3.out.trans s4).trans (HStep.below (bel_drew (Below.refl _ _)))
          clear hW s1 s2 s3 s4 z1 z2 z3 z4 z6 z7 z8 fg HSW HB4 HK3
          go_wp2
          go_roundg f
          case measure => omega
          case rel => exact ⟨u, f, c2, _, swapL l2 q u, rfl, rfl, by rw [swapL_length]; omega, .inr (by rw [swapL_length]; omega), Lib.hid (by rw [swapL_length]; exact HL2.out), HE, by rw [swapL_length]; exact S1, S2, S3, by rw [swapL_length]; exact S4, by rw [swapL_length]; exact HOW⟩
      · have HNX : ∃ p, Hid (k = 0 ∧ p = p1 ∨ k = 1 ∧ p = p2) ∧ Hid (∀ b', bestL lt l2 bq p = b' → SinkRel lt l2 q p2 z (k + 1) b') := by
          rcases (by omega : k = 0 ∨ k = 1) with rfl | rfl
          · refine ⟨p1, Lib.hid (.inl ⟨rfl, rfl⟩), Lib.hid fun b' hb' => ⟨fun h => (by cases h), fun _ => ?_, fun h => (by cases h)⟩⟩
            rw [← hb', HKZ.out.1 rfl]; exact HZ.out
          · refine ⟨p2, Lib.hid (.inr ⟨rfl, rfl⟩), Lib.hid fun b' hb' => ⟨fun h => (by cases h), fun h => (by cases h), fun _ => ?_⟩⟩
            rw [← hb']; exact HKZ.out.2.1 rfl
        obtain ⟨p, HKP, HNX⟩ := HNX
        have hkp := HKP.out
        clear HKZ HKP HZ HZC HR3
        have hp9 : (0 : Int) ≤ (p : Int) := by omega
        have hb9 : (0 : Int) ≤ (bq : Int) := by omega
        by_cases hpl : p < l2.length
        · have hbl : bq < l2.length := by omega
          obtain ⟨g, rfl⟩ := HST3.out.row.addr (by omega)
          obtain ⟨x1, x2, x3⟩ := HST3.out.row.cell p hpl
          obtain ⟨y1, y2, y3⟩ := HST3.out.row.cell bq hbl
          have gq : l2.getD p [] = l2[p] := by rw [List.getD_eq_getElem?_getD, List.getElem?_eq_getElem hpl]; rfl
          have gu : l2.getD bq [] = l2[bq] := by rw [List.getD_eq_getElem?_getD, List.getElem?_eq_getElem hbl]; rfl
          have hbe := bestL_in (lt := lt) (b := bq) hpl
          rw [gq, gu] at hbe
          generalize l2[p] = x at *
          generalize l2[bq] = y at *
          obtain ⟨xa, xb, xc, rfl⟩ := El.three x3
          obtain ⟨ya, yb, yc, rfl⟩ := El.three y3
          have HCL : Hid (∀ W, W.heap = wr.heap → Calls Tryz.prog 165 #[.agg #[.int .i64 xa, .int .i64 xb, .int .i64 xc], .agg #[.int .i64 ya, .int .i64 yb, .int .i64 yc], .pointer (some ⟨qc, 0, none⟩)] W fun e w' => e = .returned (.bool (lt [xa, xb, xc] [ya, yb, yc])) ∧ Below W.heap.size W w') := fun W hW => HF.out W _ _ ((HK2.out.trans (KeepT.below HB3.out)).heap hW) x3 y3
          have ch0 : wr.cell? ⟨h, 0, none⟩ = some (FE qc) := cell_of_row wr h 0 _ _ _ HST3.out.box
          have ch1 : wr.cell? ⟨h, 1, none⟩ = some (.slice (some ⟨g, 0, none⟩) l2.length c2) := cell_of_row wr h 1 _ _ _ HST3.out.box
          have kx0 : wr.cell? ⟨g, p * 3, none⟩ = some (.int .i64 xa) := x1 0 _ rfl
          have kx1 : wr.cell? ⟨g, p * 3 + 1, none⟩ = some (.int .i64 xb) := x1 1 _ rfl
          have kx2 : wr.cell? ⟨g, p * 3 + 2, none⟩ = some (.int .i64 xc) := x1 2 _ rfl
          have ky0 : wr.cell? ⟨g, bq * 3, none⟩ = some (.int .i64 ya) := y1 0 _ rfl
          have ky1 : wr.cell? ⟨g, bq * 3 + 1, none⟩ = some (.int .i64 yb) := y1 1 _ rfl
          have ky2 : wr.cell? ⟨g, bq * 3 + 2, none⟩ = some (.int .i64 yc) := y1 2 _ rfl
          have HKEEP := Lib.hid (fun (W : World) (hb : Below wr.heap.size wr W) => And.intro (keepc hb ch0) (And.intro (keepc hb ch1) (And.intro (keepc hb kx0) (And.intro (keepc hb kx1) (And.intro (keepc hb kx2) (And.intro (keepc hb ky0) (And.intro (keepc hb ky1) (keepc hb ky2))))))))
          have hpl' : (p : Int) < (l2.length : Int) := by omega
          have hbl' : (bq : Int) < (l2.length : Int) := by omega
          have HBE := Lib.hid hbe
          have HBS : Hid (W0.heap.size ≤ wr.heap.size) := HB3.out.size
          clear hbe gq gu x1 x2 x3 y1 y2 y3 HST3 hp1 hp2
          obtain ⟨lv, hlv⟩ : ∃ lv, lt [xa, xb, xc] [ya, yb, yc] = lv := ⟨_, rfl⟩
          rw [hlv] at HCL HBE
          have HNF : Hid (lv = false → SinkRel lt l2 q p2 z (k + 1) bq) := Lib.hid fun hv => HNX.out _ (by rw [HBE.out, hv]; rfl)
          have HNT : Hid (lv = true → SinkRel lt l2 q p2 z (k + 1) p) := Lib.hid fun hv => HNX.out _ (by rw [HBE.out, if_pos hv])
          clear hlv HBE HNX
          rcases hkp with ⟨rfl, rfl⟩ | ⟨rfl, rfl⟩
          · go_wp2_with fail
            rw [Tryz.index317_0]
            go_wp2_with fail
            go_region_held3 (fun W => W.cell? ⟨h, 0, none⟩ = some (FE qc) ∧ W.cell? ⟨h, 1, none⟩ = some (.slice (some ⟨g, 0, none⟩) l2.length c2) ∧
              W.cell? ⟨g, p * 3, none⟩ = some (.int .i64 xa) ∧ W.cell? ⟨g, p * 3 + 1, none⟩ = some (.int .i64 xb) ∧ W.cell? ⟨g, p * 3 + 2, none⟩ = some (.int .i64 xc) ∧
              W.cell? ⟨g, bq * 3, none⟩ = some (.int .i64 ya) ∧ W.cell? ⟨g, bq * 3 + 1, none⟩ = some (.int .i64 yb) ∧ W.cell? ⟨g, bq * 3 + 2, none⟩ = some (.int .i64 yc)) (first | go_keep | exact HKEEP.out _ HB4.out)
              (first | (go_at_call 165; refine (HCL.out _ (by rfl)).mono ?_; rintro e w3 ⟨rfl, hb3⟩; have HB4 : Hid (Below wr.heap.size wr w3) := (bel_drew (Below.refl _ _)).trans hb3; clear hb3))
            have HB5 := Lib.hid (HB3.out.trans (HB4.out.mono HBS.out))
            cases lv with
            | false =>
              have HN2 := Lib.hid (HNF.out rfl)
              clear HKEEP HCL HNF HNT
              go_wp2
              go_roundg 1
              case measure => decide
              case rel => exact ⟨1, bq, rfl, by decide, rfl, rfl, hbq, HN2, HB5⟩
            | true =>
              have HN2 := Lib.hid (HNT.out rfl)
              clear HKEEP HCL HNF HNT
              go_wp2
              go_roundg 1
              case measure => decide
              case rel => exact ⟨1, p, rfl, by decide, rfl, rfl, .inr hpl, HN2, HB5⟩
          · go_wp2_with fail
            rw [Tryz.index317_1]
            go_wp2_with fail
            go_region_held3 (fun W => W.cell? ⟨h, 0, none⟩ = some (FE qc) ∧ W.cell? ⟨h, 1, none⟩ = some (.slice (some ⟨g, 0, none⟩) l2.length c2) ∧
              W.cell? ⟨g, p * 3, none⟩ = some (.int .i64 xa) ∧ W.cell? ⟨g, p * 3 + 1, none⟩ = some (.int .i64 xb) ∧ W.cell? ⟨g, p * 3 + 2, none⟩ = some (.int .i64 xc) ∧
              W.cell? ⟨g, bq * 3, none⟩ = some (.int .i64 ya) ∧ W.cell? ⟨g, bq * 3 + 1, none⟩ = some (.int .i64 yb) ∧ W.cell? ⟨g, bq * 3 + 2, none⟩ = some (.int .i64 yc)) (first | go_keep | exact HKEEP.out _ HB4.out)
              (first | (go_at_call 165; refine (HCL.out _ (by rfl)).mono ?_; rintro e w3 ⟨rfl, hb3⟩; have HB4 : Hid (Below wr.heap.size wr w3) := (bel_drew (Below.refl _ _)).trans hb3; clear hb3))
            have HB5 := Lib.hid (HB3.out.trans (HB4.out.mono HBS.out))
            cases lv with
            | false =>
              have HN2 := Lib.hid (HNF.out rfl)
              clear HKEEP HCL HNF HNT
              go_wp2
              go_roundg 0
              case measure => decide
              case rel => exact ⟨2, bq, rfl, by decide, rfl, rfl, hbq, HN2, HB5⟩
            | true =>
              have HN2 := Lib.hid (HNT.out rfl)
              clear HKEEP HCL HNF HNT
              go_wp2
              go_roundg 0
              case measure => decide
              case rel => exact ⟨2, p, rfl, by decide, rfl, rfl, .inr hpl, HN2, HB5⟩
        · have HN2 : Hid (SinkRel lt l2 q p2 z (k + 1) bq) := HNX.out _ (bestL_out hpl)
          have hpl' : ¬ (p : Int) < (l2.length : Int) := by omega
          have ch1 : wr.cell? ⟨h, 1, none⟩ = some (.slice A2 l2.length c2) := cell_of_row wr h 1 _ _ _ HST3.out.box
          have HB5 : Hid (∀ n, Below W0.heap.size W0 (wr.drewN n)) := bel_drewN HB3.out
          clear HNX HST3 hp1 hp2
          rcases hkp with ⟨rfl, rfl⟩ | ⟨rfl, rfl⟩
          · go_wp2_with fail
            rw [Tryz.index317_0]
            go_wp2_with fail
            go_quiet (fail)
            go_wp2
            go_roundg 1
            case measure => decide
            case rel => exact ⟨1, bq, rfl, by decide, rfl, rfl, hbq, HN2, HB5.out _⟩
          · go_wp2_with fail
            rw [Tryz.index317_1]
            go_wp2_with fail
            go_quiet (fail)
            go_wp2
            go_roundg 0
            case measure => decide
            case rel => exact ⟨2, bq, rfl, by decide, rfl, rfl, hbq, HN2, HB5.out _⟩
theorem hsinkE_any (qc : Nat) (B h : Nat) (v : Value) (l : List El) (lt : El → El → Bool) (w : World) (hh : HeapE w B h (FE qc) v l) (hF : FirstE qc w lt) (hB : B ≤ w.heap.size) (hn : l.length ≤ 60000) :
    Calls Tryz.prog 205 #[.pointer (some ⟨h, 0, none⟩)] w fun e w' => e = .returned (.tuple #[]) ∧ HeapPostE qc w B h v (sinkF lt (l.length + 1) l 0) w' :=
  (hsinkE_own qc B h v l lt w hh hF hB hn).mono (by rintro e w' ⟨he, v', a1, a2, a3, a4, _⟩; exact ⟨he, v', a1, a2, a3, a4⟩)
end Go.Proofs.YtladmconpolneaaGreat

/- The heap of entries: Pop, New. -/
set_option linter.unusedVariables false
set_option linter.unusedSimpArgs false
namespace Go.Proofs.YtladmconpolneaaGreat
open Go.RowKit
def PopPostE (qc : Nat) (w : World) (B h : Nat) (v : Value) (lt : El → El → Bool) (l : List El) (e : Ending) (w' : World) : Prop :=
  (∀ x r, l = x :: r → e = .returned (.tuple #[.agg (i64V x).toArray, .bool true]) ∧ HeapPostE qc w B h v (popL lt l) w') ∧ (l = [] → e = .returned (.tuple #[.agg zero3, .bool false]) ∧ HeapPostE qc w B h v [] w')
def PopPostEK (qc : Nat) (w : World) (B h : Nat) (v : Value) (lt : El → El → Bool) (l : List El) (e : Ending) (w' : World) : Prop :=
  (∀ x r, l = x :: r → e = .returned (.tuple #[.agg (i64V x).toArray, .bool true]) ∧ HeapPostEK qc w B h v (popL lt l) w') ∧ (l = [] → e = .returned (.tuple #[.agg zero3, .bool false]) ∧ HeapPostEK qc w B h v [] w')
set_option maxHeartbeats 1600000 in
set_option maxRecDepth 100000 in
theorem hpopE_own (qc : Nat) (B h : Nat) (v : Value) (l : List El) (lt : El → El → Bool) (w : World) (hh : HeapE w B h (FE qc) v l) (hF : FirstE qc w lt) (hB : B ≤ w.heap.size) (hn : l.length ≤ 60000) :
    Calls Tryz.prog 170 #[.pointer (some ⟨h, 0, none⟩)] w (PopPostEK qc w B h v lt l) := by
  obtain ⟨A, c, rfl⟩ := hh.row.slice
  have HN := Lib.hid hn
  have HI := Lib.hid Tryz.size270
  have HF := Lib.hid hF
  have HH := Lib.hid hh
  have hlt := lt_of_block hh.box
  have HB1 : Hid (∀ o, Below w.heap.size w (w.alloc o)) := fun o => (Below.refl _ _).alloc (Nat.le_refl _) _
  have HPK := Lib.hid (peekE_any B h (FE qc) (.slice A l.length c) l _ (hh.below (HB1.out (.cells zero3 270))))
  have HZ := Lib.hid (heap_alloc_new w (.cells zero3 270))
  clear hF hh hn
  cases l with
  | nil =>
    go_enter Tryz.func170, Tryz.ntmps170
    go_wp2_with (first
      | (go_at_call 169; refine HPK.out.mono ?_; rintro e w2 ⟨-, hp, hb2⟩; obtain rfl := hp rfl; have HB2 := Lib.hid hb2; clear hp hb2)
      | (refine wpList_store_row rfl 270 (.tmp 4) (.tmp 10) rfl w2.heap.size rfl 270 zero3 zero3 rfl (heap_alloc_new _ _) HI.out rfl (by simp [Value.oneCell']) ?_; have HL := Lib.hid (local_two (x := zero3) HB2.out); generalize (w2.alloc (.cells zero3 270)).setRow w2.heap.size zero3 = W1 at *)
      | (refine wpList_load_row rfl 270 (.tmp 4) rfl w2.heap.size rfl 270 zero3 (0, 0) _ HL.out.1 Tryz.underlying270 rfl HI.out ?_)
      | (refine wpList_store_row rfl 270 (.tmp 2) (.tmp 14) rfl w.heap.size rfl 270 zero3 zero3 rfl HL.out.2.1 HI.out rfl (by simp [Value.oneCell']) ?_; have HGW := Lib.hid (setRow_heap W1 w.heap.size zero3 zero3 270 (0, 0) HL.out.2.1); have HBW : Hid (Below w.heap.size w (W1.setRow w.heap.size zero3)) := bel_setRow HL.out.2.2.1 (Nat.le_refl _); generalize W1.setRow w.heap.size zero3 = W2 at *)
      | fail)
    refine bodyPost_ret (results_cell_slot rfl _ _ w.heap.size 270 zero3 (0, 0) _ rfl HGW.out Tryz.underlying270 rfl HI.out) rfl ?_
    exact ⟨fun x r e => (by cases e), fun _ => ⟨rfl, _, HH.out.below HBW.out, HBW.out.mono hB, KeepT.below HBW.out, HStep.below HBW.out, rfl⟩⟩
  | cons x r =>
    obtain ⟨g, rfl⟩ := HH.out.row.addr (by simp)
    obtain ⟨q1, q2, q3⟩ := HH.out.row.cell 0 (by simp)
    obtain ⟨y1, y2, y3⟩ := HH.out.row.cell r.length (by simp)
    have q3' : x.length = 3 := q3
    have gl : (x :: r).getD r.length [] = (x :: r)[r.length] := by rw [List.getD_eq_getElem?_getD, List.getElem?_eq_getElem (by simp)]; rfl
    have HPL := Lib.hid (popL_one (lt := lt) (x := x) (r := r))
    rw [gl] at HPL
    generalize (x :: r)[r.length] = y at *
    obtain ⟨ya, yb, yc, rfl⟩ := El.three y3
    obtain ⟨a, b, d, rfl⟩ := El.three q3'
    obtain ⟨R, hR⟩ : ∃ R, popL lt ([a, b, d] :: r) = R := ⟨_, rfl⟩
    have HR := Lib.hid hR
    have HQ := Lib.hid (And.intro q1 (And.intro y1 y2))
    clear gl q1 q2 q3 q3' y1 y2 y3 hR
    have hr0 : (0 : Int) < (r.length : Int) + 1 := by omega
    have hr1 : (0 : Int) ≤ (r.length : Int) := by omega
    have hr2 : (r.length : Int) ≤ 60000 := by have := HN.out; rw [List.length_cons] at this; omega
    go_enter Tryz.func170, Tryz.ntmps170
    go_wp2_with (first
      | (go_at_call 169; refine HPK.out.mono ?_; rintro e w2 ⟨hp, -, hb2⟩; obtain rfl := hp _ _ rfl; have HB2 := Lib.hid hb2; clear hp hb2)
      | (refine wpList_store_row rfl 270 (.tmp 4) (.tmp 10) rfl w2.heap.size rfl 270 zero3 #[.int .i64 a, .int .i64 b, .int .i64 d] rfl (heap_alloc_new _ _) HI.out rfl (by simp [Value.oneCell']) ?_; have HL := Lib.hid (local_two (x := #[.int .i64 a, .int .i64 b, .int .i64 d]) HB2.out); generalize (w2.alloc (.cells zero3 270)).setRow w2.heap.size #[.int .i64 a, .int .i64 b, .int .i64 d] = W1 at *; have HHW := Lib.hid (HH.out.below HL.out.2.2.1); have ch1 : W1.cell? ⟨h, 1, none⟩ = some (.slice (some ⟨g, 0, none⟩) (r.length + 1) c) := cell_of_row W1 h 1 _ _ _ HHW.out.box)
      | fail)
    have HBW := Lib.hid HL.out.2.2.1
    have k0 : W1.cell? ⟨g, r.length * 3, none⟩ = some (.int .i64 ya) := keepc HBW.out (HQ.out.2.1 0 _ rfl)
    have k1 : W1.cell? ⟨g, r.length * 3 + 1, none⟩ = some (.int .i64 yb) := keepc HBW.out (HQ.out.2.1 1 _ rfl)
    have k2 : W1.cell? ⟨g, r.length * 3 + 2, none⟩ = some (.int .i64 yc) := keepc HBW.out (HQ.out.2.1 2 _ rfl)
    have q0 : w.rangeAt g 0 (i64V [a, b, d]) := by have := HQ.out.1; rw [Nat.zero_mul] at this; exact this
    have j0 : W1.cell? ⟨g, 0, none⟩ = some (.int .i64 a) := keepc HBW.out (q0 0 _ rfl)
    have j1 : W1.cell? ⟨g, 1, none⟩ = some (.int .i64 b) := keepc HBW.out (q0 1 _ rfl)
    have j2 : W1.cell? ⟨g, 2, none⟩ = some (.int .i64 d) := keepc HBW.out (q0 2 _ rfl)
    obtain ⟨cur, hcur⟩ := HHW.out.row.blk g rfl
    have fg : ∀ o, W1.frozen? ⟨g, o, none⟩ = false := fun o => frozen_of_row _ _ _ _ _ hcur
    go_region
    obtain ⟨W2, hW2⟩ : ∃ W, (((W1.setCell { block := g, off := 0 } (Value.int IntKind.i64 ya)).setCell { block := g, off := 1 } (Value.int IntKind.i64 yb)).setCell { block := g, off := 2 } (Value.int IntKind.i64 yc)).drew = W := ⟨_, rfl⟩
    rw [hW2]
    obtain ⟨s1, s2, s3, s4, s5⟩ := HHW.out.put 0 (by simp) [ya, yb, yc] rfl
    have hgl := (HH.out.row.lt g rfl).2
    obtain ⟨L2, hL2⟩ : ∃ L, ([a, b, d] :: r).set 0 [ya, yb, yc] = L := ⟨_, rfl⟩
    have e2 : L2.length = r.length + 1 := by rw [← hL2]; simp
    have S1 : Hid (HeapE W2 B h (FE qc) (.slice (some ⟨g, 0, none⟩) (r.length + 1) c) L2) := by
      show HeapE _ _ _ _ _ _
      rw [← hW2, ← hL2]; exact s1.below (bel_drew (Below.refl _ _))
    have S2 : Hid (Below B w W2) := by
      show Below _ _ _
      rw [← hW2]; exact (HBW.out.mono hB).trans (bel_drew s2)
    have S3 : Hid (KeepT [270, 324] w W2) := by
      show KeepT _ _ _
      rw [← hW2]; exact ((KeepT.below HBW.out).trans s3).trans (KeepT.below (bel_drew (Below.refl _ _)))
    have S4 : Hid (HStep h w (.slice (some ⟨g, 0, none⟩) (r.length + 1) c) W2 (.slice (some ⟨g, 0, none⟩) (r.length + 1) c)) := by
      show HStep _ _ _ _ _
      rw [← hW2]; exact ((HStep.below HBW.out).trans s4).trans (HStep.below (bel_drew (Below.refl _ _)))
    have S5 : Hid (W2.heap[w2.heap.size]? = some (.cells #[.int .i64 a, .int .i64 b, .int .i64 d] 270 (0, 0)) ∧ W2.heap[w.heap.size]? = some (.cells zero3 270 (0, 0))) := by
      have h4 := HL.out.2.2.2
      have h5 : ∀ q, q ≠ g → W2.heap[q]? = W1.heap[q]? := fun q hq => by rw [← hW2]; exact s5 q hq
      exact ⟨(h5 _ (by omega)).trans HL.out.1, (h5 _ (by omega)).trans HL.out.2.1⟩
    have HPE : Hid (sinkF lt ((L2.take r.length).length + 1) (L2.take r.length) 0 = R) := by
      show _ = _
      rw [← hL2, ← HR.out]; exact HPL.out.symm
    clear hW2 hL2 s1 s2 s3 s4 s5 k0 k1 k2 q0 j0 j1 j2 hcur fg ch1
    have hrow3 := S1.out.row
    rw [← e2] at hrow3
    have hcp := hrow3.cap
    have hr4 := hrow3.cut r.length (by omega) (by omega)
    obtain ⟨t1, t2, t3⟩ := HeapE.store S1.out.box S1.out.base hr4
    have HR4 := Lib.hid hr4
    have T1 := Lib.hid t1
    have T2 := Lib.hid t2
    have T3 := Lib.hid t3
    have hcap : (r.length : Int) ≤ (c : Int) := by omega
    have ch2 : W2.cell? ⟨h, 1, none⟩ = some (.slice (some ⟨g, 0, none⟩) (r.length + 1) c) := cell_of_row W2 h 1 _ _ _ S1.out.box
    have fh2 := frozen_of_row W2 h 1 _ _ S1.out.box
    have e3 : (L2.take r.length).length = r.length := by rw [List.length_take]; omega
    have T5 : Hid (HStep h w (.slice (some ⟨g, 0, none⟩) (r.length + 1) c) (W2.setCell ⟨h, 1, none⟩ (.slice (some ⟨g, 0, none⟩) r.length c)) (.slice (some ⟨g, 0, none⟩) r.length c)) := S4.out.trans (HStep.set' rfl)
    have HSK := Lib.hid (hsinkE_own qc B h (.slice (some ⟨g, 0, none⟩) r.length c) (L2.take r.length) lt _ t1 (fun W' x y hk hx hy => HF.out W' x y ((S3.out.trans t2).trans hk) hx hy) (Nat.le_trans hB (Nat.le_trans S3.out.1 t2.1)) (by omega))
    clear hrow3 hcp hr4 t1 t2 t3 e2 e3
    go_wp2_with (first
      | (go_at_call 205; refine HSK.out.mono ?_; rintro e w4 ⟨rfl, v5, hh5, hb5, hk5, hs5, ho5⟩; rw [HPE.out] at hh5; have HO5 := Lib.hid ho5; clear ho5
         have hst : ∀ q, q < W2.heap.size → q ≠ h → q ≠ g → w4.heap[q]? = W2.heap[q]? := fun q hq1 hq2 hq3 => (hs5.2.1 q (Nat.lt_of_lt_of_le hq1 T2.out.1) hq2 (fun e => hq3 (Option.some.inj e).symm)).trans (Below.heap_setCell _ _ _ _ hq2)
         have h24 := HL.out.2.2.2
         have G4 : Hid (w4.heap[w2.heap.size]? = some (.cells #[.int .i64 a, .int .i64 b, .int .i64 d] 270 (0, 0))) := (hst _ (lt_of_block S5.out.1) (by omega) (by omega)).trans S5.out.1
         have GR : Hid (w4.heap[w.heap.size]? = some (.cells zero3 270 (0, 0))) := (hst _ (lt_of_block S5.out.2) (by omega) (by omega)).trans S5.out.2
         have NV : Hid (v5.ownBlock ≠ some w.heap.size) := by
           intro e
           have e1 := hs5.2.2 _ e (Nat.lt_of_lt_of_le (lt_of_block S5.out.2) T2.out.1)
           have e2 : g = w.heap.size := Option.some.inj e1
           omega
         have H5 := Lib.hid hh5
         have B5 := Lib.hid (S2.out.trans (T3.out.trans hb5))
         have K5 := Lib.hid ((S3.out.trans T2.out).trans hk5)
         have N5 := Lib.hid (T5.out.trans hs5)
         clear hh5 hb5 hk5 hs5 hst h24)
      | (refine wpList_load_row rfl 270 (.tmp 4) rfl w2.heap.size rfl 270 #[.int .i64 a, .int .i64 b, .int .i64 d] (0, 0) _ G4.out Tryz.underlying270 rfl HI.out ?_)
      | (refine wpList_store_row rfl 270 (.tmp 2) (.tmp 44) rfl w.heap.size rfl 270 zero3 #[.int .i64 a, .int .i64 b, .int .i64 d] rfl GR.out HI.out rfl (by simp [Value.oneCell']) ?_; have HGW := Lib.hid (setRow_heap w4 w.heap.size zero3 #[.int .i64 a, .int .i64 b, .int .i64 d] 270 (0, 0) GR.out))
      | fail)
    refine bodyPost_ret (results_cell_slot rfl _ _ w.heap.size 270 #[.int .i64 a, .int .i64 b, .int .i64 d] (0, 0) _ rfl HGW.out Tryz.underlying270 rfl HI.out) rfl ?_
    refine ⟨fun x' r' e => ⟨?_, ?_⟩, fun e => (by cases e)⟩
    · rw [← (List.cons.inj e).1]; rfl
    · show HeapPostEK qc w B h (.slice (some ⟨g, 0, none⟩) (r.length + 1) c) (popL lt ([a, b, d] :: r)) _
      rw [HR.out]
      refine ⟨v5, H5.out.move (setRow_other _ _ _ _ (by omega)) (fun q hq => setRow_other _ _ _ _ (fun e => NV.out (by rw [← e]; exact hq))), bel_setRow B5.out hB, K5.out.row (Nat.le_refl _), N5.out.row (Nat.le_refl _), HO5.out⟩
theorem hpopE_any (qc : Nat) (B h : Nat) (v : Value) (l : List El) (lt : El → El → Bool) (w : World) (hh : HeapE w B h (FE qc) v l) (hF : FirstE qc w lt) (hB : B ≤ w.heap.size) (hn : l.length ≤ 60000) :
    Calls Tryz.prog 170 #[.pointer (some ⟨h, 0, none⟩)] w (PopPostE qc w B h v lt l) :=
  (hpopE_own qc B h v l lt w hh hF hB hn).mono (by
    rintro e w' ⟨p, q⟩
    refine ⟨fun x r hl => ?_, fun hl => ?_⟩
    · obtain ⟨he, v', a1, a2, a3, a4, _⟩ := p x r hl
      exact ⟨he, v', a1, a2, a3, a4⟩
    · obtain ⟨he, v', a1, a2, a3, a4, _⟩ := q hl
      exact ⟨he, v', a1, a2, a3, a4⟩)
theorem hnewE_any (qc : Nat) (w : World) : Calls Tryz.prog 164 #[(FE qc), .slice none 0 0] w fun e w' => ∃ h, e = .returned (.pointer (some ⟨h, 0, none⟩)) ∧ HeapE w' w.heap.size h (FE qc) (.slice none 0 0) [] ∧ Below w.heap.size w w' := by
  go_enter Tryz.func164, Tryz.ntmps164
  go_wp2_with fail
  go_loopg [13] 0 (fun gk i wr => i = .int .i64 0 ∧ wr = w.alloc (.cells #[(FE qc), .slice none 0 0] 324))
  case atStart => exact ⟨rfl, rfl⟩
  case round =>
    obtain ⟨rfl, rfl⟩ := hrel
    go_wp2
    go_ret
    exact ⟨w.heap.size, rfl, ⟨heap_alloc_new _ _, Nat.le_refl _, RowAt.nil _ _ _ _⟩, (Below.refl _ _).alloc (Nat.le_refl _) _⟩
end Go.Proofs.YtladmconpolneaaGreat

/- The heap of entries: Push. -/
set_option linter.unusedVariables false
set_option linter.unusedSimpArgs false
namespace Go.Proofs.YtladmconpolneaaGreat
open Go.RowKit
set_option maxHeartbeats 1600000 in
set_option maxRecDepth 100000 in
theorem hpushE_any (qc : Nat) (B h : Nat) (v : Value) (l : List El) (lt : El → El → Bool) (a b d : Int) (w : World) (hh : HeapE w B h (FE qc) v l) (hF : FirstE qc w lt) (hB : B ≤ w.heap.size) (hn : l.length ≤ 60000) :
    Calls Tryz.prog 168 #[.pointer (some ⟨h, 0, none⟩), .agg #[.int .i64 a, .int .i64 b, .int .i64 d]] w fun e w' => e = .returned (.tuple #[]) ∧ HeapPostE qc w B h v (pushL lt l [a, b, d]) w' := by
  obtain ⟨A, c, rfl⟩ := hh.row.slice
  have hlt := lt_of_block hh.box
  have HN := Lib.hid hn
  have HI := Lib.hid Tryz.size270
  have hb1 : Below w.heap.size w (w.alloc (.cells #[.int .i64 a, .int .i64 b, .int .i64 d] 270)) := (Below.refl _ _).alloc (Nat.le_refl _) _
  have hb2 : Below w.heap.size w ((w.alloc (.cells #[.int .i64 a, .int .i64 b, .int .i64 d] 270)).alloc (.cells #[.int .i64 a, .int .i64 b, .int .i64 d] 270)).drew := bel_drew (hb1.alloc (by simp) _)
  have HH2 := Lib.hid (hh.below hb2)
  have HB2 := Lib.hid hb2
  have c1 : (w.alloc (.cells #[.int .i64 a, .int .i64 b, .int .i64 d] 270)).cell? ⟨h, 1, none⟩ = some (.slice A l.length c) := cell_of_row _ _ _ _ _ _ (hh.below hb1).box
  have HF := Lib.hid hF
  obtain ⟨R, hR⟩ : ∃ R, pushL lt l [a, b, d] = R := ⟨_, rfl⟩
  have HR : Hid (upF lt (l.length + 1) (l ++ [[a, b, d]]) l.length = R) := hR
  rw [hR]
  clear hR
  clear hb1 hb2 hF hh hn
  go_enter Tryz.func168, Tryz.ntmps168
  go_wp2_with fail
  go_cut [] from 6 (fun wc => ∃ (A1 : Option Addr) (c1' : Nat), HeapE wc B h (FE qc) (.slice A1 (l.length + 1) c1') (l ++ [[a, b, d]]) ∧ KeepT [270, 324] w wc ∧ Below B w wc ∧ HStep h w (.slice A l.length c) wc (.slice A1 (l.length + 1) c1'))
  case first =>
    go_region_law (first
      | (refine step_append_row B rfl _ _ 275 270 (.agg zero3) 3 24 rfl Tryz.underlying275 Tryz.info270 rfl (by decide) (by decide) (.slice A l.length c) l rfl HH2.out.row (w.heap.size + 1) [a, b, d] rfl rfl (alloc_at1 _ _ _ (by simp)) (by have := HN.out; omega) (by simp; omega) ?_; intro A1 c1' w1 hr1 hg1 hn1; have HNW := Lib.hid hn1; have HR1 := Lib.hid hr1; have HG1 := Lib.hid hg1; have ch := cell_of_row w1 h 1 _ _ _ (HH2.out.gbox hg1); have fh := frozen_of_row w1 h 1 _ _ (HH2.out.gbox hg1); clear hr1 hg1 hn1))
    all_goals
      obtain ⟨hst, hk2, hbs⟩ := HeapE.store (HH2.out.gbox HG1.out) HH2.out.base HR1.out
      go_wp2
      go_meet
      case rel => exact ⟨_, _, hst, ((KeepT.below HB2.out).trans ((HH2.out.gkeep HG1.out).trans hk2)), (((HB2.out.mono hB).trans (HH2.out.gbel HG1.out (by simp; omega))).trans hbs), (HStep.below HB2.out).trans ((HStep.grown HG1.out HNW.out).trans HStep.set)⟩
  obtain ⟨A1, c1', hst, hks, hbs, hss⟩ := hcut
  have HSS := Lib.hid hss
  have HST := Lib.hid hst
  have HKS := Lib.hid hks
  have HBS := Lib.hid hbs
  clear hst hks hbs hss c1
  have e0 : (l ++ [[a, b, d]]).length = l.length + 1 := by simp
  generalize l ++ [[a, b, d]] = l1 at *
  rw [← e0] at HST HSS
  have ch := cell_of_row wc h 1 _ _ _ HST.out.box
  rw [e0] at ch
  have hn := HN.out
  go_wp2
  clear hn
  have HFW : Hid (∀ W, KeepT [270, 324] wc W → FirstE qc W lt) := fun W hk W' x y hk' => HF.out W' x y ((HKS.out.trans hk).trans hk')
  have HN1 : Hid (l1.length ≤ 60001) := by show _ ≤ _; have := HN.out; omega
  have hb0 : B ≤ h := HST.out.base
  clear ch HH2 HB2 HN hlt
  go_loopg [4] (l.length + 1) (fun gk i wr => ∃ (q f c2 : Nat) (A2 : Option Addr) (l2 : List El), f = gk ∧ i = .int .i64 (q : Int) ∧ q < f ∧ q < l2.length ∧ Hid (l2.length = l1.length) ∧ Hid (upF lt f l2 q = R) ∧ Hid (HeapE wr B h (FE qc) (.slice A2 l2.length c2) l2) ∧ Hid (Below B w wr) ∧ Hid (KeepT [270, 324] w wr) ∧ Hid (HStep h w (.slice A l.length c) wr (.slice A2 l2.length c2)))
  case atStart => exact ⟨l.length, l.length + 1, _, _, l1, rfl, rfl, by omega, by omega, Lib.hid rfl, HR, HST, HBS, HKS, HSS⟩
  case round =>
    obtain ⟨q, f, c2, A2, l2, rfl, rfl, hqf, hql, HL2, HR2, HST2, HB2, HK2, HS2⟩ := hrel
    by_cases hq : q = 0
    · subst hq
      have HE : Hid (l2 = R) := by show _ = _; rw [← HR2.out, upF_zero _ _ _ hqf]
      go_wp2
      go_end0
      exact ⟨rfl, _, by have := HST2.out; rw [HE.out] at this; exact this, HB2.out, HK2.out, by have := HS2.out; rw [HE.out] at this; exact this⟩
    · obtain ⟨f, rfl⟩ : ∃ f', f = f' + 1 := ⟨f - 1, by omega⟩
      obtain ⟨u, hu⟩ : ∃ u, (q - 1) / 2 = u := ⟨_, rfl⟩
      have hdiv : ((q : Int) - 1) / 2 = (u : Int) := by omega
      have huq : u < q := by omega
      have hR3 := HR2.out
      simp only [upF, if_neg hq, hu] at hR3
      obtain ⟨g, rfl⟩ := HST2.out.row.addr (by omega)
      obtain ⟨x1, x2, x3⟩ := HST2.out.row.cell q hql
      obtain ⟨y1, y2, y3⟩ := HST2.out.row.cell u (by omega)
      have gq : l2.getD q [] = l2[q] := by rw [List.getD_eq_getElem?_getD, List.getElem?_eq_getElem hql]; rfl
      have gu : l2.getD u [] = l2[u] := by rw [List.getD_eq_getElem?_getD, List.getElem?_eq_getElem (by omega)]; rfl
      have HSW := Lib.hid (fun (W : World) (hW : HeapE W B h (FE qc) (.slice (some ⟨g, 0, none⟩) l2.length c2) l2) => hW.swap q u hql (by omega))
      rw [gq, gu] at hR3
      rw [gq, gu] at HSW
      generalize l2[q] = x at *
      generalize l2[u] = y at *
      obtain ⟨xa, xb, xc, rfl⟩ := El.three x3
      obtain ⟨ya, yb, yc, rfl⟩ := El.three y3
      have HCL : Hid (∀ W, W.heap = wr.heap → Calls Tryz.prog 165 #[.agg #[.int .i64 xa, .int .i64 xb, .int .i64 xc], .agg #[.int .i64 ya, .int .i64 yb, .int .i64 yc], .pointer (some ⟨qc, 0, none⟩)] W fun e w' => e = .returned (.bool (lt [xa, xb, xc] [ya, yb, yc])) ∧ Below W.heap.size W w') := fun W hW => HF.out W _ _ (HK2.out.heap hW) x3 y3
      have ch0 : wr.cell? ⟨h, 0, none⟩ = some (FE qc) := cell_of_row wr h 0 _ _ _ HST2.out.box
      have ch1 : wr.cell? ⟨h, 1, none⟩ = some (.slice (some ⟨g, 0, none⟩) l2.length c2) := cell_of_row wr h 1 _ _ _ HST2.out.box
      have kx0 : wr.cell? ⟨g, q * 3, none⟩ = some (.int .i64 xa) := x1 0 _ rfl
      have kx1 : wr.cell? ⟨g, q * 3 + 1, none⟩ = some (.int .i64 xb) := x1 1 _ rfl
      have kx2 : wr.cell? ⟨g, q * 3 + 2, none⟩ = some (.int .i64 xc) := x1 2 _ rfl
      have ky0 : wr.cell? ⟨g, u * 3, none⟩ = some (.int .i64 ya) := y1 0 _ rfl
      have ky1 : wr.cell? ⟨g, u * 3 + 1, none⟩ = some (.int .i64 yb) := y1 1 _ rfl
      have ky2 : wr.cell? ⟨g, u * 3 + 2, none⟩ = some (.int .i64 yc) := y1 2 _ rfl
      have HKEEP := Lib.hid (fun (W : World) (hb : Below wr.heap.size wr W) => And.intro (keepc hb ch0) (And.intro (keepc hb ch1) (And.intro (keepc hb kx0) (And.intro (keepc hb kx1) (And.intro (keepc hb kx2) (And.intro (keepc hb ky0) (And.intro (keepc hb ky1) (keepc hb ky2))))))))
      have HBL : Hid (B ≤ wr.heap.size) := by show B ≤ wr.heap.size; have := lt_of_block HST2.out.box; omega
      have HR3 := Lib.hid hR3
      have HX := Lib.hid (And.intro x2 y2)
      have hql' : (q : Int) < (l2.length : Int) := by omega
      have hul' : (u : Int) < (l2.length : Int) := by omega
      have hq0 : (0 : Int) < (q : Int) := by omega
      have hqb : (q : Int) ≤ 60001 := by have := HN1.out; have := HL2.out; omega
      have hq9 : (0 : Int) ≤ (q : Int) := by omega
      have hu9 : (0 : Int) ≤ (u : Int) := by omega
      clear hR3 gq gu x1 x2 x3 y1 y2 y3 hu
      go_wp2_with fail
      go_region_held3 (fun W => W.cell? ⟨h, 0, none⟩ = some (FE qc) ∧ W.cell? ⟨h, 1, none⟩ = some (.slice (some ⟨g, 0, none⟩) l2.length c2) ∧
          W.cell? ⟨g, q * 3, none⟩ = some (.int .i64 xa) ∧ W.cell? ⟨g, q * 3 + 1, none⟩ = some (.int .i64 xb) ∧ W.cell? ⟨g, q * 3 + 2, none⟩ = some (.int .i64 xc) ∧
          W.cell? ⟨g, u * 3, none⟩ = some (.int .i64 ya) ∧ W.cell? ⟨g, u * 3 + 1, none⟩ = some (.int .i64 yb) ∧ W.cell? ⟨g, u * 3 + 2, none⟩ = some (.int .i64 yc)) (first | go_keep | exact HKEEP.out _ HB4.out)
        (first | (go_at_call 165; refine (HCL.out _ (by rfl)).mono ?_; rintro e w3 ⟨rfl, hb3⟩; have HB4 : Hid (Below wr.heap.size wr w3) := (bel_drew (Below.refl _ _)).trans hb3; clear hb3))
      cases hlt : lt [xa, xb, xc] [ya, yb, yc] with
      | false =>
        have hE := HR3.out
        rw [hlt] at hE
        have HE := Lib.hid (show l2 = R by simpa using hE)
        have HST4 := Lib.hid (HST2.out.below HB4.out)
        have HLT := Lib.hid hlt
        clear hE hlt
        go_wp2
        go_end0
        exact ⟨rfl, _, by have := HST4.out; rw [HE.out] at this; exact this, HB2.out.trans (HB4.out.mono HBL.out), HK2.out.trans (KeepT.below HB4.out), by have := HS2.out.trans (HStep.below HB4.out); rw [HE.out] at this; exact this⟩
      | true =>
        have hE := HR3.out
        rw [hlt] at hE
        have HE := Lib.hid (show upF lt f (swapL l2 q u) u = R by simpa using hE)
        have HST4 := Lib.hid (HST2.out.below HB4.out)
        obtain ⟨z0, z1, z2, z3, z4, z6, z7, z8⟩ := HKEEP.out w3 HB4.out
        have HSW4 := Lib.hid (HSW.out _ HST4.out)
        obtain ⟨cur, hcur⟩ := HST4.out.row.blk g rfl
        have fg : ∀ o, w3.frozen? ⟨g, o, none⟩ = false := fun o => frozen_of_row _ _ _ _ _ hcur
        have HK3 := Lib.hid (HK2.out.trans (KeepT.below HB4.out))
        have HB3 := Lib.hid (HB2.out.trans (HB4.out.mono HBL.out))
        have HS3 := Lib.hid (HS2.out.trans (HStep.below HB4.out))
        clear HKEEP HCL HSW HST HKS HBS HR HR2 HR3 HX HB4 hE hlt HST2 ch0 ch1 kx0 kx1 kx2 ky0 ky1 ky2 z0 hcur HI HF HFW
        go_wp2_with fail
        go_region
        obtain ⟨W, hW⟩ : ∃ W, ((((((w3.setCell { block := g, off := q * 3 } (Value.int IntKind.i64 ya)).setCell { block := g, off := q * 3 + 1 } (Value.int IntKind.i64 yb)).setCell { block := g, off := q * 3 + 2 } (Value.int IntKind.i64 yc)).setCell { block := g, off := u * 3 } (Value.int IntKind.i64 xa)).setCell { block := g, off := u * 3 + 1 } (Value.int IntKind.i64 xb)).setCell { block := g, off := u * 3 + 2 } (Value.int IntKind.i64 xc)).drew = W := ⟨_, rfl⟩
        rw [hW]
        obtain ⟨s1, s2, s3, s4⟩ := HSW4.out
        have S1 : Hid (HeapE W B h (FE qc) (.slice (some ⟨g, 0, none⟩) l2.length c2) (swapL l2 q u)) := by
          show HeapE _ _ _ _ _ _
          rw [← hW]; exact s1.below (bel_drew (Below.refl _ _))
        have S2 : Hid (Below B w W) := by
          show Below _ _ _
          rw [← hW]; exact HB3.out.trans (bel_drew s2)
        have S3 : Hid (KeepT [270, 324] w W) := by
          show KeepT _ _ _
          rw [← hW]; exact (HK3.out.trans s3).trans (KeepT.below (bel_drew (Below.refl _ _)))
        have S4 : Hid (HStep h w (.slice A l.length c) W (.slice (some ⟨g, 0, none⟩) l2.length c2)) := by
          show HStep _ _ _ _ _
          rw [← hW]; exact (HS3.out.trans s4).trans (HStep.below (bel_drew (Below.refl _ _)))
        clear hW s1 s2 s3 s4 z1 z2 z3 z4 z6 z7 z8 fg HSW4 HST4 HB3 HK3
        go_wp2
        go_roundg f
        case measure => omega
        case rel => exact ⟨u, f, c2, _, swapL l2 q u, rfl, rfl, by omega, by rw [swapL_length]; omega, Lib.hid (by rw [swapL_length]; exact HL2.out), HE, by rw [swapL_length]; exact S1, S2, S3, by rw [swapL_length]; exact S4⟩
end Go.Proofs.YtladmconpolneaaGreat

/- The search: what is first, push, begin. -/
set_option linter.unusedVariables false
set_option linter.unusedSimpArgs false
namespace Go.Proofs.YtladmconpolneaaGreat
open Go.RowKit
def ltT (x y : El) : Bool := aheadB (x.getD 0 0) (x.getD 1 0) (y.getD 0 0) (y.getD 1 0)
theorem Tryz.size203 : (Tryz.prog.info? 203).map (·.size) = some 2 := by kernel_rfl
theorem range_two {w : World} {g : Nat} {a b c d : Value} {t : TypeId} (h : w.heap[g]? = some (.cells #[a, b, c, d] t (0, 0))) : w.rangeAt g 0 [a, b] := by
  intro i u hi
  match i, hi with
  | 0, hi => cases hi; exact cell_of_row _ _ _ _ _ _ h
  | 1, hi => cases hi; exact cell_of_row _ _ _ _ _ _ h
theorem first_any (a b c d a' b' c' d' : Int) (w : World) : Calls Tryz.prog 112 #[.agg #[.int .i64 a, .int .i64 b, .int .i64 c, .int .i64 d], .agg #[.int .i64 a', .int .i64 b', .int .i64 c', .int .i64 d']] w fun e w' => e = .returned (.bool (aheadB a b a' b')) ∧ Below w.heap.size w w' := by
  have HC : Hid (∀ W, Calls Tryz.prog 113 #[.agg #[.int .i64 a, .int .i64 b], .agg #[.int .i64 a', .int .i64 b']] W fun e w' => e = .returned (.bool (aheadB a b a' b')) ∧ Below W.heap.size W w') := fun W => ahead_any a b a' b' W
  have HI := Lib.hid Tryz.size203
  obtain ⟨W, hW⟩ : ∃ W, (w.alloc (.cells #[.int .i64 a, .int .i64 b, .int .i64 c, .int .i64 d] 205)).alloc (.cells #[.int .i64 a', .int .i64 b', .int .i64 c', .int .i64 d'] 205) = W := ⟨_, rfl⟩
  have H1 : Hid (W.rangeAt w.heap.size 0 [.int .i64 a, .int .i64 b]) := by
    rw [← hW]; exact range_two (t := 205) (c := .int .i64 c) (d := .int .i64 d) (by rw [Below.heap_alloc _ _ _ (by simp)]; exact heap_alloc_new _ _)
  have H2 : Hid (W.rangeAt (w.heap.size + 1) 0 [.int .i64 a', .int .i64 b']) := by
    rw [← hW]; exact range_two (t := 205) (c := .int .i64 c') (d := .int .i64 d') (alloc_at0 _ _ _ (by simp))
  have HB : Hid (Below w.heap.size w W) := by
    rw [← hW]; exact ((Below.refl _ _).alloc (Nat.le_refl _) _).alloc (by simp) _
  have HW := Lib.hid hW
  clear hW
  go_enter Tryz.func112, Tryz.ntmps112
  go_wp2_with (first
    | (go_at_call 113; refine (HC.out _).mono ?_; rintro e w1 ⟨rfl, hb⟩; have HB1 := Lib.hid hb; clear hb)
    | (refine wpList_load_mid rfl 203 (.tmp 5) rfl w.heap.size 0 rfl [.int .i64 a, .int .i64 b] _ (by rw [HW.out]; exact H1.out) Tryz.underlying203 rfl HI.out ?_)
    | (refine wpList_load_mid rfl 203 (.tmp 7) rfl (w.heap.size + 1) 0 rfl [.int .i64 a', .int .i64 b'] _ (by rw [HW.out]; exact H2.out) Tryz.underlying203 rfl HI.out ?_)
    | fail)
  go_ret
  exact ⟨rfl, HB.out.trans ((HW.out ▸ HB1.out).mono HB.out.size)⟩
theorem first_ok (w : World) : FirstOk w ltT := by
  intro W x y _ hx hy
  obtain ⟨a, b, c, d, rfl⟩ := El.four hx
  obtain ⟨a', b', c', d', rfl⟩ := El.four hy
  exact first_any a b c d a' b' c' d' W
/-- Of the blocks that stand only the walk's own three change. -/
def WStep (b h : Nat) (w : World) (v : Value) (w' : World) (v' : Value) : Prop := w.heap.size ≤ w'.heap.size ∧ (∀ k, k < w.heap.size → k ≠ b → k ≠ h → v.ownBlock ≠ some k → w'.heap[k]? = w.heap[k]?) ∧ (∀ k, v'.ownBlock = some k → k < w.heap.size → v.ownBlock = some k)
theorem WStep.trans {b h : Nat} {w w1 w2 : World} {v v1 v2 : Value} (x : WStep b h w v w1 v1) (y : WStep b h w1 v1 w2 v2) : WStep b h w v w2 v2 :=
  ⟨Nat.le_trans x.1 y.1, fun k hk hb hh hv => (y.2.1 k (Nat.lt_of_lt_of_le hk x.1) hb hh (fun e => hv (x.2.2 k e hk))).trans (x.2.1 k hk hb hh hv), fun k e hk => x.2.2 k (y.2.2 k e (Nat.lt_of_lt_of_le hk x.1)) hk⟩
theorem WStep.below {b h : Nat} {w w' : World} {v : Value} (hb : Below w.heap.size w w') : WStep b h w v w' v := ⟨hb.size, fun k hk _ _ _ => hb.block k hk, fun k e _ => e⟩
theorem WStep.heap {b h : Nat} {w w' : World} {v v' : Value} (x : HStep h w v w' v') : WStep b h w v w' v' := ⟨x.1, fun k hk _ hh hv => x.2.1 k hk hh hv, x.2.2⟩
theorem WStep.set {b h i : Nat} {w : World} {v x : Value} : WStep b h w v (w.setCell ⟨b, i, none⟩ x) v := ⟨by simp [World.setCell], fun k _ hb _ _ => Below.heap_setCell _ _ _ _ hb, fun k e _ => e⟩
/-- A search under way, its variable in block b, its heap in block h. -/
structure WalkAt (w : World) (B b h : Nat) (I lf dp TV vV : Value) (steps nx : Int) (v : Value) (l : List El) : Prop where
  box : w.heap[b]? = some (.cells #[I, lf, dp, TV, vV, .pointer (some ⟨h, 0, none⟩), .int .i64 steps, .int .i64 nx] 157 (0, 0))
  base : B ≤ b
  heap : HeapAt w B h FN v l
theorem WalkAt.ne {w : World} {B b h : Nat} {I lf dp TV vV v : Value} {s n : Int} {l : List El} (x : WalkAt w B b h I lf dp TV vV s n v l) : b ≠ h := by
  rintro rfl
  have := x.box
  rw [x.heap.box] at this
  injection this with this
  injection this with _ e
  cases e
theorem WalkAt.nrow {w : World} {B b h : Nat} {I lf dp TV vV v : Value} {s n : Int} {l : List El} (x : WalkAt w B b h I lf dp TV vV s n v l) : v.ownBlock ≠ some b := by
  intro e
  obtain ⟨cur, hc⟩ := x.heap.row.blk b e
  rw [x.box] at hc
  injection hc with hc
  injection hc with _ e
  cases e
def WalkPost (w : World) (B b h : Nat) (I lf dp TV vV : Value) (steps nx : Int) (v : Value) (l : List El) (w' : World) : Prop :=
  ∃ v', WalkAt w' B b h I lf dp TV vV steps nx v' l ∧ Below B w w' ∧ KeepT [157, 205, 253] w w' ∧ WStep b h w v w' v'
set_option maxHeartbeats 800000 in
theorem wpush_any (B b h : Nat) (I lf dp TV vV : Value) (s n : Int) (v : Value) (l : List El) (m t a : Int) (w : World) (hw : WalkAt w B b h I lf dp TV vV s n v l) (hB : B ≤ w.heap.size) (hl : l.length ≤ 60000) (hn : 0 ≤ n ∧ n ≤ 100000) :
    Calls Tryz.prog 114 #[.pointer (some ⟨b, 0, none⟩), .int .i64 m, .int .i64 t, .int .i64 a] w fun e w' => e = .returned (.tuple #[]) ∧ WalkPost w B b h I lf dp TV vV s (n + 1) v (pushL ltT l [m, n, t, a]) w' := by
  obtain ⟨n1, n2⟩ := hn
  have HW := Lib.hid hw
  have c5 : w.cell? ⟨b, 5, none⟩ = some (.pointer (some ⟨h, 0, none⟩)) := cell_of_row _ _ _ _ _ _ hw.box
  have c7 : w.cell? ⟨b, 7, none⟩ = some (.int .i64 n) := cell_of_row _ _ _ _ _ _ hw.box
  have HKB : Hid (∀ W, KeepT [205, 253] w W → W.heap[b]? = some (.cells #[I, lf, dp, TV, vV, .pointer (some ⟨h, 0, none⟩), .int .i64 s, .int .i64 n] 157 (0, 0))) := fun W hk => hk.2 _ _ _ _ hw.box (by decide)
  have HKEEP : Hid (∀ W, KeepT [205, 253] w W → W.cell? ⟨b, 5, none⟩ = some (.pointer (some ⟨h, 0, none⟩)) ∧ W.cell? ⟨b, 7, none⟩ = some (.int .i64 n)) := fun W hk => ⟨cell_of_row _ _ _ _ _ _ (HKB.out W hk), cell_of_row _ _ _ _ _ _ (HKB.out W hk)⟩
  have HCL : Hid (∀ W, W.heap = w.heap → Calls Tryz.prog 150 #[.pointer (some ⟨h, 0, none⟩), .agg #[.int .i64 m, .int .i64 n, .int .i64 t, .int .i64 a]] W fun e w' => e = .returned (.tuple #[]) ∧ HeapPost W B h v (pushL ltT l [m, n, t, a]) w') := fun W hW =>
    hpush_any B h v l ltT m n t a W (hw.heap.move (by rw [hW]) (fun k _ => by rw [hW])) (first_ok W) (by rw [hW]; exact hB) hl
  clear hw
  go_enter Tryz.func114, Tryz.ntmps114
  go_wp2_with fail
  go_region_held3 (fun W => W.cell? ⟨b, 5, none⟩ = some (.pointer (some ⟨h, 0, none⟩)) ∧ W.cell? ⟨b, 7, none⟩ = some (.int .i64 n)) (first | go_keep | exact HKEEP.out _ HK4.out)
    (first | (go_at_call 150; refine (HCL.out _ (by rfl)).mono ?_; rintro e w3 ⟨rfl, v5, hh5, hb5, hk5, hs5⟩; have HB4 : Hid (Below B w w3) := (bel_drew (Below.refl _ _)).trans hb5; have HK4 : Hid (KeepT [205, 253] w w3) := hk5; have HS4 : Hid (HStep h w v w3 v5) := hs5; have H4 := Lib.hid hh5; clear hh5 hb5 hk5 hs5))
  have c7' := (HKEEP.out w3 HK4.out).2
  have f7 : w3.frozen? ⟨b, 7, none⟩ = false := frozen_of_row _ _ _ _ _ (HKB.out w3 HK4.out)
  go_wp2
  go_end0
  have hne := HW.out.ne
  have hbl := lt_of_block HW.out.box
  have hnr : ∀ k, v5.ownBlock = some k → k ≠ b := by
    rintro k e rfl
    exact HW.out.nrow (HS4.out.2.2 _ e hbl)
  have hbx := HKB.out w3 HK4.out
  refine ⟨rfl, v5, ⟨heap_setCell_same w3 b 7 _ _ _ hbx, HW.out.base, H4.out.move (Below.heap_setCell _ _ _ _ (fun e => hne e.symm)) (fun k hk => Below.heap_setCell _ _ _ _ (hnr k hk))⟩, HB4.out.setCell HW.out.base _, (HK4.out.mono (by decide)).trans (KeepT.set hbx (by decide)), (WStep.heap HS4.out).trans WStep.set⟩
end Go.Proofs.YtladmconpolneaaGreat

/- topk: what is ahead. -/
set_option linter.unusedVariables false
set_option linter.unusedSimpArgs false
namespace Go.Proofs.YtladmconpolneaaGreat
open Go.RowKit
/-- Is entry x ahead of y? -/
def aheadE (x y : El) : Bool := if nearB (x.getD 0 0) (x.getD 1 0) (y.getD 0 0) (y.getD 1 0) then true else if nearB (y.getD 0 0) (y.getD 1 0) (x.getD 0 0) (x.getD 1 0) then false else decide (x.getD 2 0 < y.getD 2 0)
/-- The heap of entries has the last one on top. -/
def ltE (x y : El) : Bool := aheadE y x
abbrev NF : Value := .func (.func 85) #[] #[]
theorem aheadE_any (s : Nat) (a b d a' b' d' : Int) (w : World) (cs : Array Value) (hs : w.heap[s]? = some (.cells cs 267 (0, 0))) (h0 : cs[0]? = some NF) :
    Calls Tryz.prog 166 #[.pointer (some ⟨s, 0, none⟩), .agg #[.int .i64 a, .int .i64 b, .int .i64 d], .agg #[.int .i64 a', .int .i64 b', .int .i64 d']] w fun e w' => e = .returned (.bool (aheadE [a, b, d] [a', b', d'])) ∧ Below w.heap.size w w' := by
  have HN : Hid (∀ i f i' f' W, Calls Tryz.prog 85 #[.agg #[.int .i64 i, .int .i64 f], .agg #[.int .i64 i', .int .i64 f']] W fun e w' => e = .returned (.bool (nearB i f i' f')) ∧ Below W.heap.size W w') := fun i f i' f' W => near_any i f i' f' W
  obtain ⟨W0, hW0⟩ : ∃ W, (w.alloc (.cells #[.int .i64 a, .int .i64 b, .int .i64 d] 270)).alloc (.cells #[.int .i64 a', .int .i64 b', .int .i64 d'] 270) = W := ⟨_, rfl⟩
  have HBW : Hid (Below w.heap.size w W0) := by show Below _ _ _; rw [← hW0]; exact ((Below.refl _ _).alloc (Nat.le_refl _) _).alloc (by simp) _
  have c0 : W0.cell? ⟨s, 0, none⟩ = some NF := keepc HBW.out (by rw [cell_of_row _ _ _ _ _ _ hs]; exact h0)
  have g1 : W0.heap[w.heap.size]? = some (.cells #[.int .i64 a, .int .i64 b, .int .i64 d] 270 (0, 0)) := by rw [← hW0, Below.heap_alloc _ _ _ (by simp)]; exact heap_alloc_new _ _
  have g2 : W0.heap[w.heap.size + 1]? = some (.cells #[.int .i64 a', .int .i64 b', .int .i64 d'] 270 (0, 0)) := by rw [← hW0]; exact alloc_at0 _ _ _ (by simp)
  have x0 : W0.cell? ⟨w.heap.size, 0, none⟩ = some (.int .i64 a) := cell_of_row _ _ _ _ _ _ g1
  have x1 : W0.cell? ⟨w.heap.size, 1, none⟩ = some (.int .i64 b) := cell_of_row _ _ _ _ _ _ g1
  have x2 : W0.cell? ⟨w.heap.size, 2, none⟩ = some (.int .i64 d) := cell_of_row _ _ _ _ _ _ g1
  have y0 : W0.cell? ⟨w.heap.size + 1, 0, none⟩ = some (.int .i64 a') := cell_of_row _ _ _ _ _ _ g2
  have y1 : W0.cell? ⟨w.heap.size + 1, 1, none⟩ = some (.int .i64 b') := cell_of_row _ _ _ _ _ _ g2
  have y2 : W0.cell? ⟨w.heap.size + 1, 2, none⟩ = some (.int .i64 d') := cell_of_row _ _ _ _ _ _ g2
  have HKEEP := Lib.hid (fun (W : World) (hb : Below W0.heap.size W0 W) => And.intro (keepc hb c0) (And.intro (keepc hb x0) (And.intro (keepc hb x1) (And.intro (keepc hb y0) (And.intro (keepc hb y1) (And.intro (keepc hb x2) (keepc hb y2)))))))
  have HW0 := Lib.hid hW0
  have HAE : Hid (aheadE [a, b, d] [a', b', d'] = if nearB a b a' b' then true else if nearB a' b' a b then false else decide (d < d')) := rfl
  obtain ⟨p, hp⟩ : ∃ p, nearB a b a' b' = p := ⟨_, rfl⟩
  obtain ⟨q, hq⟩ : ∃ q, nearB a' b' a b = q := ⟨_, rfl⟩
  have HP1 : Hid (∀ W, Calls Tryz.prog 85 #[.agg #[.int .i64 a, .int .i64 b], .agg #[.int .i64 a', .int .i64 b']] W fun e w' => e = .returned (.bool p) ∧ Below W.heap.size W w') := fun W => by rw [← hp]; exact HN.out a b a' b' W
  have HP2 : Hid (∀ W, Calls Tryz.prog 85 #[.agg #[.int .i64 a', .int .i64 b'], .agg #[.int .i64 a, .int .i64 b]] W fun e w' => e = .returned (.bool q) ∧ Below W.heap.size W w') := fun W => by rw [← hq]; exact HN.out a' b' a b W
  rw [hp, hq] at HAE
  obtain ⟨R, hR⟩ : ∃ R, aheadE [a, b, d] [a', b', d'] = R := ⟨_, rfl⟩
  rw [hR] at HAE ⊢
  clear hs h0 g1 g2 hW0 hp hq hR HN
  go_enter Tryz.func166, Tryz.ntmps166
  go_wp2_with fail
  rw [HW0.out]
  go_region_held3 (fun W => W.cell? ⟨s, 0, none⟩ = some NF ∧ W.cell? ⟨w.heap.size, 0, none⟩ = some (.int .i64 a) ∧ W.cell? ⟨w.heap.size, 1, none⟩ = some (.int .i64 b) ∧ W.cell? ⟨w.heap.size + 1, 0, none⟩ = some (.int .i64 a') ∧ W.cell? ⟨w.heap.size + 1, 1, none⟩ = some (.int .i64 b')) (first | go_keep | exact ⟨(HKEEP.out _ HB4.out).1, (HKEEP.out _ HB4.out).2.1, (HKEEP.out _ HB4.out).2.2.1, (HKEEP.out _ HB4.out).2.2.2.1, (HKEEP.out _ HB4.out).2.2.2.2.1⟩)
    (first | (go_at_call 85; refine (HP1.out _).mono ?_; rintro e w3 ⟨rfl, hb3⟩; have HB4 : Hid (Below W0.heap.size W0 w3) := (bel_drew (Below.refl _ _)).trans hb3; clear hb3))
  cases p with
  | true =>
    have hE := HAE.out
    rw [if_pos rfl] at hE
    subst hE
    go_wp2
    go_ret
    exact ⟨rfl, HBW.out.trans (HB4.out.mono HBW.out.size)⟩
  | false =>
    have hE := HAE.out
    rw [if_neg (by decide)] at hE
    have HE := Lib.hid hE
    obtain ⟨z0, z1, z2, z3, z4, z5, z6⟩ := HKEEP.out w3 HB4.out
    clear hE c0 x0 x1 x2 y0 y1 y2 z5 z6
    go_wp2_with fail
    go_region_held3 (fun W => W.cell? ⟨s, 0, none⟩ = some NF ∧ W.cell? ⟨w.heap.size, 0, none⟩ = some (.int .i64 a) ∧ W.cell? ⟨w.heap.size, 1, none⟩ = some (.int .i64 b) ∧ W.cell? ⟨w.heap.size + 1, 0, none⟩ = some (.int .i64 a') ∧ W.cell? ⟨w.heap.size + 1, 1, none⟩ = some (.int .i64 b')) (first | go_keep | exact ⟨(HKEEP.out _ HB5.out).1, (HKEEP.out _ HB5.out).2.1, (HKEEP.out _ HB5.out).2.2.1, (HKEEP.out _ HB5.out).2.2.2.1, (HKEEP.out _ HB5.out).2.2.2.2.1⟩)
      (first | (go_at_call 85; refine (HP2.out _).mono ?_; rintro e w4 ⟨rfl, hb4⟩; have HB5 : Hid (Below W0.heap.size W0 w4) := HB4.out.trans (((bel_drew (Below.refl _ _)).trans hb4).mono HB4.out.size); clear hb4))
    obtain ⟨-, -, -, -, -, u5, u6⟩ := HKEEP.out w4 HB5.out
    cases q with
    | true =>
      have hE := HE.out
      rw [if_pos rfl] at hE
      subst hE
      go_wp2
      go_ret
      exact ⟨rfl, HBW.out.trans (HB5.out.mono HBW.out.size)⟩
    | false =>
      have hE := HE.out
      rw [if_neg (by decide)] at hE
      have HE2 := Lib.hid hE
      clear hE
      go_wp2
      go_ret
      exact ⟨by rw [HE2.out]; rfl, HBW.out.trans (HB5.out.mono HBW.out.size)⟩
end Go.Proofs.YtladmconpolneaaGreat

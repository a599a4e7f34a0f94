/- Several texts of this seat, laid together (no statement of its own): their conditions stand in each theorem. -/
import Derived.Test.YtladmconpolneaaGreatMe
/- The heap of tasks: sink. -/
set_option linter.unusedVariables false
set_option linter.unusedSimpArgs false
namespace Go.Proofs.YtladmconpolneaaGreat
open Go.RowKit
theorem bestL_lt {lt : El → El → Bool} {l : List El} {b q : Nat} (h : b < l.length) : bestL lt l b q < l.length := by
  unfold bestL
  split
  · rename_i h1; exact h1.1
  · exact h
theorem bestL_out {lt : El → El → Bool} {l : List El} {b q : Nat} (h : ¬ q < l.length) : bestL lt l b q = b := by
  unfold bestL
  rw [if_neg (fun h1 => h h1.1)]
theorem bestL_in {lt : El → El → Bool} {l : List El} {b q : Nat} (h : q < l.length) : bestL lt l b q = if lt (l.getD q []) (l.getD b []) = true then q else b := by
  unfold bestL
  by_cases h1 : lt (l.getD q []) (l.getD b []) = true
  · rw [if_pos ⟨h, h1⟩, if_pos h1]
  · rw [if_neg (fun h2 => h1 h2.2), if_neg h1]
theorem bestL_or {lt : El → El → Bool} {l : List El} {b q : Nat} : bestL lt l b q = b ∨ (q < l.length ∧ bestL lt l b q = q) := by
  unfold bestL
  split
  · rename_i h; exact .inr ⟨h.1, rfl⟩
  · exact .inl rfl
/-- What the inner loop of 'sink' keeps. -/
def SinkRel (lt : El → El → Bool) (l : List El) (q p z k b : Nat) : Prop := (k = 0 → b = q) ∧ (k = 1 → bestL lt l b p = z) ∧ (k = 2 → b = z)
theorem Tryz.index317_0 (a b : Int) (w : World) : (Instr.index 317 (.agg #[.int .i64 a, .int .i64 b]) (.int .i64 0)).run Tryz.prog w = .ok (.int .i64 a) w := by
  simp [Instr.index, run_underlying Tryz.underlying317, asIntOf, go_sem]
theorem Tryz.index317_1 (a b : Int) (w : World) : (Instr.index 317 (.agg #[.int .i64 a, .int .i64 b]) (.int .i64 1)).run Tryz.prog w = .ok (.int .i64 b) w := by
  simp [Instr.index, run_underlying Tryz.underlying317, asIntOf, go_sem]
/-- .. and the row's block stays the row's. -/
def HeapPostK (w : World) (B h : Nat) (v : Value) (l' : List El) (w' : World) : Prop := ∃ v', HeapAt w' B h FN v' l' ∧ Below B w w' ∧ KeepT [205, 253] w w' ∧ HStep h w v w' v' ∧ v'.ownBlock = v.ownBlock
set_option maxHeartbeats 1600000 in
set_option maxRecDepth 100000 in
theorem hsink_own (B h : Nat) (v : Value) (l : List El) (lt : El → El → Bool) (w : World) (hh : HeapAt w B h FN v l) (hF : FirstOk w lt) (hB : B ≤ w.heap.size) (hn : l.length ≤ 60000) :
    Calls Tryz.prog 152 #[.pointer (some ⟨h, 0, none⟩)] w fun e w' => e = .returned (.tuple #[]) ∧ HeapPostK w B h v (sinkF lt (l.length + 1) l 0) w' := by
  obtain ⟨A, c, rfl⟩ := hh.row.slice
  have HN := Lib.hid hn
  have HI := Lib.hid Tryz.size205
  have HF := Lib.hid hF
  have HH := Lib.hid hh
  obtain ⟨R, hR⟩ : ∃ R, sinkF lt (l.length + 1) l 0 = R := ⟨_, rfl⟩
  have HR : Hid (sinkF lt (l.length + 1) l 0 = R) := hR
  rw [hR]
  clear hR hF hh hn
  go_enter Tryz.func152, Tryz.ntmps152
  go_wp2_with fail
  go_loopg [2] (l.length + 1) (fun gk i wr => ∃ (q f c2 : Nat) (A2 : Option Addr) (l2 : List El), f = gk ∧ i = .int .i64 (q : Int) ∧ l2.length < f + q ∧ (q = 0 ∨ q < l2.length) ∧ Hid (l2.length = l.length) ∧ Hid (sinkF lt f l2 q = R) ∧ Hid (HeapAt wr B h FN (.slice A2 l2.length c2) l2) ∧ Hid (Below B w wr) ∧ Hid (KeepT [205, 253] w wr) ∧ Hid (HStep h w (.slice A l.length c) wr (.slice A2 l2.length c2)) ∧ Hid ((Value.slice A2 l2.length c2).ownBlock = (Value.slice A l.length c).ownBlock))
  case atStart => exact ⟨0, l.length + 1, _, _, l, rfl, rfl, by omega, .inl rfl, Lib.hid rfl, HR, HH, Lib.hid (Below.refl _ _), Lib.hid (KeepT.refl _ _), Lib.hid (HStep.below (Below.refl _ _)), Lib.hid rfl⟩
  case round =>
    obtain ⟨q, f, c2, A2, l2, rfl, rfl, hfq, hq0, HL2, HR2, HST2, HB2, HK2, HS2, HOW⟩ := hrel
    have hqb : (q : Int) ≤ 60000 := by have := HN.out; have := HL2.out; omega
    obtain ⟨f, rfl⟩ : ∃ f', f = f' + 1 := ⟨f - 1, by omega⟩
    obtain ⟨p1, hp1⟩ : ∃ p, 2 * q + 1 = p := ⟨_, rfl⟩
    obtain ⟨p2, hp2⟩ : ∃ p, 2 * q + 2 = p := ⟨_, rfl⟩
    have hR3 := HR2.out
    simp only [sinkF, hp1, hp2] at hR3
    obtain ⟨z, hz⟩ : ∃ z, bestL lt l2 (bestL lt l2 q p1) p2 = z := ⟨_, rfl⟩
    rw [hz] at hR3
    have HZC : Hid (z = q ∨ (q < z ∧ z < l2.length)) := by
      show z = q ∨ (q < z ∧ z < l2.length)
      rcases bestL_or (lt := lt) (l := l2) (b := bestL lt l2 q p1) (q := p2) with h | ⟨h1, h⟩
      · rcases bestL_or (lt := lt) (l := l2) (b := q) (q := p1) with h' | ⟨h1', h'⟩ <;> rw [hz] at h <;> rw [h'] at h <;> omega
      · rw [hz] at h; omega
    have HR3 := Lib.hid hR3
    have HZ := Lib.hid hz
    have HBL : Hid (B ≤ wr.heap.size) := by show B ≤ wr.heap.size; have := lt_of_block HST2.out.box; have := HST2.out.base; omega
    have e1 : 2 * (q : Int) + 1 = (p1 : Int) := by omega
    have e2 : 2 * (q : Int) + 2 = (p2 : Int) := by omega
    clear hR3 hz HR2
    go_wp2_with fail
    generalize wr = W0 at *
    go_loopg [3, 14] 2 (fun gk b i W => ∃ (k bq : Nat), gk = 2 - k ∧ k ≤ 2 ∧ b = .int .i64 (bq : Int) ∧ i = .int .i64 (k : Int) ∧ (bq = q ∨ bq < l2.length) ∧ Hid (SinkRel lt l2 q p2 z k bq) ∧ Hid (Below W0.heap.size W0 W))
    case atStart => exact ⟨0, q, rfl, by decide, rfl, rfl, .inl rfl, Lib.hid ⟨fun _ => rfl, fun h => (by cases h), fun h => (by cases h)⟩, Lib.hid (Below.refl _ _)⟩
    case round =>
      obtain ⟨k, bq, rfl, hk, rfl, rfl, hbq, HKZ, HB3⟩ := hrel
      have HST3 := Lib.hid (HST2.out.below HB3.out)
      by_cases hk2 : k = 2
      · subst hk2
        obtain rfl : bq = z := HKZ.out.2.2 rfl
        clear e1 e2 hp1 hp2 HZ HKZ
        by_cases hzq : bq = q
        · subst hzq
          have HE : Hid (l2 = R) := by show _ = _; rw [← HR3.out, if_pos rfl]
          go_wp2_with fail
          refine bodyPost_ret (results_none rfl _ _ _) rfl ?_
          exact ⟨rfl, _, by have := HST3.out; rw [HE.out] at this; exact this, HB2.out.trans (HB3.out.mono HBL.out), HK2.out.trans (KeepT.below HB3.out), by have := HS2.out.trans (HStep.below HB3.out); rw [HE.out] at this; exact this, by have := HOW.out; rw [HE.out] at this; exact this⟩
        · have hE := HR3.out
          rw [if_neg hzq] at hE
          have HE := Lib.hid hE
          obtain ⟨hzq2, hzl⟩ : q < bq ∧ bq < l2.length := by have := HZC.out; omega
          have hql : q < l2.length := by omega
          have he : ((bq : Int) == (q : Int)) = false := by rw [beq_eq_false_iff_ne]; omega
          generalize bq = u at *
          obtain ⟨g, rfl⟩ := HST3.out.row.addr (by omega)
          obtain ⟨x1, x2, x3⟩ := HST3.out.row.cell q hql
          obtain ⟨y1, y2, y3⟩ := HST3.out.row.cell u hzl
          have gq : l2.getD q [] = l2[q] := by rw [List.getD_eq_getElem?_getD, List.getElem?_eq_getElem hql]; rfl
          have gu : l2.getD u [] = l2[u] := by rw [List.getD_eq_getElem?_getD, List.getElem?_eq_getElem hzl]; rfl
          have HSW := Lib.hid (HST3.out.swap q u hql hzl)
          rw [gq, gu] at HSW
          generalize l2[q] = x at *
          generalize l2[u] = y at *
          obtain ⟨xa, xb, xc, xd, rfl⟩ := El.four x3
          obtain ⟨ya, yb, yc, yd, rfl⟩ := El.four y3
          have z1 : wr.cell? ⟨h, 1, none⟩ = some (.slice (some ⟨g, 0, none⟩) l2.length c2) := cell_of_row wr h 1 _ _ _ HST3.out.box
          have z2 : wr.cell? ⟨g, q * 4, none⟩ = some (.int .i64 xa) := x1 0 _ rfl
          have z3 : wr.cell? ⟨g, q * 4 + 1, none⟩ = some (.int .i64 xb) := x1 1 _ rfl
          have z4 : wr.cell? ⟨g, q * 4 + 2, none⟩ = some (.int .i64 xc) := x1 2 _ rfl
          have z5 : wr.cell? ⟨g, q * 4 + 3, none⟩ = some (.int .i64 xd) := x1 3 _ rfl
          have z6 : wr.cell? ⟨g, u * 4, none⟩ = some (.int .i64 ya) := y1 0 _ rfl
          have z7 : wr.cell? ⟨g, u * 4 + 1, none⟩ = some (.int .i64 yb) := y1 1 _ rfl
          have z8 : wr.cell? ⟨g, u * 4 + 2, none⟩ = some (.int .i64 yc) := y1 2 _ rfl
          have z9 : wr.cell? ⟨g, u * 4 + 3, none⟩ = some (.int .i64 yd) := y1 3 _ rfl
          have hql' : (q : Int) < (l2.length : Int) := by omega
          have hul' : (u : Int) < (l2.length : Int) := by omega
          have hq9 : (0 : Int) ≤ (q : Int) := by omega
          have hu9 : (0 : Int) ≤ (u : Int) := by omega
          obtain ⟨cur, hcur⟩ := HST3.out.row.blk g rfl
          have fg : ∀ o, wr.frozen? ⟨g, o, none⟩ = false := fun o => frozen_of_row _ _ _ _ _ hcur
          have HK3 := Lib.hid (HK2.out.trans (KeepT.below HB3.out))
          have HB4 := Lib.hid (HB2.out.trans (HB3.out.mono HBL.out))
          have HS3 := Lib.hid (HS2.out.trans (HStep.below HB3.out))
          clear gq gu x1 x2 x3 y1 y2 y3 hcur hE hbq HR3 HST2 HST3 HI HF HH HB3
          go_wp2_with fail
          go_region
          obtain ⟨W, hW⟩ : ∃ W, ((((((((wr.setCell { block := g, off := q * 4 } (Value.int IntKind.i64 ya)).setCell { block := g, off := q * 4 + 1 } (Value.int IntKind.i64 yb)).setCell { block := g, off := q * 4 + 2 } (Value.int IntKind.i64 yc)).setCell { block := g, off := q * 4 + 3 } (Value.int IntKind.i64 yd)).setCell { block := g, off := u * 4 } (Value.int IntKind.i64 xa)).setCell { block := g, off := u * 4 + 1 } (Value.int IntKind.i64 xb)).setCell { block := g, off := u * 4 + 2 } (Value.int IntKind.i64 xc)).setCell { block := g, off := u * 4 + 3 } (Value.int IntKind.i64 xd)).drew = W := ⟨_, rfl⟩
          rw [hW]
          obtain ⟨s1, s2, s3, s4⟩ := HSW.out
          have S1 : Hid (HeapAt W B h FN (.slice (some ⟨g, 0, none⟩) l2.length c2) (swapL l2 q u)) := by
            show HeapAt _ _ _ _ _ _
            rw [← hW]; exact s1.below (bel_drew (Below.refl _ _))
          have S2 : Hid (Below B w W) := by
            show Below _ _ _
            rw [← hW]; exact HB4.out.trans (bel_drew s2)
          have S3 : Hid (KeepT [205, 253] w W) := by
            show KeepT _ _ _
            rw [← hW]; exact (HK3.out.trans s3).trans (KeepT.below (bel_drew (Below.refl _ _)))
          have S4 : Hid (HStep h w (.slice A l.length c) W (.slice (some ⟨g, 0, none⟩) l2.length c2)) := by
            show HStep _ _ _ _ _
            rw [← hW]; exact (HS3.out.trans s4).trans (HStep.below (bel_drew (Below.refl _ _)))
          clear hW s1 s2 s3 s4 z1 z2 z3 z4 z5 z6 z7 z8 z9 fg HSW HB4 HK3
          go_wp2
          go_roundg f
          case measure => omega
          case rel => exact ⟨u, f, c2, _, swapL l2 q u, rfl, rfl, by rw [swapL_length]; omega, .inr (by rw [swapL_length]; omega), Lib.hid (by rw [swapL_length]; exact HL2.out), HE, by rw [swapL_length]; exact S1, S2, S3, by rw [swapL_length]; exact S4, by rw [swapL_length]; exact HOW⟩
      · have HNX : ∃ p, Hid (k = 0 ∧ p = p1 ∨ k = 1 ∧ p = p2) ∧ Hid (∀ b', bestL lt l2 bq p = b' → SinkRel lt l2 q p2 z (k + 1) b') := by
          rcases (by omega : k = 0 ∨ k = 1) with rfl | rfl
          · refine ⟨p1, Lib.hid (.inl ⟨rfl, rfl⟩), Lib.hid fun b' hb' => ⟨fun h => (by cases h), fun _ => ?_, fun h => (by cases h)⟩⟩
            rw [← hb', HKZ.out.1 rfl]; exact HZ.out
          · refine ⟨p2, Lib.hid (.inr ⟨rfl, rfl⟩), Lib.hid fun b' hb' => ⟨fun h => (by cases h), fun h => (by cases h), fun _ => ?_⟩⟩
            rw [← hb']; exact HKZ.out.2.1 rfl
        obtain ⟨p, HKP, HNX⟩ := HNX
        have hkp := HKP.out
        clear HKZ HKP HZ HZC HR3
        have hp9 : (0 : Int) ≤ (p : Int) := by omega
        have hb9 : (0 : Int) ≤ (bq : Int) := by omega
        by_cases hpl : p < l2.length
        · have hbl : bq < l2.length := by omega
          obtain ⟨g, rfl⟩ := HST3.out.row.addr (by omega)
          obtain ⟨x1, x2, x3⟩ := HST3.out.row.cell p hpl
          obtain ⟨y1, y2, y3⟩ := HST3.out.row.cell bq hbl
          have gq : l2.getD p [] = l2[p] := by rw [List.getD_eq_getElem?_getD, List.getElem?_eq_getElem hpl]; rfl
          have gu : l2.getD bq [] = l2[bq] := by rw [List.getD_eq_getElem?_getD, List.getElem?_eq_getElem hbl]; rfl
          have hbe := bestL_in (lt := lt) (b := bq) hpl
          rw [gq, gu] at hbe
          generalize l2[p] = x at *
          generalize l2[bq] = y at *
          obtain ⟨xa, xb, xc, xd, rfl⟩ := El.four x3
          obtain ⟨ya, yb, yc, yd, rfl⟩ := El.four y3
          have HCL : Hid (∀ W, W.heap = wr.heap → Calls Tryz.prog 112 #[.agg #[.int .i64 xa, .int .i64 xb, .int .i64 xc, .int .i64 xd], .agg #[.int .i64 ya, .int .i64 yb, .int .i64 yc, .int .i64 yd]] W fun e w' => e = .returned (.bool (lt [xa, xb, xc, xd] [ya, yb, yc, yd])) ∧ Below W.heap.size W w') := fun W hW => HF.out W _ _ ((HK2.out.trans (KeepT.below HB3.out)).heap hW) x3 y3
          have ch0 : wr.cell? ⟨h, 0, none⟩ = some FN := cell_of_row wr h 0 _ _ _ HST3.out.box
          have ch1 : wr.cell? ⟨h, 1, none⟩ = some (.slice (some ⟨g, 0, none⟩) l2.length c2) := cell_of_row wr h 1 _ _ _ HST3.out.box
          have kx0 : wr.cell? ⟨g, p * 4, none⟩ = some (.int .i64 xa) := x1 0 _ rfl
          have kx1 : wr.cell? ⟨g, p * 4 + 1, none⟩ = some (.int .i64 xb) := x1 1 _ rfl
          have kx2 : wr.cell? ⟨g, p * 4 + 2, none⟩ = some (.int .i64 xc) := x1 2 _ rfl
          have kx3 : wr.cell? ⟨g, p * 4 + 3, none⟩ = some (.int .i64 xd) := x1 3 _ rfl
          have ky0 : wr.cell? ⟨g, bq * 4, none⟩ = some (.int .i64 ya) := y1 0 _ rfl
          have ky1 : wr.cell? ⟨g, bq * 4 + 1, none⟩ = some (.int .i64 yb) := y1 1 _ rfl
          have ky2 : wr.cell? ⟨g, bq * 4 + 2, none⟩ = some (.int .i64 yc) := y1 2 _ rfl
          have ky3 : wr.cell? ⟨g, bq * 4 + 3, none⟩ = some (.int .i64 yd) := y1 3 _ rfl
          have HKEEP := Lib.hid (fun (W : World) (hb : Below wr.heap.size wr W) => And.intro (keepc hb ch0) (And.intro (keepc hb ch1) (And.intro (keepc hb kx0) (And.intro (keepc hb kx1) (And.intro (keepc hb kx2) (And.intro (keepc hb kx3) (And.intro (keepc hb ky0) (And.intro (keepc hb ky1) (And.intro (keepc hb ky2) (keepc hb ky3))))))))))
          have hpl' : (p : Int) < (l2.length : Int) := by omega
          have hbl' : (bq : Int) < (l2.length : Int) := by omega
          have HBE := Lib.hid hbe
          have HBS : Hid (W0.heap.size ≤ wr.heap.size) := HB3.out.size
          clear hbe gq gu x1 x2 x3 y1 y2 y3 HST3 hp1 hp2
          obtain ⟨lv, hlv⟩ : ∃ lv, lt [xa, xb, xc, xd] [ya, yb, yc, yd] = lv := ⟨_, rfl⟩
          rw [hlv] at HCL HBE
          have HNF : Hid (lv = false → SinkRel lt l2 q p2 z (k + 1) bq) := Lib.hid fun hv => HNX.out _ (by rw [HBE.out, hv]; rfl)
          have HNT : Hid (lv = true → SinkRel lt l2 q p2 z (k + 1) p) := Lib.hid fun hv => HNX.out _ (by rw [HBE.out, if_pos hv])
          clear hlv HBE HNX
          rcases hkp with ⟨rfl, rfl⟩ | ⟨rfl, rfl⟩
          · go_wp2_with fail
            rw [Tryz.index317_0]
            go_wp2_with fail
            go_region_held3 (fun W => W.cell? ⟨h, 0, none⟩ = some FN ∧ W.cell? ⟨h, 1, none⟩ = some (.slice (some ⟨g, 0, none⟩) l2.length c2) ∧
              W.cell? ⟨g, p * 4, none⟩ = some (.int .i64 xa) ∧ W.cell? ⟨g, p * 4 + 1, none⟩ = some (.int .i64 xb) ∧ W.cell? ⟨g, p * 4 + 2, none⟩ = some (.int .i64 xc) ∧ W.cell? ⟨g, p * 4 + 3, none⟩ = some (.int .i64 xd) ∧
              W.cell? ⟨g, bq * 4, none⟩ = some (.int .i64 ya) ∧ W.cell? ⟨g, bq * 4 + 1, none⟩ = some (.int .i64 yb) ∧ W.cell? ⟨g, bq * 4 + 2, none⟩ = some (.int .i64 yc) ∧ W.cell? ⟨g, bq * 4 + 3, none⟩ = some (.int .i64 yd)) (first | go_keep | exact HKEEP.out _ HB4.out)
              (first | (go_at_call 112; refine (HCL.out _ (by rfl)).mono ?_; rintro e w3 ⟨rfl, hb3⟩; have HB4 : Hid (Below wr.heap.size wr w3) := (bel_drew (Below.refl _ _)).trans hb3; clear hb3))
            have HB5 := Lib.hid (HB3.out.trans (HB4.out.mono HBS.out))
            cases lv with
            | false =>
              have HN2 := Lib.hid (HNF.out rfl)
              clear HKEEP HCL HNF HNT
              go_wp2
              go_roundg 1
              case measure => decide
              case rel => exact ⟨1, bq, rfl, by decide, rfl, rfl, hbq, HN2, HB5⟩
            | true =>
              have HN2 := Lib.hid (HNT.out rfl)
              clear HKEEP HCL HNF HNT
              go_wp2
              go_roundg 1
              case measure => decide
              case rel => exact ⟨1, p, rfl, by decide, rfl, rfl, .inr hpl, HN2, HB5⟩
          · go_wp2_with fail
            rw [Tryz.index317_1]
            go_wp2_with fail
            go_region_held3 (fun W => W.cell? ⟨h, 0, none⟩ = some FN ∧ W.cell? ⟨h, 1, none⟩ = some (.slice (some ⟨g, 0, none⟩) l2.length c2) ∧
              W.cell? ⟨g, p * 4, none⟩ = some (.int .i64 xa) ∧ W.cell? ⟨g, p * 4 + 1, none⟩ = some (.int .i64 xb) ∧ W.cell? ⟨g, p * 4 + 2, none⟩ = some (.int .i64 xc) ∧ W.cell? ⟨g, p * 4 + 3, none⟩ = some (.int .i64 xd) ∧
              W.cell? ⟨g, bq * 4, none⟩ = some (.int .i64 ya) ∧ W.cell? ⟨g, bq * 4 + 1, none⟩ = some (.int .i64 yb) ∧ W.cell? ⟨g, bq * 4 + 2, none⟩ = some (.int .i64 yc) ∧ W.cell? ⟨g, bq * 4 + 3, none⟩ = some (.int .i64 yd)) (first | go_keep | exact HKEEP.out _ HB4.out)
              (first | (go_at_call 112; refine (HCL.out _ (by rfl)).mono ?_; rintro e w3 ⟨rfl, hb3⟩; have HB4 : Hid (Below wr.heap.size wr w3) := (bel_drew (Below.refl _ _)).trans hb3; clear hb3))
            have HB5 := Lib.hid (HB3.out.trans (HB4.out.mono HBS.out))
            cases lv with
            | false =>
              have HN2 := Lib.hid (HNF.out rfl)
              clear HKEEP HCL HNF HNT
              go_wp2
              go_roundg 0
              case measure => decide
              case rel => exact ⟨2, bq, rfl, by decide, rfl, rfl, hbq, HN2, HB5⟩
            | true =>
              have HN2 := Lib.hid (HNT.out rfl)
              clear HKEEP HCL HNF HNT
              go_wp2
              go_roundg 0
              case measure => decide
              case rel => exact ⟨2, p, rfl, by decide, rfl, rfl, .inr hpl, HN2, HB5⟩
        · have HN2 : Hid (SinkRel lt l2 q p2 z (k + 1) bq) := HNX.out _ (bestL_out hpl)
          have hpl' : ¬ (p : Int) < (l2.length : Int) := by omega
          have ch1 : wr.cell? ⟨h, 1, none⟩ = some (.slice A2 l2.length c2) := cell_of_row wr h 1 _ _ _ HST3.out.box
          have HB5 : Hid (∀ n, Below W0.heap.size W0 (wr.drewN n)) := bel_drewN HB3.out
          clear HNX HST3 hp1 hp2
          rcases hkp with ⟨rfl, rfl⟩ | ⟨rfl, rfl⟩
          · go_wp2_with fail
            rw [Tryz.index317_0]
            go_wp2_with fail
            go_quiet (fail)
            go_wp2
            go_roundg 1
            case measure => decide
            case rel => exact ⟨1, bq, rfl, by decide, rfl, rfl, hbq, HN2, HB5.out _⟩
          · go_wp2_with fail
            rw [Tryz.index317_1]
            go_wp2_with fail
            go_quiet (fail)
            go_wp2
            go_roundg 0
            case measure => decide
            case rel => exact ⟨2, bq, rfl, by decide, rfl, rfl, hbq, HN2, HB5.out _⟩
theorem hsink_any (B h : Nat) (v : Value) (l : List El) (lt : El → El → Bool) (w : World) (hh : HeapAt w B h FN v l) (hF : FirstOk w lt) (hB : B ≤ w.heap.size) (hn : l.length ≤ 60000) :
    Calls Tryz.prog 152 #[.pointer (some ⟨h, 0, none⟩)] w fun e w' => e = .returned (.tuple #[]) ∧ HeapPost w B h v (sinkF lt (l.length + 1) l 0) w' :=
  (hsink_own B h v l lt w hh hF hB hn).mono (by rintro e w' ⟨he, v', a1, a2, a3, a4, _⟩; exact ⟨he, v', a1, a2, a3, a4⟩)
end Go.Proofs.YtladmconpolneaaGreat

/- The heap of tasks: Pop, New. -/
set_option linter.unusedVariables false
set_option linter.unusedSimpArgs false
namespace Go.Proofs.YtladmconpolneaaGreat
open Go.RowKit
def PopPost (w : World) (B h : Nat) (v : Value) (lt : El → El → Bool) (l : List El) (e : Ending) (w' : World) : Prop :=
  (∀ x r, l = x :: r → e = .returned (.tuple #[.agg (i64V x).toArray, .bool true]) ∧ HeapPost w B h v (popL lt l) w') ∧ (l = [] → e = .returned (.tuple #[.agg zero4, .bool false]) ∧ HeapPost w B h v [] w')
def PopPostK (w : World) (B h : Nat) (v : Value) (lt : El → El → Bool) (l : List El) (e : Ending) (w' : World) : Prop :=
  (∀ x r, l = x :: r → e = .returned (.tuple #[.agg (i64V x).toArray, .bool true]) ∧ HeapPostK w B h v (popL lt l) w') ∧ (l = [] → e = .returned (.tuple #[.agg zero4, .bool false]) ∧ HeapPostK w B h v [] w')
theorem popL_one {lt : El → El → Bool} {x : El} {r : List El} : popL lt (x :: r) = sinkF lt ((((x :: r).set 0 ((x :: r).getD r.length [])).take r.length).length + 1) (((x :: r).set 0 ((x :: r).getD r.length [])).take r.length) 0 := by
  have e : (((x :: r).set 0 ((x :: r).getD r.length [])).take r.length).length = r.length := by rw [List.length_take, List.length_set, List.length_cons]; omega
  rw [e]
  rfl
/-- A block of the call's own, a call, another block that is written. -/
theorem local_two {w w2 : World} {T : TypeId} {z x : Array Value} (hb2 : Below (w.alloc (.cells z T)).heap.size (w.alloc (.cells z T)) w2) :
    ((w2.alloc (.cells z T)).setRow w2.heap.size x).heap[w2.heap.size]? = some (.cells x T (0, 0)) ∧ ((w2.alloc (.cells z T)).setRow w2.heap.size x).heap[w.heap.size]? = some (.cells z T (0, 0)) ∧ Below w.heap.size w ((w2.alloc (.cells z T)).setRow w2.heap.size x) ∧ w.heap.size < w2.heap.size := by
  have hs : w.heap.size < w2.heap.size := Nat.lt_of_lt_of_le (by simp) hb2.size
  refine ⟨setRow_heap (w2.alloc (.cells z T)) w2.heap.size z _ T (0, 0) (heap_alloc_new _ _), ?_, ?_, hs⟩
  · rw [setRow_other _ _ _ _ (by omega), Below.heap_alloc _ _ _ hs, hb2.block _ (by simp)]; exact heap_alloc_new _ _
  · have h1 : Below w.heap.size w w2 := ((Below.refl _ _).alloc (Nat.le_refl _) _).trans (hb2.mono (by simp))
    exact (h1.alloc (by omega) _).trans ⟨rfl, rfl, rfl, by simp, fun i hi => setRow_other _ _ _ _ (by omega)⟩
theorem bel_setRow {B g : Nat} {w W : World} {x : Array Value} (hb : Below B w W) (hg : B ≤ g) : Below B w (W.setRow g x) := hb.trans ⟨rfl, rfl, rfl, by simp, fun i hi => setRow_other _ _ _ _ (by omega)⟩
theorem HStep.set' {h i : Nat} {w : World} {v v' x : Value} (e : v'.ownBlock = v.ownBlock) : HStep h w v (w.setCell ⟨h, i, none⟩ x) v' := ⟨by simp [World.setCell], fun k _ hh _ => Below.heap_setCell _ _ _ _ hh, fun k e' _ => by rw [← e]; exact e'⟩
theorem HStep.row {h j : Nat} {w W : World} {v v' : Value} {x : Array Value} (a : HStep h w v W v') (hj : w.heap.size ≤ j) : HStep h w v (W.setRow j x) v' :=
  ⟨by simpa using a.1, fun k hk hh hv => by rw [setRow_other _ _ _ _ (by omega)]; exact a.2.1 k hk hh hv, a.2.2⟩
theorem KeepT.row {T : List TypeId} {j : Nat} {w W : World} {x : Array Value} (a : KeepT T w W) (hj : w.heap.size ≤ j) : KeepT T w (W.setRow j x) :=
  ⟨by simpa using a.1, fun k c t fr hk ht => by rw [setRow_other _ _ _ _ (by have := lt_of_block hk; omega)]; exact a.2 k c t fr hk ht⟩
theorem HeapAt.move {w W : World} {B h : Nat} {F v : Value} {l : List El} (hh : HeapAt w B h F v l) (h1 : W.heap[h]? = w.heap[h]?) (h2 : ∀ k, v.ownBlock = some k → W.heap[k]? = w.heap[k]?) : HeapAt W B h F v l :=
  ⟨by rw [h1]; exact hh.box, hh.base, hh.row.move h2⟩
theorem HeapAt.put {w : World} {B h g c : Nat} {F : Value} {l : List El} (hh : HeapAt w B h F (.slice (some ⟨g, 0, none⟩) l.length c) l) (i : Nat) (hi : i < l.length) (y : El) (hy : y.length = 4) :
    HeapAt (w.setCells g (i * 4) (i64V y)) B h F (.slice (some ⟨g, 0, none⟩) l.length c) (l.set i y) ∧ Below B w (w.setCells g (i * 4) (i64V y)) ∧ KeepT [205, 253] w (w.setCells g (i * 4) (i64V y)) ∧
    HStep h w (.slice (some ⟨g, 0, none⟩) l.length c) (w.setCells g (i * 4) (i64V y)) (.slice (some ⟨g, 0, none⟩) l.length c) ∧ (∀ k, k ≠ g → (w.setCells g (i * 4) (i64V y)).heap[k]? = w.heap[k]?) := by
  obtain ⟨cur, hc⟩ := hh.row.blk g rfl
  have hB := (hh.row.lt g rfl).1
  have hne : h ≠ g := by
    rintro rfl
    have := hh.box
    rw [hc] at this
    injection this with this
    injection this with _ e
    cases e
  have r1 := hh.row.put i hi _ hy
  have e1 : (l.set i y).length = l.length := by simp
  rw [e1] at r1
  refine ⟨⟨?_, hh.base, r1⟩, bel_setCells g hB _ _ (Below.refl _ _), KeepT.cells hc (by decide) _ _, HStep.cells _, fun k hk => setCells_other w g _ _ _ _ hk⟩
  rw [setCells_other w g _ _ _ _ hne]; exact hh.box
set_option maxHeartbeats 1600000 in
set_option maxRecDepth 100000 in
theorem hpop_own (B h : Nat) (v : Value) (l : List El) (lt : El → El → Bool) (w : World) (hh : HeapAt w B h FN v l) (hF : FirstOk w lt) (hB : B ≤ w.heap.size) (hn : l.length ≤ 60000) :
    Calls Tryz.prog 115 #[.pointer (some ⟨h, 0, none⟩)] w (PopPostK w B h v lt l) := by
  obtain ⟨A, c, rfl⟩ := hh.row.slice
  have HN := Lib.hid hn
  have HI := Lib.hid Tryz.size205
  have HF := Lib.hid hF
  have HH := Lib.hid hh
  have hlt := lt_of_block hh.box
  have HB1 : Hid (∀ o, Below w.heap.size w (w.alloc o)) := fun o => (Below.refl _ _).alloc (Nat.le_refl _) _
  have HPK := Lib.hid (peek_any B h FN (.slice A l.length c) l _ (hh.below (HB1.out (.cells zero4 205))))
  have HZ := Lib.hid (heap_alloc_new w (.cells zero4 205))
  clear hF hh hn
  cases l with
  | nil =>
    go_enter Tryz.func115, Tryz.ntmps115
    go_wp2_with (first
      | (go_at_call 151; refine HPK.out.mono ?_; rintro e w2 ⟨-, hp, hb2⟩; obtain rfl := hp rfl; have HB2 := Lib.hid hb2; clear hp hb2)
      | (refine wpList_store_row rfl 205 (.tmp 4) (.tmp 10) rfl w2.heap.size rfl 205 zero4 zero4 rfl (heap_alloc_new _ _) HI.out rfl (by simp [Value.oneCell']) ?_; have HL := Lib.hid (local_two (x := zero4) HB2.out); generalize (w2.alloc (.cells zero4 205)).setRow w2.heap.size zero4 = W1 at *)
      | (refine wpList_load_row rfl 205 (.tmp 4) rfl w2.heap.size rfl 205 zero4 (0, 0) _ HL.out.1 Tryz.underlying205 rfl HI.out ?_)
      | (refine wpList_store_row rfl 205 (.tmp 2) (.tmp 14) rfl w.heap.size rfl 205 zero4 zero4 rfl HL.out.2.1 HI.out rfl (by simp [Value.oneCell']) ?_; have HGW := Lib.hid (setRow_heap W1 w.heap.size zero4 zero4 205 (0, 0) HL.out.2.1); have HBW : Hid (Below w.heap.size w (W1.setRow w.heap.size zero4)) := bel_setRow HL.out.2.2.1 (Nat.le_refl _); generalize W1.setRow w.heap.size zero4 = W2 at *)
      | fail)
    refine bodyPost_ret (results_cell_slot rfl _ _ w.heap.size 205 zero4 (0, 0) _ rfl HGW.out Tryz.underlying205 rfl HI.out) rfl ?_
    exact ⟨fun x r e => (by cases e), fun _ => ⟨rfl, _, HH.out.below HBW.out, HBW.out.mono hB, KeepT.below HBW.out, HStep.below HBW.out, rfl⟩⟩
  | cons x r =>
    obtain ⟨g, rfl⟩ := HH.out.row.addr (by simp)
    obtain ⟨q1, q2, q3⟩ := HH.out.row.cell 0 (by simp)
    obtain ⟨y1, y2, y3⟩ := HH.out.row.cell r.length (by simp)
    have q3' : x.length = 4 := q3
    have gl : (x :: r).getD r.length [] = (x :: r)[r.length] := by rw [List.getD_eq_getElem?_getD, List.getElem?_eq_getElem (by simp)]; rfl
    have HPL := Lib.hid (popL_one (lt := lt) (x := x) (r := r))
    rw [gl] at HPL
    generalize (x :: r)[r.length] = y at *
    obtain ⟨ya, yb, yc, yd, rfl⟩ := El.four y3
    obtain ⟨a, b, d, k, rfl⟩ := El.four q3'
    obtain ⟨R, hR⟩ : ∃ R, popL lt ([a, b, d, k] :: r) = R := ⟨_, rfl⟩
    have HR := Lib.hid hR
    have HQ := Lib.hid (And.intro q1 (And.intro y1 y2))
    clear gl q1 q2 q3 q3' y1 y2 y3 hR
    have hr0 : (0 : Int) < (r.length : Int) + 1 := by omega
    have hr1 : (0 : Int) ≤ (r.length : Int) := by omega
    have hr2 : (r.length : Int) ≤ 60000 := by have := HN.out; rw [List.length_cons] at this; omega
    go_enter Tryz.func115, Tryz.ntmps115
    go_wp2_with (first
      | (go_at_call 151; refine HPK.out.mono ?_; rintro e w2 ⟨hp, -, hb2⟩; obtain rfl := hp _ _ rfl; have HB2 := Lib.hid hb2; clear hp hb2)
      | (refine wpList_store_row rfl 205 (.tmp 4) (.tmp 10) rfl w2.heap.size rfl 205 zero4 #[.int .i64 a, .int .i64 b, .int .i64 d, .int .i64 k] rfl (heap_alloc_new _ _) HI.out rfl (by simp [Value.oneCell']) ?_; have HL := Lib.hid (local_two (x := #[.int .i64 a, .int .i64 b, .int .i64 d, .int .i64 k]) HB2.out); generalize (w2.alloc (.cells zero4 205)).setRow w2.heap.size #[.int .i64 a, .int .i64 b, .int .i64 d, .int .i64 k] = W1 at *; have HHW := Lib.hid (HH.out.below HL.out.2.2.1); have ch1 : W1.cell? ⟨h, 1, none⟩ = some (.slice (some ⟨g, 0, none⟩) (r.length + 1) c) := cell_of_row W1 h 1 _ _ _ HHW.out.box)
      | fail)
    have HBW := Lib.hid HL.out.2.2.1
    have k0 : W1.cell? ⟨g, r.length * 4, none⟩ = some (.int .i64 ya) := keepc HBW.out (HQ.out.2.1 0 _ rfl)
    have k1 : W1.cell? ⟨g, r.length * 4 + 1, none⟩ = some (.int .i64 yb) := keepc HBW.out (HQ.out.2.1 1 _ rfl)
    have k2 : W1.cell? ⟨g, r.length * 4 + 2, none⟩ = some (.int .i64 yc) := keepc HBW.out (HQ.out.2.1 2 _ rfl)
    have k3 : W1.cell? ⟨g, r.length * 4 + 3, none⟩ = some (.int .i64 yd) := keepc HBW.out (HQ.out.2.1 3 _ rfl)
    have q0 : w.rangeAt g 0 (i64V [a, b, d, k]) := by have := HQ.out.1; rw [Nat.zero_mul] at this; exact this
    have j0 : W1.cell? ⟨g, 0, none⟩ = some (.int .i64 a) := keepc HBW.out (q0 0 _ rfl)
    have j1 : W1.cell? ⟨g, 1, none⟩ = some (.int .i64 b) := keepc HBW.out (q0 1 _ rfl)
    have j2 : W1.cell? ⟨g, 2, none⟩ = some (.int .i64 d) := keepc HBW.out (q0 2 _ rfl)
    have j3 : W1.cell? ⟨g, 3, none⟩ = some (.int .i64 k) := keepc HBW.out (q0 3 _ rfl)
    obtain ⟨cur, hcur⟩ := HHW.out.row.blk g rfl
    have fg : ∀ o, W1.frozen? ⟨g, o, none⟩ = false := fun o => frozen_of_row _ _ _ _ _ hcur
    go_region
    obtain ⟨W2, hW2⟩ : ∃ W, ((((W1.setCell { block := g, off := 0 } (Value.int IntKind.i64 ya)).setCell { block := g, off := 1 } (Value.int IntKind.i64 yb)).setCell { block := g, off := 2 } (Value.int IntKind.i64 yc)).setCell { block := g, off := 3 } (Value.int IntKind.i64 yd)).drew = W := ⟨_, rfl⟩
    rw [hW2]
    obtain ⟨s1, s2, s3, s4, s5⟩ := HHW.out.put 0 (by simp) [ya, yb, yc, yd] rfl
    have hgl := (HH.out.row.lt g rfl).2
    obtain ⟨L2, hL2⟩ : ∃ L, ([a, b, d, k] :: r).set 0 [ya, yb, yc, yd] = L := ⟨_, rfl⟩
    have e2 : L2.length = r.length + 1 := by rw [← hL2]; simp
    have S1 : Hid (HeapAt W2 B h FN (.slice (some ⟨g, 0, none⟩) (r.length + 1) c) L2) := by
      show HeapAt _ _ _ _ _ _
      rw [← hW2, ← hL2]; exact s1.below (bel_drew (Below.refl _ _))
    have S2 : Hid (Below B w W2) := by
      show Below _ _ _
      rw [← hW2]; exact (HBW.out.mono hB).trans (bel_drew s2)
    have S3 : Hid (KeepT [205, 253] w W2) := by
      show KeepT _ _ _
      rw [← hW2]; exact ((KeepT.below HBW.out).trans s3).trans (KeepT.below (bel_drew (Below.refl _ _)))
    have S4 : Hid (HStep h w (.slice (some ⟨g, 0, none⟩) (r.length + 1) c) W2 (.slice (some ⟨g, 0, none⟩) (r.length + 1) c)) := by
      show HStep _ _ _ _ _
      rw [← hW2]; exact ((HStep.below HBW.out).trans s4).trans (HStep.below (bel_drew (Below.refl _ _)))
    have S5 : Hid (W2.heap[w2.heap.size]? = some (.cells #[.int .i64 a, .int .i64 b, .int .i64 d, .int .i64 k] 205 (0, 0)) ∧ W2.heap[w.heap.size]? = some (.cells zero4 205 (0, 0))) := by
      have h4 := HL.out.2.2.2
      have h5 : ∀ q, q ≠ g → W2.heap[q]? = W1.heap[q]? := fun q hq => by rw [← hW2]; exact s5 q hq
      exact ⟨(h5 _ (by omega)).trans HL.out.1, (h5 _ (by omega)).trans HL.out.2.1⟩
    have HPE : Hid (sinkF lt ((L2.take r.length).length + 1) (L2.take r.length) 0 = R) := by
      show _ = _
      rw [← hL2, ← HR.out]; exact HPL.out.symm
    clear hW2 hL2 s1 s2 s3 s4 s5 k0 k1 k2 k3 q0 j0 j1 j2 j3 hcur fg ch1
    have hrow3 := S1.out.row
    rw [← e2] at hrow3
    have hcp := hrow3.cap
    have hr4 := hrow3.cut r.length (by omega) (by omega)
    obtain ⟨t1, t2, t3⟩ := HeapAt.store S1.out.box S1.out.base hr4
    have HR4 := Lib.hid hr4
    have T1 := Lib.hid t1
    have T2 := Lib.hid t2
    have T3 := Lib.hid t3
    have hcap : (r.length : Int) ≤ (c : Int) := by omega
    have ch2 : W2.cell? ⟨h, 1, none⟩ = some (.slice (some ⟨g, 0, none⟩) (r.length + 1) c) := cell_of_row W2 h 1 _ _ _ S1.out.box
    have fh2 := frozen_of_row W2 h 1 _ _ S1.out.box
    have e3 : (L2.take r.length).length = r.length := by rw [List.length_take]; omega
    have T5 : Hid (HStep h w (.slice (some ⟨g, 0, none⟩) (r.length + 1) c) (W2.setCell ⟨h, 1, none⟩ (.slice (some ⟨g, 0, none⟩) r.length c)) (.slice (some ⟨g, 0, none⟩) r.length c)) := S4.out.trans (HStep.set' rfl)
    have HSK := Lib.hid (hsink_own B h (.slice (some ⟨g, 0, none⟩) r.length c) (L2.take r.length) lt _ t1 (fun W' x y hk hx hy => HF.out W' x y ((S3.out.trans t2).trans hk) hx hy) (Nat.le_trans hB (Nat.le_trans S3.out.1 t2.1)) (by omega))
    clear hrow3 hcp hr4 t1 t2 t3 e2 e3
    go_wp2_with (first
      | (go_at_call 152; refine HSK.out.mono ?_; rintro e w4 ⟨rfl, v5, hh5, hb5, hk5, hs5, ho5⟩; rw [HPE.out] at hh5; have HO5 := Lib.hid ho5; clear ho5
         have hst : ∀ q, q < W2.heap.size → q ≠ h → q ≠ g → w4.heap[q]? = W2.heap[q]? := fun q hq1 hq2 hq3 => (hs5.2.1 q (Nat.lt_of_lt_of_le hq1 T2.out.1) hq2 (fun e => hq3 (Option.some.inj e).symm)).trans (Below.heap_setCell _ _ _ _ hq2)
         have h24 := HL.out.2.2.2
         have G4 : Hid (w4.heap[w2.heap.size]? = some (.cells #[.int .i64 a, .int .i64 b, .int .i64 d, .int .i64 k] 205 (0, 0))) := (hst _ (lt_of_block S5.out.1) (by omega) (by omega)).trans S5.out.1
         have GR : Hid (w4.heap[w.heap.size]? = some (.cells zero4 205 (0, 0))) := (hst _ (lt_of_block S5.out.2) (by omega) (by omega)).trans S5.out.2
         have NV : Hid (v5.ownBlock ≠ some w.heap.size) := by
           intro e
           have e1 := hs5.2.2 _ e (Nat.lt_of_lt_of_le (lt_of_block S5.out.2) T2.out.1)
           have e2 : g = w.heap.size := Option.some.inj e1
           omega
         have H5 := Lib.hid hh5
         have B5 := Lib.hid (S2.out.trans (T3.out.trans hb5))
         have K5 := Lib.hid ((S3.out.trans T2.out).trans hk5)
         have N5 := Lib.hid (T5.out.trans hs5)
         clear hh5 hb5 hk5 hs5 hst h24)
      | (refine wpList_load_row rfl 205 (.tmp 4) rfl w2.heap.size rfl 205 #[.int .i64 a, .int .i64 b, .int .i64 d, .int .i64 k] (0, 0) _ G4.out Tryz.underlying205 rfl HI.out ?_)
      | (refine wpList_store_row rfl 205 (.tmp 2) (.tmp 44) rfl w.heap.size rfl 205 zero4 #[.int .i64 a, .int .i64 b, .int .i64 d, .int .i64 k] rfl GR.out HI.out rfl (by simp [Value.oneCell']) ?_; have HGW := Lib.hid (setRow_heap w4 w.heap.size zero4 #[.int .i64 a, .int .i64 b, .int .i64 d, .int .i64 k] 205 (0, 0) GR.out))
      | fail)
    refine bodyPost_ret (results_cell_slot rfl _ _ w.heap.size 205 #[.int .i64 a, .int .i64 b, .int .i64 d, .int .i64 k] (0, 0) _ rfl HGW.out Tryz.underlying205 rfl HI.out) rfl ?_
    refine ⟨fun x' r' e => ⟨?_, ?_⟩, fun e => (by cases e)⟩
    · rw [← (List.cons.inj e).1]; rfl
    · show HeapPostK w B h (.slice (some ⟨g, 0, none⟩) (r.length + 1) c) (popL lt ([a, b, d, k] :: r)) _
      rw [HR.out]
      refine ⟨v5, H5.out.move (setRow_other _ _ _ _ (by omega)) (fun q hq => setRow_other _ _ _ _ (fun e => NV.out (by rw [← e]; exact hq))), bel_setRow B5.out hB, K5.out.row (Nat.le_refl _), N5.out.row (Nat.le_refl _), HO5.out⟩
theorem hpop_any (B h : Nat) (v : Value) (l : List El) (lt : El → El → Bool) (w : World) (hh : HeapAt w B h FN v l) (hF : FirstOk w lt) (hB : B ≤ w.heap.size) (hn : l.length ≤ 60000) :
    Calls Tryz.prog 115 #[.pointer (some ⟨h, 0, none⟩)] w (PopPost w B h v lt l) :=
  (hpop_own B h v l lt w hh hF hB hn).mono (by
    rintro e w' ⟨p, q⟩
    refine ⟨fun x r hl => ?_, fun hl => ?_⟩
    · obtain ⟨he, v', a1, a2, a3, a4, _⟩ := p x r hl
      exact ⟨he, v', a1, a2, a3, a4⟩
    · obtain ⟨he, v', a1, a2, a3, a4, _⟩ := q hl
      exact ⟨he, v', a1, a2, a3, a4⟩)
theorem hnew_any (w : World) : Calls Tryz.prog 111 #[FN, .slice none 0 0] w fun e w' => ∃ h, e = .returned (.pointer (some ⟨h, 0, none⟩)) ∧ HeapAt w' w.heap.size h FN (.slice none 0 0) [] ∧ Below w.heap.size w w' := by
  go_enter Tryz.func111, Tryz.ntmps111
  go_wp2_with fail
  go_loopg [13] 0 (fun gk i wr => i = .int .i64 0 ∧ wr = w.alloc (.cells #[FN, .slice none 0 0] 253))
  case atStart => exact ⟨rfl, rfl⟩
  case round =>
    obtain ⟨rfl, rfl⟩ := hrel
    go_wp2
    go_ret
    exact ⟨w.heap.size, rfl, ⟨heap_alloc_new _ _, Nat.le_refl _, RowAt.nil _ _ _ _⟩, (Below.refl _ _).alloc (Nat.le_refl _) _⟩
end Go.Proofs.YtladmconpolneaaGreat

/- The heap of entries: Peek. -/
set_option linter.unusedVariables false
set_option linter.unusedSimpArgs false
namespace Go.Proofs.YtladmconpolneaaGreat
open Go.RowKit
theorem Tryz.info270 : (Tryz.prog.info? 270).map (fun i => (i.zero, i.size, i.bytes)) = some (some (.agg #[.int .i64 0, .int .i64 0, .int .i64 0]), 3, 24) := by kernel_rfl
theorem Tryz.size270 : (Tryz.prog.info? 270).map (·.size) = some 3 := by kernel_rfl
theorem El.three {x : El} (h : x.length = 3) : ∃ a b c, x = [a, b, c] := by
  match x, h with
  | [a, b, c], _ => exact ⟨a, b, c, rfl⟩
abbrev zero3 : Array Value := #[.int .i64 0, .int .i64 0, .int .i64 0]
abbrev FE (qc : Nat) : Value := .func (.func 165) #[] #[.pointer (some ⟨qc, 0, none⟩)]
structure HeapE (w : World) (B h : Nat) (F v : Value) (l : List El) : Prop where
  box : w.heap[h]? = some (.cells #[F, v] 324 (0, 0))
  base : B ≤ h
  row : RowAt w B 270 3 v l
def PeekPostE (w : World) (l : List El) (e : Ending) (w' : World) : Prop :=
  (∀ x r, l = x :: r → e = .returned (.tuple #[.agg (i64V x).toArray, .bool true])) ∧ (l = [] → e = .returned (.tuple #[.agg zero3, .bool false])) ∧ Below w.heap.size w w'
theorem peekE_any (B h : Nat) (F v : Value) (l : List El) (w : World) (hh : HeapE w B h F v l) : Calls Tryz.prog 169 #[.pointer (some ⟨h, 0, none⟩)] w (PeekPostE w l) := by
  obtain ⟨A, c, rfl⟩ := hh.row.slice
  have c1 : w.cell? ⟨h, 1, none⟩ = some (.slice A l.length c) := cell_of_row _ _ _ _ _ _ hh.box
  have HH := Lib.hid hh
  have HI := Lib.hid Tryz.size270
  have hlt := lt_of_block hh.box
  clear hh
  have HB1 : Hid (∀ o, Below w.heap.size w (w.alloc o)) := fun o => (Below.refl _ _).alloc (Nat.le_refl _) _
  cases l with
  | nil =>
    have c1' : w.cell? ⟨h, 1, none⟩ = some (.slice A 0 c) := c1
    clear c1
    go_enter Tryz.func169, Tryz.ntmps169
    go_wp2_with fail
    refine bodyPost_ret (results_cell_slot rfl _ _ w.heap.size 270 zero3 (0, 0) _ rfl (by first | exact heap_alloc_new _ _ | (rw [Below.heap_alloc _ _ _ (by simp)]; exact heap_alloc_new _ _)) Tryz.underlying270 rfl HI.out) rfl ?_
    exact ⟨fun x r e => (by cases e), fun _ => rfl, by first | exact HB1.out _ | exact (HB1.out _).alloc (by simp) _⟩
  | cons x r =>
    obtain ⟨g, rfl⟩ := HH.out.row.addr (by simp)
    obtain ⟨q1, q2, q3⟩ := HH.out.row.cell 0 (by simp)
    have q3' : x.length = 3 := q3
    obtain ⟨a, b, d, rfl⟩ := El.three q3'
    have HQ : Hid (∀ o, (w.alloc o).rangeAt g 0 [.int .i64 a, .int .i64 b, .int .i64 d]) := fun o => by
      have q0 : w.rangeAt g (0 * 3) [.int .i64 a, .int .i64 b, .int .i64 d] := q1
      rw [Nat.zero_mul] at q0
      exact World.rangeAt_alloc q0 o
    have c1' : w.cell? ⟨h, 1, none⟩ = some (.slice (some ⟨g, 0, none⟩) (r.length + 1) c) := c1
    clear c1 q1 q2 q3 q3'
    have hp : (0 : Int) < (r.length : Int) + 1 := by omega
    have hz : (((r.length : Int) + 1) == 0) = false := by rw [beq_eq_false_iff_ne]; omega
    have HZ := Lib.hid (heap_alloc_new w (.cells zero3 270))
    obtain ⟨W, hW⟩ : ∃ W, (w.alloc (.cells zero3 270)).setRow w.heap.size #[.int .i64 a, .int .i64 b, .int .i64 d] = W := ⟨_, rfl⟩
    have HW := Lib.hid hW
    have HGW : Hid (W.heap[w.heap.size]? = some (.cells #[.int .i64 a, .int .i64 b, .int .i64 d] 270 (0, 0))) := by
      show _ = _
      rw [← hW]; exact setRow_heap (w.alloc (.cells zero3 270)) w.heap.size zero3 _ 270 (0, 0) HZ.out
    have HBW : Hid (Below w.heap.size w W) := by
      show Below _ _ _
      rw [← hW]; exact (HB1.out _).trans ⟨rfl, rfl, rfl, by simp, fun i hi => setRow_other _ _ _ _ (by omega)⟩
    clear hW
    go_enter Tryz.func169, Tryz.ntmps169
    go_wp2_with (first
      | (refine wpList_load_mid rfl 270 (.tmp 16) rfl g 0 rfl [.int .i64 a, .int .i64 b, .int .i64 d] _ (HQ.out _) Tryz.underlying270 rfl HI.out ?_)
      | (refine wpList_store_row rfl 270 (.tmp 2) (.tmp 17) rfl w.heap.size rfl 270 zero3 #[.int .i64 a, .int .i64 b, .int .i64 d] rfl HZ.out HI.out rfl (by simp [Value.oneCell']) ?_; rw [HW.out]))
    refine bodyPost_ret (results_cell_slot rfl _ _ w.heap.size 270 #[.int .i64 a, .int .i64 b, .int .i64 d] (0, 0) _ rfl HGW.out Tryz.underlying270 rfl HI.out) rfl ?_
    refine ⟨fun x r e => ?_, fun e => (by cases e), HBW.out⟩
    rw [← (List.cons.inj e).1]
    rfl
def FirstE (qc : Nat) (w : World) (lt : El → El → Bool) : Prop := ∀ (W : World) (x y : El), KeepT [270, 324] w W → x.length = 3 → y.length = 3 → Calls Tryz.prog 165 #[.agg (i64V x).toArray, .agg (i64V y).toArray, .pointer (some ⟨qc, 0, none⟩)] W fun e w' => e = .returned (.bool (lt x y)) ∧ Below W.heap.size W w'
def HeapPostE (qc : Nat) (w : World) (B h : Nat) (v : Value) (l' : List El) (w' : World) : Prop := ∃ v', HeapE w' B h (FE qc) v' l' ∧ Below B w w' ∧ KeepT [270, 324] w w' ∧ HStep h w v w' v'
theorem HeapE.below {w W : World} {B h : Nat} {F v : Value} {l : List El} (hh : HeapE w B h F v l) (hb : Below w.heap.size w W) : HeapE W B h F v l :=
  ⟨by rw [hb.block _ (lt_of_block hh.box)]; exact hh.box, hh.base, hh.row.move fun k hk => hb.block k (hh.row.lt k hk).2⟩
theorem HeapE.swap {w : World} {B h g c : Nat} {F : Value} {l : List El} (hh : HeapE w B h F (.slice (some ⟨g, 0, none⟩) l.length c) l) (i j : Nat) (hi : i < l.length) (hj : j < l.length) :
    HeapE ((w.setCells g (i * 3) (i64V (l.getD j []))).setCells g (j * 3) (i64V (l.getD i []))) B h F (.slice (some ⟨g, 0, none⟩) l.length c) (swapL l i j) ∧
    Below B w ((w.setCells g (i * 3) (i64V (l.getD j []))).setCells g (j * 3) (i64V (l.getD i []))) ∧ KeepT [270, 324] w ((w.setCells g (i * 3) (i64V (l.getD j []))).setCells g (j * 3) (i64V (l.getD i []))) ∧ HStep h w (.slice (some ⟨g, 0, none⟩) l.length c) ((w.setCells g (i * 3) (i64V (l.getD j []))).setCells g (j * 3) (i64V (l.getD i []))) (.slice (some ⟨g, 0, none⟩) l.length c) := by
  have gi : l.getD i [] = l[i] := by rw [List.getD_eq_getElem?_getD, List.getElem?_eq_getElem hi]; rfl
  have gj : l.getD j [] = l[j] := by rw [List.getD_eq_getElem?_getD, List.getElem?_eq_getElem hj]; rfl
  have li : (l.getD i []).length = 3 := by rw [gi]; exact (hh.row.cell i hi).2.2
  have lj : (l.getD j []).length = 3 := by rw [gj]; exact (hh.row.cell j hj).2.2
  obtain ⟨cur, hc⟩ := hh.row.blk g rfl
  have hB := (hh.row.lt g rfl).1
  have hne : h ≠ g := by
    rintro rfl
    have := hh.box
    rw [hc] at this
    injection this with this
    injection this with _ e
    cases e
  have r1 := hh.row.put i hi _ lj
  have e1 : (l.set i (l.getD j [])).length = l.length := by simp
  have r2 := r1.put j (by rw [e1]; exact hj) _ li
  have e2 : ((l.set i (l.getD j [])).set j (l.getD i [])).length = l.length := by simp
  rw [e2] at r2
  obtain ⟨cur1, hc1⟩ := r1.blk g rfl
  refine ⟨⟨?_, hh.base, r2⟩, bel_setCells g hB _ _ (bel_setCells g hB _ _ (Below.refl _ _)), (KeepT.cells hc (by decide) _ _).trans (KeepT.cells hc1 (by decide) _ _), (HStep.cells _).trans (HStep.cells _)⟩
  rw [setCells_other w g _ _ _ _ hne, setCells_other w g _ _ _ _ hne]; exact hh.box
theorem HeapE.gbox {w W : World} {B h : Nat} {F v : Value} {l : List El} (hh : HeapE w B h F v l) (hg : w.grownBy W v.ownBlock) : W.heap[h]? = some (.cells #[F, v] 324 (0, 0)) := by
  obtain ⟨cells, ho, _⟩ := hh.row
  rw [hg.block h (lt_of_block hh.box) (own_ne2 ho hh.box (by decide))]; exact hh.box
theorem HeapE.gkeep {w W : World} {B h : Nat} {F v : Value} {l : List El} (hh : HeapE w B h F v l) (hg : w.grownBy W v.ownBlock) : KeepT [270, 324] w W := by
  obtain ⟨cells, ho, _⟩ := hh.row
  exact KeepT.grown ho hg (by decide)
theorem HeapE.gbel {w W : World} {B h : Nat} {F v : Value} {l : List El} (hh : HeapE w B h F v l) (hg : w.grownBy W v.ownBlock) (hB : B ≤ w.heap.size) : Below B w W := by
  obtain ⟨cells, ho, _⟩ := hh.row
  exact (Below.refl _ _).grown hg hB (own_base ho)
theorem HeapE.store {w : World} {B h : Nat} {F v v' : Value} {l : List El} (hg : w.heap[h]? = some (.cells #[F, v] 324 (0, 0))) (hb : B ≤ h) (hr : RowAt w B 270 3 v' l) :
    HeapE (w.setCell ⟨h, 1, none⟩ v') B h F v' l ∧ KeepT [270, 324] w (w.setCell ⟨h, 1, none⟩ v') ∧ Below B w (w.setCell ⟨h, 1, none⟩ v') := by
  refine ⟨⟨heap_setCell_same w h 1 _ _ _ hg, hb, hr.move fun k hk => Below.heap_setCell _ _ _ _ ?_⟩, KeepT.set hg (by decide), (Below.refl _ _).setCell hb _⟩
  rintro rfl
  obtain ⟨cur, hc⟩ := hr.blk _ hk
  rw [hg] at hc
  injection hc with hc
  injection hc with _ e
  cases e
theorem HeapE.move {w W : World} {B h : Nat} {F v : Value} {l : List El} (hh : HeapE w B h F v l) (h1 : W.heap[h]? = w.heap[h]?) (h2 : ∀ k, v.ownBlock = some k → W.heap[k]? = w.heap[k]?) : HeapE W B h F v l :=
  ⟨by rw [h1]; exact hh.box, hh.base, hh.row.move h2⟩
theorem HeapE.put {w : World} {B h g c : Nat} {F : Value} {l : List El} (hh : HeapE w B h F (.slice (some ⟨g, 0, none⟩) l.length c) l) (i : Nat) (hi : i < l.length) (y : El) (hy : y.length = 3) :
    HeapE (w.setCells g (i * 3) (i64V y)) B h F (.slice (some ⟨g, 0, none⟩) l.length c) (l.set i y) ∧ Below B w (w.setCells g (i * 3) (i64V y)) ∧ KeepT [270, 324] w (w.setCells g (i * 3) (i64V y)) ∧
    HStep h w (.slice (some ⟨g, 0, none⟩) l.length c) (w.setCells g (i * 3) (i64V y)) (.slice (some ⟨g, 0, none⟩) l.length c) ∧ (∀ k, k ≠ g → (w.setCells g (i * 3) (i64V y)).heap[k]? = w.heap[k]?) := by
  obtain ⟨cur, hc⟩ := hh.row.blk g rfl
  have hB := (hh.row.lt g rfl).1
  have hne : h ≠ g := by
    rintro rfl
    have := hh.box
    rw [hc] at this
    injection this with this
    injection this with _ e
    cases e
  have r1 := hh.row.put i hi _ hy
  have e1 : (l.set i y).length = l.length := by simp
  rw [e1] at r1
  refine ⟨⟨?_, hh.base, r1⟩, bel_setCells g hB _ _ (Below.refl _ _), KeepT.cells hc (by decide) _ _, HStep.cells _, fun k hk => setCells_other w g _ _ _ _ hk⟩
  rw [setCells_other w g _ _ _ _ hne]; exact hh.box
end Go.Proofs.YtladmconpolneaaGreat

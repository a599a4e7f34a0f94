/- Gangs within gangs: The gang: lockSlow: behind the spin (5). (Printed by gen_gl.py.) -/
import Derived.Test.YtapjmifhhbpikaaXl4
set_option linter.unusedVariables false
set_option linter.unusedSectionVars false
set_option linter.unusedSimpArgs false
namespace Go.Proofs.Ytapjmifhhbpikaa
open Go.Conc Go.ConcN Go.ConcM Go.RowKit Go.Conc.Lib Go.ConcR.Gen
open Go.ConcR (KK wgBlock WgAt stA smA rd wr mk)
section
variable {A : Nat → Th → Array Value → Goroutine → World → Prop} {K : Band} [Fam K A] {W : Snap} {b₁ : Frame} {a₁ : Act} {ops₁ : Array Oper} {i₁ : Nat} {rest₁ : List Nat} {k₁ : List Item} {cs₁ : List Frame} {job : Nat} {blk : List Nat} [Own W blk]
set_option maxRecDepth 100000 in
set_option maxHeartbeats 32000000 in
theorem c2_01ff (hT : LockK A K W b₁ a₁ ops₁ i₁ rest₁ k₁ cs₁ job blk) (v : Array Value) (k : Nat) (ih : ∀ k', k' < k → ∀ (T : Th) (wst : Int), Vd T job blk → HeadAt A K W b₁ a₁ ops₁ i₁ rest₁ k₁ cs₁ v k' T wst) (bW : Bool) (kk : Nat) (hkk : kk < 1000) (it : Nat) (hit : it ≤ 4) (wst : Int) :
    RestAt A K W b₁ a₁ ops₁ i₁ rest₁ k₁ cs₁ v k { pc := .c2, old := ⟨false, bW, true, kk⟩, aw := false, sv := false, it := it, job := job, blk := blk } wst := by
  have a4 : bits .and .i32 (Mx.num ⟨false, bW, true, kk⟩) 4 = 4 := by rw [show (4 : Int) = ((4 : Nat) : Int) from rfl, num_and _ _ _ _ 4 (by omega) (by decide)]; cases bW <;> rfl
  have a5 : bits .and .i32 (Mx.num ⟨false, bW, true, kk⟩) 5 = 4 := by rw [show (5 : Int) = ((5 : Nat) : Int) from rfl, num_and _ _ _ _ 5 (by omega) (by decide)]; cases bW <;> rfl
  have p8 : IntKind.i32.wrap (Mx.num ⟨false, bW, true, kk⟩ + 8) = Mx.num ⟨false, bW, true, kk + 1⟩ := num_add8 _ _ _ _ (by omega)
  have en : nw { pc := .c2, old := ⟨false, bW, true, kk⟩, aw := false, sv := false, it := it, job := job, blk := blk } = ⟨false, bW, true, kk + 1⟩ := by simp [nw]
  refine ⟨120 + 200, fun j1 j7 j8 j9 j10 j11 j12 j13 j14 j15 j16 j17 j18 j19 j20 j21 j22 j23 j24 j25 j26 j27 j28 j29 j30 j31 j32 j33 j34 j35 j36 j37 j38 j39 j40 j41 j42 j43 j44 j45 j46 j47 j48 j49 j50 j51 j52 j53 j54 j55 j56 j57 j58 j59 j60 j61 j62 j63 j64 j65 j66 j67 j68 j69 j70 j71 j72 j73 j74 j75 j76 j77 j78 j79 j80 j81 j82 j83 j84 j85 j86 j87 j88 j89 j90 j91 j92 j93 j94 j95 j96 j97 j98 j99 j100 j101 j102 j103 j104 j105 j106 j107 j108 j109 j110 j111 j112 j113 j114 j115 j116 j117 j118 j119 j120 j121 j122 j123 j124 j125 j126 j127 j128 j129 j130 j131 j132 j133 j134 j135 j136 j137 j138 w hF => goW0 (n := 120) (m := 200) ?_⟩
  rw [restb_eq]
  generalize hR11 : R11 = XR11
  generalize hC12 : C12 = XC12
  generalize hC14 : C14 = XC14
  generalize hC16 : C16 = XC16
  generalize hC18 : C18 = XC18
  generalize hR22 : R22 = XR22
  simp only [R11, C12, C14, C16, C18, R22, firstOf, elseOf, Q27, Q29, XX47, RESTB47, LL47, rights, thenOf, behindFirst, body47, findLoop, Try.f47, Option.getD_some] at hR11 hC12 hC14 hC16 hC18 hR22
  subst hR11
  subst hC12
  subst hC14
  subst hC16
  subst hC18
  subst hR22
  repeat w_go KnS.rely
  -- STOP c2
  refine Goes.stop (fun _ r₁ => ?_)
  replace hF := KnS.rely hF r₁
  clear r₁
  refine Goes.stop (fun _ r₁ => ?_)
  replace hF := KnS.rely hF r₁
  clear r₁
  rcases k with _ | k
  · exact Fam.zero (K := K) _ _ _ _
  refine Fam.succ (K := K) (A := A) ?_
  refine ⟨rfl, rfl, by simp, by simp, by simp, by simp, fun _ s hs hfit _ cs hcs => ?_⟩
  obtain ⟨mu, ms, vv, wt, ws⟩ := s
  by_cases hm : mu = ⟨false, bW, true, kk⟩
  · subst hm
    by_cases hz : wst = 0
    · subst hz
      refine ⟨_, _, .mu (.c2q .t1 rfl rfl rfl (.inl rfl)), _, _, _, stepG_cas_hit rfl rfl (by k_ne) rfl Try.func46 x46_n x46_b x46_x .i32 x46_f rfl rfl rfl hs.1.cellSt (hs.1.thaw 0), (by rw [en]; exact hs.setMu _), EffB.of (Eff.set _ _ (.inl rfl)), evw_book (by simp) (by simp) (by simp) (by simp) rfl rfl (book_rw 0 (muA K.Mu) (.inl rfl)), ?_⟩
      refine afterW_go (by simp) (by simp) (40 + 200) ?_
      refine goW0 (n := 40) (m := 200) ?_
      replace hF := hF.eff (EffB.of (Eff.set (muA K.Mu) (.int .i32 (Mx.num ⟨false, bW, true, kk + 1⟩)) (.inl rfl))) (hs.setMu ⟨false, bW, true, kk + 1⟩)
      walk_nrm
      rw [xx_eq]
      generalize hC23 : C23 = XC23
      generalize hR24 : R24 = XR24
      generalize hC25 : C25 = XC25
      simp only [C23, R24, C25, firstOf, elseOf, Q27, Q29, XX47, RESTB47, LL47, rights, thenOf, behindFirst, body47, findLoop, Try.f47, Option.getD_some] at hC23 hR24 hC25
      subst hC23
      subst hR24
      subst hC25
      repeat w_go KnS.rely
      -- STOP t1: THE CLOCK
      refine Goes.stop (fun _ r₁ => ?_)
      replace hF := KnS.rely hF r₁
      clear r₁
      refine Goes.stop (fun w₂ r₂ => ?_)
      replace hF := KnS.rely hF r₂
      clear r₂
      rcases k with _ | k
      · exact Fam.zero (K := K) _ _ _ _
      refine Fam.succ (K := K) (A := A) ?_
      refine ⟨rfl, rfl, by simp, by simp, by simp, by simp, fun _ s hs hfit _ cs hcs => ⟨_, s, .mu (.t1 rfl), _, _, _, stepG_nanotime rfl rfl (by k_ne) rfl Try.func58 x58_n x58_b x58_x x58_f x58_q, hs.later, EffB.of (Eff.later _), evw_book (by simp) (by simp) (by simp) (by simp) rfl rfl (book_nil 1), ?_⟩⟩
      replace hF := hF.eff (EffB.of (Eff.later w₂)) hs.later
      generalize ((w₂.os.mono + w₂.tick : Nat) : Int) = tw
      obtain ⟨mR, hR⟩ := s1Go hT v k (fun k' hk => ih k' (by omega)) ⟨false, bW, true, kk⟩ false false it tw
      refine afterW_go (by simp) (by simp) (40 + mR) ?_
      refine goW0 (n := 40) (m := mR) ?_
      walk_nrm
      repeat w_go KnS.rely
      refine Goes.stop (fun _ r₁ => ?_)
      replace hF := KnS.rely hF r₁
      clear r₁
      exact hR _ _ _ _ _ _ _ _ _ _ _ _ _ _ _ _ _ _ _ _ _ _ _ _ _ _ _ _ _ _ _ _ _ _ _ _ _ _ _ _ _ _ _ _ _ _ _ _ _ _ _ _ _ _ _ _ _ _ _ _ _ _ _ _ _ _ _ _ _ _ _ _ _ _ _ _ _ _ _ _ _ _ _ _ _ _ _ _ _ _ _ _ _ _ _ _ _ _ _ _ _ _ _ _ _ _ _ _ _ _ _ _ _ _ _ _ _ _ _ _ _ _ _ _ _ _ _ _ _ _ _ _ _ _ _ _ _ hF
    · have z1 : (wst == 0) = false := by simpa using hz
      have z2 : (wst != 0) = true := by simpa using hz
      refine ⟨_, _, .mu (.c2q .s1 rfl rfl rfl (.inr rfl)), _, _, _, stepG_cas_hit rfl rfl (by k_ne) rfl Try.func46 x46_n x46_b x46_x .i32 x46_f rfl rfl rfl hs.1.cellSt (hs.1.thaw 0), (by rw [en]; exact hs.setMu _), EffB.of (Eff.set _ _ (.inl rfl)), evw_book (by simp) (by simp) (by simp) (by simp) rfl rfl (book_rw 0 (muA K.Mu) (.inl rfl)), ?_⟩
      obtain ⟨mR, hR⟩ := s1Go hT v k (fun k' hk => ih k' (by omega)) ⟨false, bW, true, kk⟩ false false it wst
      refine afterW_go (by simp) (by simp) (40 + mR) ?_
      refine goW0 (n := 40) (m := mR) ?_
      replace hF := hF.eff (EffB.of (Eff.set (muA K.Mu) (.int .i32 (Mx.num ⟨false, bW, true, kk + 1⟩)) (.inl rfl))) (hs.setMu ⟨false, bW, true, kk + 1⟩)
      walk_nrm
      rw [xx_eq]
      generalize hC23 : C23 = XC23
      generalize hR24 : R24 = XR24
      generalize hC25 : C25 = XC25
      simp only [C23, R24, C25, firstOf, elseOf, Q27, Q29, XX47, RESTB47, LL47, rights, thenOf, behindFirst, body47, findLoop, Try.f47, Option.getD_some] at hC23 hR24 hC25
      subst hC23
      subst hR24
      subst hC25
      repeat w_go KnS.rely
      refine Goes.stop (fun _ r₁ => ?_)
      replace hF := KnS.rely hF r₁
      clear r₁
      exact hR _ _ _ _ _ _ _ _ _ _ _ _ _ _ _ _ _ _ _ _ _ _ _ _ _ _ _ _ _ _ _ _ _ _ _ _ _ _ _ _ _ _ _ _ _ _ _ _ _ _ _ _ _ _ _ _ _ _ _ _ _ _ _ _ _ _ _ _ _ _ _ _ _ _ _ _ _ _ _ _ _ _ _ _ _ _ _ _ _ _ _ _ _ _ _ _ _ _ _ _ _ _ _ _ _ _ _ _ _ _ _ _ _ _ _ _ _ _ _ _ _ _ _ _ _ _ _ _ _ _ _ _ _ _ _ _ _ hF
  · -- IT MISSED
    refine ⟨_, _, .mu (.c2m rfl hm), _, _, _, stepG_cas_miss rfl rfl (by k_ne) rfl Try.func46 x46_n x46_b x46_x .i32 x46_f rfl rfl rfl hs.1.cellSt (hs.1.thaw 0) (num_ne hm), hs, EffB.of (Eff.refl _), evw_book (by simp) (by simp) (by simp) (by simp) rfl rfl (book_one 0 (muA K.Mu) false (.inl rfl)), ?_⟩
    refine afterW_go (by simp) (by simp) (40 + 200) ?_
    refine goW0 (n := 40) (m := 200) ?_
    walk_nrm
    generalize hR39 : R39 = XR39
    simp only [R39, firstOf, elseOf, Q27, Q29, XX47, RESTB47, LL47, rights, thenOf, behindFirst, body47, findLoop, Try.f47, Option.getD_some] at hR39
    subst hR39
    repeat w_go KnS.rely
    -- STOP r3
    refine Goes.stop (fun _ r₁ => ?_)
    replace hF := KnS.rely hF r₁
    clear r₁
    refine Goes.stop (fun _ r₁ => ?_)
    replace hF := KnS.rely hF r₁
    clear r₁
    rcases k with _ | k
    · exact Fam.zero (K := K) _ _ _ _
    refine Fam.succ (K := K) (A := A) ?_
    refine ⟨rfl, rfl, by simp, by simp, by simp, by simp, fun _ s hs hfit _ cs hcs => ⟨_, _, .mu (.r3 rfl), _, _, _, stepG_loadQ rfl rfl (by k_ne) rfl rfl hs.1.cellSt q47, hs, EffB.of (Eff.refl _), evw_book (by simp) (by simp) (by simp) (by simp) rfl (hd_deaf _).2.2 (book_nil 1), ?_⟩⟩
    obtain ⟨mH, hH⟩ := ih k (by omega) { pc := .r3, old := s.mu, aw := false, sv := false, it := it, job := job, blk := blk } wst ⟨fun h => hfit.ha h rfl, by simp, hit, hfit.k, rfl, rfl⟩
    refine afterW_go (by simp) (hd_deaf _).1 (40 + mH) ?_
    refine goW0 (n := 40) (m := mH) ?_
    walk_nrm
    repeat w_nl KnS.rely
    u_c stepG_inLoop KnS.rely hF
    refine Goes.stop (fun _ r₁ => ?_)
    replace hF := KnS.rely hF r₁
    clear r₁
    exact hH _ _ _ _ _ _ _ _ _ _ _ _ _ _ _ _ _ _ _ _ _ _ _ _ _ _ _ _ _ _ _ _ _ _ _ _ _ _ _ _ _ _ _ _ _ _ _ _ _ _ _ _ _ _ _ _ _ _ _ _ _ _ _ _ _ _ _ _ _ _ _ _ _ _ _ _ _ _ _ _ _ _ _ _ _ _ _ _ _ _ _ _ _ _ _ _ _ _ _ _ _ _ _ _ _ _ _ _ _ _ _ _ _ _ _ _ _ _ _ _ _ _ _ _ _ _ _ _ _ _ _ _ _ _ hF
end
end Go.Proofs.Ytapjmifhhbpikaa

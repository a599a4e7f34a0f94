/- Gangs within gangs: The gang: lockSlow: the loop's head. (Printed by gen_gl.py.) -/
import Derived.Test.YtapjmifhhbpikaaXl4a
import Derived.Test.YtapjmifhhbpikaaXl4b
import Derived.Test.YtapjmifhhbpikaaXl4c
import Derived.Test.YtapjmifhhbpikaaXl4d
import Derived.Test.YtapjmifhhbpikaaXl4e
import Derived.Test.YtapjmifhhbpikaaXl4f
set_option linter.unusedVariables false
set_option linter.unusedSectionVars false
set_option linter.unusedSimpArgs false
namespace Go.Proofs.Ytapjmifhhbpikaa
open Go.Conc Go.ConcN Go.ConcM Go.RowKit Go.Conc.Lib Go.ConcR.Gen
open Go.ConcR (KK wgBlock WgAt stA smA rd wr mk)
noncomputable def R5 : Code := firstOf (rights 0 (match LL47 with | .block _ (.seq x _) => x | c => c))
set_option maxRecDepth 100000 in
theorem ll_eq : LL47 = .block 1 (.seq (.seq R5 (.cond (.tmp 20) SPIN .skip)) RESTB47) := by
  simp only [R5, SPIN, firstOf, elseOf, Q27, Q29, XX47, RESTB47, LL47, rights, thenOf, behindFirst, body47, findLoop, Try.f47, Option.getD_some]
set_option maxRecDepth 100000 in
theorem spin_eq : SPIN = .seq R6 SP8 := by
  simp only [R6, SP8, SPIN, firstOf, elseOf, Q27, Q29, XX47, RESTB47, LL47, rights, thenOf, behindFirst, body47, findLoop, Try.f47, Option.getD_some]
section
variable {A : Nat → Th → Array Value → Goroutine → World → Prop} {K : Band} [Fam K A] {W : Snap} {b₁ : Frame} {a₁ : Act} {ops₁ : Array Oper} {i₁ : Nat} {rest₁ : List Nat} {k₁ : List Item} {cs₁ : List Frame} {job : Nat} {blk : List Nat} [Own W blk]
theorem restGo (hT : LockK A K W b₁ a₁ ops₁ i₁ rest₁ k₁ cs₁ job blk) (v : Array Value) (k : Nat) (ih : ∀ k', k' < k → ∀ (T : Th) (wst : Int), Vd T job blk → HeadAt A K W b₁ a₁ ops₁ i₁ rest₁ k₁ cs₁ v k' T wst) (L bW S : Bool) (kk : Nat) (hkk : kk < 1000) (aw sv : Bool) (it : Nat) (hit : it ≤ 4) (wst : Int) (haw : aw = true → bW = true ∧ S = false) (hsv : sv = true → aw = true) :
    RestAt A K W b₁ a₁ ops₁ i₁ rest₁ k₁ cs₁ v k { pc := .c2, old := ⟨L, bW, S, kk⟩, aw := aw, sv := sv, it := it, job := job, blk := blk } wst := by
  cases aw with
  | false =>
    have : sv = false := by cases sv; rfl; exact absurd (hsv rfl) (by simp)
    subst this
    cases L <;> cases S
    · exact c2_00ff hT v k ih bW kk hkk it hit wst
    · exact c2_01ff hT v k ih bW kk hkk it hit wst
    · exact c2_10ff hT v k ih bW kk hkk it hit wst
    · exact c2_11ff hT v k ih bW kk hkk it hit wst
  | true =>
    obtain ⟨rfl, rfl⟩ := haw rfl
    cases L <;> cases sv
    · exact c2_00tf hT v k ih kk hkk it hit wst
    · exact c2_00tt hT v k ih kk hkk it hit wst
    · exact c2_10tf hT v k ih kk hkk it hit wst
    · exact c2_10tt hT v k ih kk hkk it hit wst
set_option maxRecDepth 100000 in
set_option maxHeartbeats 16000000 in
/-- The head where it doesn't spin. -/
theorem headOut (v : Array Value) (k : Nat) (pc : Pc) (L bW S : Bool) (kk : Nat) (hkk : kk < 1000) (hLS : (L && !S) = false) (aw sv : Bool) (it : Nat) (wst : Int) (hR : RestAt A K W b₁ a₁ ops₁ i₁ rest₁ k₁ cs₁ v k { pc := .c2, old := ⟨L, bW, S, kk⟩, aw := aw, sv := sv, it := it, job := job, blk := blk } wst) :
    HeadAt A K W b₁ a₁ ops₁ i₁ rest₁ k₁ cs₁ v k { pc := pc, old := ⟨L, bW, S, kk⟩, aw := aw, sv := sv, it := it, job := job, blk := blk } wst := by
  have _u : Fam K A := inferInstance
  have e : hd { pc := pc, old := ⟨L, bW, S, kk⟩, aw := aw, sv := sv, it := it, job := job, blk := blk } = { pc := .c2, old := ⟨L, bW, S, kk⟩, aw := aw, sv := sv, it := it, job := job, blk := blk } := by simp [hd, hLS]
  unfold HeadAt
  rw [e]
  obtain ⟨mR, hR⟩ := hR
  have a5 : (bits .and .i32 (Mx.num ⟨L, bW, S, kk⟩) 5 == 1) = false := by
    rw [show (5 : Int) = ((5 : Nat) : Int) from rfl, num_and _ _ _ _ 5 (by omega) (by decide)]
    cases L <;> cases bW <;> cases S <;> first | rfl | (exact absurd hLS (by decide))
  refine ⟨40 + mR, fun j1 j7 j8 j9 j10 j11 j12 j13 j14 j15 j16 j17 j18 j19 j20 j21 j22 j23 j24 j25 j26 j27 j28 j29 j30 j31 j32 j33 j34 j35 j36 j37 j38 j39 j40 j41 j42 j43 j44 j45 j46 j47 j48 j49 j50 j51 j52 j53 j54 j55 j56 j57 j58 j59 j60 j61 j62 j63 j64 j65 j66 j67 j68 j69 j70 j71 j72 j73 j74 j75 j76 j77 j78 j79 j80 j81 j82 j83 j84 j85 j86 j87 j88 j89 j90 j91 j92 j93 j94 j95 j96 j97 j98 j99 j100 j101 j102 j103 j104 j105 j106 j107 j108 j109 j110 j111 j112 j113 j114 j115 j116 j117 j118 j119 j120 j121 j122 j123 j124 j125 j126 j127 j128 j129 j130 j131 j132 j133 j134 j135 j136 j137 j138 w hF => goW0 (n := 40) (m := mR) ?_⟩
  have e2 : Item.code LL47 = Item.code (.block 1 (.seq (.seq R5 (.cond (.tmp 20) SPIN .skip)) RESTB47)) := by rw [← ll_eq]
  rw [e2]
  clear e2
  generalize hR5 : R5 = XR5
  simp only [R5, firstOf, elseOf, Q27, Q29, XX47, RESTB47, LL47, rights, thenOf, behindFirst, body47, findLoop, Try.f47, Option.getD_some] at hR5
  subst hR5
  repeat w_go KnS.rely
  refine Goes.stop (fun _ r₁ => ?_)
  replace hF := KnS.rely hF r₁
  clear r₁
  exact hR _ _ _ _ _ _ _ _ _ _ _ _ _ _ _ _ _ _ _ _ _ _ _ _ _ _ _ _ _ _ _ _ _ _ _ _ _ _ _ _ _ _ _ _ _ _ _ _ _ _ _ _ _ _ _ _ _ _ _ _ _ _ _ _ _ _ _ _ _ _ _ _ _ _ _ _ _ _ _ _ _ _ _ _ _ _ _ _ _ _ _ _ _ _ _ _ _ _ _ _ _ _ _ _ _ _ _ _ _ _ _ _ _ _ _ _ _ _ _ _ _ _ _ _ _ _ _ _ _ _ _ _ _ _ hF
set_option maxRecDepth 100000 in
set_option maxHeartbeats 32000000 in
/-- The head where it may spin. -/
theorem headSpin (hT : LockK A K W b₁ a₁ ops₁ i₁ rest₁ k₁ cs₁ job blk) (v : Array Value) (k : Nat) (ih : ∀ k', k' < k → ∀ (T : Th) (wst : Int), Vd T job blk → HeadAt A K W b₁ a₁ ops₁ i₁ rest₁ k₁ cs₁ v k' T wst) (pc : Pc) (bW : Bool) (kk : Nat) (hkk : kk < 1000) (aw sv : Bool) (it : Nat) (hit : it ≤ 4) (wst : Int) (haw : aw = true → bW = true) (hsv : sv = true → aw = true) :
    HeadAt A K W b₁ a₁ ops₁ i₁ rest₁ k₁ cs₁ v k { pc := pc, old := ⟨true, bW, false, kk⟩, aw := aw, sv := sv, it := it, job := job, blk := blk } wst := by
  have e : hd { pc := pc, old := ⟨true, bW, false, kk⟩, aw := aw, sv := sv, it := it, job := job, blk := blk } = { pc := .sq, old := ⟨true, bW, false, kk⟩, aw := aw, sv := sv, it := it, job := job, blk := blk } := by simp [hd]
  unfold HeadAt
  rw [e]
  have a5 : bits .and .i32 (Mx.num ⟨true, bW, false, kk⟩) 5 = 1 := by rw [show (5 : Int) = ((5 : Nat) : Int) from rfl, num_and _ _ _ _ 5 (by omega) (by decide)]; cases bW <;> rfl
  refine ⟨60 + 200, fun j1 j7 j8 j9 j10 j11 j12 j13 j14 j15 j16 j17 j18 j19 j20 j21 j22 j23 j24 j25 j26 j27 j28 j29 j30 j31 j32 j33 j34 j35 j36 j37 j38 j39 j40 j41 j42 j43 j44 j45 j46 j47 j48 j49 j50 j51 j52 j53 j54 j55 j56 j57 j58 j59 j60 j61 j62 j63 j64 j65 j66 j67 j68 j69 j70 j71 j72 j73 j74 j75 j76 j77 j78 j79 j80 j81 j82 j83 j84 j85 j86 j87 j88 j89 j90 j91 j92 j93 j94 j95 j96 j97 j98 j99 j100 j101 j102 j103 j104 j105 j106 j107 j108 j109 j110 j111 j112 j113 j114 j115 j116 j117 j118 j119 j120 j121 j122 j123 j124 j125 j126 j127 j128 j129 j130 j131 j132 j133 j134 j135 j136 j137 j138 w hF => goW0 (n := 60) (m := 200) ?_⟩
  have e2 : Item.code LL47 = Item.code (.block 1 (.seq (.seq R5 (.cond (.tmp 20) SPIN .skip)) RESTB47)) := by rw [← ll_eq]
  rw [e2]
  clear e2
  generalize hR5 : R5 = XR5
  simp only [R5, firstOf, elseOf, Q27, Q29, XX47, RESTB47, LL47, rights, thenOf, behindFirst, body47, findLoop, Try.f47, Option.getD_some] at hR5
  subst hR5
  repeat w_go KnS.rely
  -- STOP sq
  refine Goes.stop (fun _ r₁ => ?_)
  replace hF := KnS.rely hF r₁
  clear r₁
  refine Goes.stop (fun w₀ r₀ => ?_)
  replace hF := KnS.rely hF r₀
  clear r₀
  rcases k with _ | k
  · exact Fam.zero (K := K) _ _ _ _
  refine Fam.succ (K := K) (A := A) ?_
  refine ⟨rfl, rfl, by simp, by simp, by simp, by simp, fun _ s hs hfit _ cs hcs => ?_⟩
  have a2 : bits .and .i32 (Mx.num ⟨true, bW, false, kk⟩) 2 = (if bW then 2 else 0) := by rw [show (2 : Int) = ((2 : Nat) : Int) from rfl, num_and _ _ _ _ 2 (by omega) (by decide)]; cases bW <;> rfl
  have sh : Mx.num ⟨true, bW, false, kk⟩ / 8 = (kk : Int) := num_shr _ _ _ _
  have o2 : bits .or .i32 (Mx.num ⟨true, false, false, kk⟩) 2 = Mx.num ⟨true, true, false, kk⟩ := num_or2 _ _ _ _ (by omega)
  by_cases h4 : it < 4
  · rcases hsp : w₀.spins with _ | _
    · refine ⟨_, s, .mu (.sqn rfl), _, _, _, stepG_canSpin_ask rfl rfl (by k_ne) rfl Try.func55 x55_n x55_b x55_x x55_f (k := .i64) (n := (it : Int)) (by simp [Act.eval]) (by omega), hs.asked, EffB.of (Eff.asked _), evw_book (by simp) (by simp) (by simp) (by simp) rfl rfl (book_nil 1), ?_⟩
      replace hF := hF.eff (EffB.of (Eff.asked w₀)) hs.asked
      rw [hsp]
      obtain ⟨mR, hR⟩ := restGo hT v k (fun k' hk => ih k' (by omega)) true bW false kk hkk aw sv it hit wst (fun h => ⟨haw h, rfl⟩) hsv
      refine afterW_go (by simp) (by simp) (40 + mR) ?_
      refine goW0 (n := 40) (m := mR) ?_
      walk_nrm
      repeat w_go KnS.rely
      refine Goes.stop (fun _ r₁ => ?_)
      replace hF := KnS.rely hF r₁
      clear r₁
      exact hR _ _ _ _ _ _ _ _ _ _ _ _ _ _ _ _ _ _ _ _ _ _ _ _ _ _ _ _ _ _ _ _ _ _ _ _ _ _ _ _ _ _ _ _ _ _ _ _ _ _ _ _ _ _ _ _ _ _ _ _ _ _ _ _ _ _ _ _ _ _ _ _ _ _ _ _ _ _ _ _ _ _ _ _ _ _ _ _ _ _ _ _ _ _ _ _ _ _ _ _ _ _ _ _ _ _ _ _ _ _ _ _ _ _ _ _ _ _ _ _ _ _ _ _ _ _ _ _ _ _ _ _ _ _ hF
    · cases aw with
      | true =>
        obtain rfl := haw rfl
        refine ⟨_, s, .mu (.sqr rfl h4), _, _, _, stepG_canSpin_ask rfl rfl (by k_ne) rfl Try.func55 x55_n x55_b x55_x x55_f (k := .i64) (n := (it : Int)) (by simp [Act.eval]) (by omega), hs.asked, EffB.of (Eff.asked _), evw_book (by simp) (by simp) (by simp) (by simp) rfl rfl (book_nil 1), ?_⟩
        replace hF := hF.eff (EffB.of (Eff.asked w₀)) hs.asked
        rw [hsp]
        obtain ⟨mR, hR⟩ := r1Go v k (fun k' hk => ih k' (by omega)) ⟨true, true, false, kk⟩ true sv it wst hit hsv
        refine afterW_go (by simp) (by simp) (60 + mR) ?_
        refine goW0 (n := 60) (m := mR) ?_
        walk_nrm
        repeat w_go KnS.rely
        rw [spin_eq]
        generalize hR6 : R6 = XR6
        simp only [R6, SPIN, firstOf, elseOf, Q27, Q29, XX47, RESTB47, LL47, rights, thenOf, behindFirst, body47, findLoop, Try.f47, Option.getD_some] at hR6
        subst hR6
        repeat w_go KnS.rely
        refine Goes.stop (fun _ r₁ => ?_)
        replace hF := KnS.rely hF r₁
        clear r₁
        exact hR _ _ _ _ _ _ _ _ _ _ _ _ _ _ _ _ _ _ _ _ _ _ _ _ _ _ _ _ _ _ _ _ _ _ _ _ _ _ _ _ _ _ _ _ _ _ _ _ _ _ _ _ _ _ _ _ _ _ _ _ _ _ _ _ _ _ _ _ _ _ _ _ _ _ _ _ _ _ _ _ _ _ _ _ _ _ _ _ _ _ _ _ _ _ _ _ _ _ _ _ _ _ _ _ _ _ _ _ _ _ _ _ _ _ _ _ _ _ _ _ _ _ _ _ _ _ _ _ _ _ _ _ _ _ _ hF
      | false =>
        have : sv = false := by cases sv; rfl; exact absurd (hsv rfl) (by simp)
        subst this
        cases bW with
        | true =>
          refine ⟨_, s, .mu (.sqr rfl h4), _, _, _, stepG_canSpin_ask rfl rfl (by k_ne) rfl Try.func55 x55_n x55_b x55_x x55_f (k := .i64) (n := (it : Int)) (by simp [Act.eval]) (by omega), hs.asked, EffB.of (Eff.asked _), evw_book (by simp) (by simp) (by simp) (by simp) rfl rfl (book_nil 1), ?_⟩
          replace hF := hF.eff (EffB.of (Eff.asked w₀)) hs.asked
          rw [hsp]
          obtain ⟨mR, hR⟩ := r1Go v k (fun k' hk => ih k' (by omega)) ⟨true, true, false, kk⟩ false false it wst hit (by simp)
          refine afterW_go (by simp) (by simp) (60 + mR) ?_
          refine goW0 (n := 60) (m := mR) ?_
          walk_nrm
          repeat w_go KnS.rely
          rw [spin_eq]
          generalize hR6 : R6 = XR6
          simp only [R6, SPIN, firstOf, elseOf, Q27, Q29, XX47, RESTB47, LL47, rights, thenOf, behindFirst, body47, findLoop, Try.f47, Option.getD_some] at hR6
          subst hR6
          repeat w_go KnS.rely
          refine Goes.stop (fun _ r₁ => ?_)
          replace hF := KnS.rely hF r₁
          clear r₁
          exact hR _ _ _ _ _ _ _ _ _ _ _ _ _ _ _ _ _ _ _ _ _ _ _ _ _ _ _ _ _ _ _ _ _ _ _ _ _ _ _ _ _ _ _ _ _ _ _ _ _ _ _ _ _ _ _ _ _ _ _ _ _ _ _ _ _ _ _ _ _ _ _ _ _ _ _ _ _ _ _ _ _ _ _ _ _ _ _ _ _ _ _ _ _ _ _ _ _ _ _ _ _ _ _ _ _ _ _ _ _ _ _ _ _ _ _ _ _ _ _ _ _ _ _ _ _ _ _ _ _ _ _ _ _ _ _ hF
        | false =>
          by_cases hk0 : kk = 0
          · subst hk0
            refine ⟨_, s, .mu (.sqr rfl h4), _, _, _, stepG_canSpin_ask rfl rfl (by k_ne) rfl Try.func55 x55_n x55_b x55_x x55_f (k := .i64) (n := (it : Int)) (by simp [Act.eval]) (by omega), hs.asked, EffB.of (Eff.asked _), evw_book (by simp) (by simp) (by simp) (by simp) rfl rfl (book_nil 1), ?_⟩
            replace hF := hF.eff (EffB.of (Eff.asked w₀)) hs.asked
            rw [hsp]
            obtain ⟨mR, hR⟩ := r1Go v k (fun k' hk => ih k' (by omega)) ⟨true, false, false, 0⟩ false false it wst hit (by simp)
            refine afterW_go (by simp) (by simp) (60 + mR) ?_
            refine goW0 (n := 60) (m := mR) ?_
            walk_nrm
            repeat w_go KnS.rely
            rw [spin_eq]
            generalize hR6 : R6 = XR6
            simp only [R6, SPIN, firstOf, elseOf, Q27, Q29, XX47, RESTB47, LL47, rights, thenOf, behindFirst, body47, findLoop, Try.f47, Option.getD_some] at hR6
            subst hR6
            repeat w_go KnS.rely
            refine Goes.stop (fun _ r₁ => ?_)
            replace hF := KnS.rely hF r₁
            clear r₁
            exact hR _ _ _ _ _ _ _ _ _ _ _ _ _ _ _ _ _ _ _ _ _ _ _ _ _ _ _ _ _ _ _ _ _ _ _ _ _ _ _ _ _ _ _ _ _ _ _ _ _ _ _ _ _ _ _ _ _ _ _ _ _ _ _ _ _ _ _ _ _ _ _ _ _ _ _ _ _ _ _ _ _ _ _ _ _ _ _ _ _ _ _ _ _ _ _ _ _ _ _ _ _ _ _ _ _ _ _ _ _ _ _ _ _ _ _ _ _ _ _ _ _ _ _ _ _ _ _ _ _ _ _ _ _ _ _ hF
          · have k1 : ((kk : Int) == 0) = false := by simp; omega
            have k2 : ((kk : Int) != 0) = true := by simp; omega
            refine ⟨_, s, .mu (.sqc rfl h4 rfl rfl hk0), _, _, _, stepG_canSpin_ask rfl rfl (by k_ne) rfl Try.func55 x55_n x55_b x55_x x55_f (k := .i64) (n := (it : Int)) (by simp [Act.eval]) (by omega), hs.asked, EffB.of (Eff.asked _), evw_book (by simp) (by simp) (by simp) (by simp) rfl rfl (book_nil 1), ?_⟩
            replace hF := hF.eff (EffB.of (Eff.asked w₀)) hs.asked
            rw [hsp]
            refine afterW_go (by simp) (by simp) (60 + 200) ?_
            refine goW0 (n := 60) (m := 200) ?_
            walk_nrm
            repeat w_go KnS.rely
            rw [spin_eq]
            generalize hR6 : R6 = XR6
            simp only [R6, SPIN, firstOf, elseOf, Q27, Q29, XX47, RESTB47, LL47, rights, thenOf, behindFirst, body47, findLoop, Try.f47, Option.getD_some] at hR6
            subst hR6
            repeat w_go KnS.rely
            -- STOP c1
            refine Goes.stop (fun _ r₁ => ?_)
            replace hF := KnS.rely hF r₁
            clear r₁
            refine Goes.stop (fun _ r₁ => ?_)
            replace hF := KnS.rely hF r₁
            clear r₁
            rcases k with _ | k
            · exact Fam.zero (K := K) _ _ _ _
            refine Fam.succ (K := K) (A := A) ?_
            refine ⟨rfl, rfl, by simp, by simp, by simp, by simp, fun _ s hs hfit _ cs hcs => ?_⟩
            obtain ⟨mu, ms, vv, wt, ws⟩ := s
            by_cases hm : mu = ⟨true, false, false, kk⟩
            · subst hm
              refine ⟨_, _, .mu (.c1h rfl rfl), _, _, _, stepG_cas_hit rfl rfl (by k_ne) rfl Try.func46 x46_n x46_b x46_x .i32 x46_f rfl rfl rfl hs.1.cellSt (hs.1.thaw 0), hs.setMu ⟨true, true, false, kk⟩, EffB.of (Eff.set _ _ (.inl rfl)), evw_book (by simp) (by simp) (by simp) (by simp) rfl rfl (book_rw 0 (muA K.Mu) (.inl rfl)), ?_⟩
              replace hF := hF.eff (EffB.of (Eff.set (muA K.Mu) (.int .i32 (Mx.num ⟨true, true, false, kk⟩)) (.inl rfl))) (hs.setMu ⟨true, true, false, kk⟩)
              obtain ⟨mR, hR⟩ := r1Go v k (fun k' hk => ih k' (by omega)) ⟨true, false, false, kk⟩ true false it wst hit (by simp)
              refine afterW_go (by simp) (by simp) (60 + mR) ?_
              refine goW0 (n := 60) (m := mR) ?_
              walk_nrm
              repeat w_go KnS.rely
              refine Goes.stop (fun _ r₁ => ?_)
              replace hF := KnS.rely hF r₁
              clear r₁
              exact hR _ _ _ _ _ _ _ _ _ _ _ _ _ _ _ _ _ _ _ _ _ _ _ _ _ _ _ _ _ _ _ _ _ _ _ _ _ _ _ _ _ _ _ _ _ _ _ _ _ _ _ _ _ _ _ _ _ _ _ _ _ _ _ _ _ _ _ _ _ _ _ _ _ _ _ _ _ _ _ _ _ _ _ _ _ _ _ _ _ _ _ _ _ _ _ _ _ _ _ _ _ _ _ _ _ _ _ _ _ _ _ _ _ _ _ _ _ _ _ _ _ _ _ _ _ _ _ _ _ _ _ _ _ _ _ hF
            · refine ⟨_, _, .mu (.c1m rfl hm), _, _, _, stepG_cas_miss rfl rfl (by k_ne) rfl Try.func46 x46_n x46_b x46_x .i32 x46_f rfl rfl rfl hs.1.cellSt (hs.1.thaw 0) (num_ne hm), hs, EffB.of (Eff.refl _), evw_book (by simp) (by simp) (by simp) (by simp) rfl rfl (book_one 0 (muA K.Mu) false (.inl rfl)), ?_⟩
              obtain ⟨mR, hR⟩ := r1Go v k (fun k' hk => ih k' (by omega)) ⟨true, false, false, kk⟩ false false it wst hit (by simp)
              refine afterW_go (by simp) (by simp) (60 + mR) ?_
              refine goW0 (n := 60) (m := mR) ?_
              walk_nrm
              repeat w_go KnS.rely
              refine Goes.stop (fun _ r₁ => ?_)
              replace hF := KnS.rely hF r₁
              clear r₁
              exact hR _ _ _ _ _ _ _ _ _ _ _ _ _ _ _ _ _ _ _ _ _ _ _ _ _ _ _ _ _ _ _ _ _ _ _ _ _ _ _ _ _ _ _ _ _ _ _ _ _ _ _ _ _ _ _ _ _ _ _ _ _ _ _ _ _ _ _ _ _ _ _ _ _ _ _ _ _ _ _ _ _ _ _ _ _ _ _ _ _ _ _ _ _ _ _ _ _ _ _ _ _ _ _ _ _ _ _ _ _ _ _ _ _ _ _ _ _ _ _ _ _ _ _ _ _ _ _ _ _ _ _ _ _ _ _ hF
  · refine ⟨_, s, .mu (.sqn rfl), _, _, _, stepG_canSpin_no rfl rfl (by k_ne) rfl Try.func55 x55_n x55_b x55_x x55_f (k := .i64) (n := (it : Int)) (by simp [Act.eval]) (by omega), hs, EffB.of (Eff.refl _), evw_book (by simp) (by simp) (by simp) (by simp) rfl rfl (book_nil 1), ?_⟩
    obtain ⟨mR, hR⟩ := restGo hT v k (fun k' hk => ih k' (by omega)) true bW false kk hkk aw sv it hit wst (fun h => ⟨haw h, rfl⟩) hsv
    refine afterW_go (by simp) (by simp) (40 + mR) ?_
    refine goW0 (n := 40) (m := mR) ?_
    walk_nrm
    repeat w_go KnS.rely
    refine Goes.stop (fun _ r₁ => ?_)
    replace hF := KnS.rely hF r₁
    clear r₁
    exact hR _ _ _ _ _ _ _ _ _ _ _ _ _ _ _ _ _ _ _ _ _ _ _ _ _ _ _ _ _ _ _ _ _ _ _ _ _ _ _ _ _ _ _ _ _ _ _ _ _ _ _ _ _ _ _ _ _ _ _ _ _ _ _ _ _ _ _ _ _ _ _ _ _ _ _ _ _ _ _ _ _ _ _ _ _ _ _ _ _ _ _ _ _ _ _ _ _ _ _ _ _ _ _ _ _ _ _ _ _ _ _ _ _ _ _ _ _ _ _ _ _ _ _ _ _ _ _ _ _ _ _ _ _ _ hF
/-- ████ lockSlow's LOOP HEAD, at every depth. ████ -/
theorem headGo (hT : LockK A K W b₁ a₁ ops₁ i₁ rest₁ k₁ cs₁ job blk) (v : Array Value) : ∀ (k : Nat) (T : Th) (wst : Int), Vd T job blk → HeadAt A K W b₁ a₁ ops₁ i₁ rest₁ k₁ cs₁ v k T wst := by
  intro k
  induction k using Nat.strongRecOn with
  | _ k ih =>
  intro T wst vd
  obtain ⟨pc, ⟨L, bW, S, kk⟩, aw, sv, it, job', blk'⟩ := T
  obtain ⟨haw, hsv, hit, hkk, rfl, rfl⟩ := vd
  simp only at haw hsv hit hkk
  cases hLS : L && !S with
  | false => exact headOut v k pc L bW S kk hkk hLS aw sv it wst (restGo hT v k ih L bW S kk hkk aw sv it hit wst haw hsv)
  | true =>
    cases L with
    | false => cases hLS
    | true =>
      cases S with
      | true => cases hLS
      | false => exact headSpin hT v k ih pc bW kk hkk aw sv it hit wst (fun h => (haw h).1) hsv
end
end Go.Proofs.Ytapjmifhhbpikaa

/- Gangs within gangs: The gang: lockSlow: behind the wait: r2, a1. (Printed by gen_gl.py.) -/
import Derived.Test.YtapjmifhhbpikaaXl1
set_option linter.unusedVariables false
set_option linter.unusedSectionVars false
set_option linter.unusedSimpArgs false
namespace Go.Proofs.Ytapjmifhhbpikaa
open Go.Conc Go.ConcN Go.ConcM Go.RowKit Go.Conc.Lib Go.ConcR.Gen
open Go.ConcR (KK wgBlock WgAt stA smA rd wr mk)
def rights : Nat → Code → Code
  | 0, c => c
  | n + 1, .seq _ y => rights n y
  | _, c => c
def thenOf : Code → Code
  | .cond _ x _ => x
  | c => c
noncomputable def XX47 : Code := thenOf (rights 6 RESTB47)
noncomputable def Q27 : Code := rights 3 XX47
noncomputable def Q29 : Code := rights 5 XX47
/-- What the loop's head asks of its locals. -/
structure Vd (T : Th) (job : Nat) (blk : List Nat) : Prop where
  aw : T.aw = true → T.old.W = true ∧ T.old.S = false
  sv : T.sv = true → T.aw = true
  it : T.it ≤ 4
  k : T.old.k < 1000
  j : T.job = job
  b : T.blk = blk
section
variable {A : Nat → Th → Array Value → Goroutine → World → Prop} {K : Band} [Fam K A] {W : Snap} {b₁ : Frame} {a₁ : Act} {ops₁ : Array Oper} {i₁ : Nat} {rest₁ : List Nat} {k₁ : List Item} {cs₁ : List Frame} {job : Nat} {blk : List Nat} [Own W blk]
set_option maxRecDepth 100000 in
set_option maxHeartbeats 16000000 in
theorem r2Go (hT : LockK A K W b₁ a₁ ops₁ i₁ rest₁ k₁ cs₁ job blk) (v : Array Value) (k : Nat) (ih : ∀ k', k' < k → ∀ (T : Th) (wst : Int), Vd T job blk → HeadAt A K W b₁ a₁ ops₁ i₁ rest₁ k₁ cs₁ v k' T wst) (old : Mx) (aw sv : Bool) (it : Nat) (wst : Int) :
    ∃ m, ∀ (j1 j4 j5 j6 j7 j8 j9 j10 j11 j12 j13 j14 j15 j16 j17 j18 j19 j20 j21 j22 j23 j24 j25 j26 j27 j28 j29 j30 j31 j32 j33 j34 j35 j36 j37 j38 j39 j40 j41 j42 j43 j44 j45 j46 j47 j48 j49 j50 j51 j52 j53 j54 j55 j56 j57 j58 j59 j60 j61 j62 j63 j64 j65 j66 j67 j68 j69 j70 j71 j72 j73 j74 j75 j76 j77 j78 j79 j80 j81 j82 j83 j84 j85 j86 j87 j88 j89 j90 j91 j92 j93 j94 j95 j96 j97 j98 j99 j100 j101 j102 j103 j104 j105 j106 j107 j108 j109 j110 j111 j112 j113 j114 j115 j116 j117 j118 j119 j120 j121 j122 j123 j124 j125 j126 j127 j128 j129 j130 j131 j132 j133 j134 j135 j136 j137 j138 : Value) (w : World), KnS K W w → GoW Try.prog K { pc := .r2, old := old, aw := aw, sv := sv, it := it, job := job, blk := blk } (A k { pc := .r2, old := old, aw := aw, sv := sv, it := it, job := job, blk := blk } v) m (G ((base 47).at ⟨#[.pointer (some ⟨K.Mu, 0, none⟩), j1, .int .i64 wst, .bool sv, j4, j5, j6, j7, j8, j9, j10, j11, j12, j13, j14, j15, j16, j17, j18, j19, j20, j21, j22, j23, j24, j25, j26, j27, j28, j29, j30, j31, j32, j33, j34, j35, j36, j37, j38, j39, j40, j41, j42, j43, j44, j45, j46, j47, j48, j49, j50, j51, j52, j53, j54, j55, j56, j57, j58, j59, j60, j61, j62, j63, j64, j65, j66, j67, j68, j69, j70, j71, j72, j73, j74, j75, j76, j77, j78, j79, j80, j81, j82, j83, j84, j85, j86, j87, j88, j89, j90, j91, j92, j93, j94, j95, j96, j97, j98, j99, j100, j101, j102, j103, j104, j105, j106, j107, j108, j109, j110, j111, j112, j113, j114, j115, j116, j117, j118, j119, j120, j121, j122, j123, j124, j125, j126, j127, j128, j129, j130, j131, j132, j133, j134, j135, j136, j137, j138], []⟩ [.code Q29, .inBlock 1, .inLoop LL47, .inBlock 0, .code REST47]) (b₁.at a₁ (.inRegion ops₁ (i₁ :: rest₁) :: k₁) :: cs₁)) w := by
  refine ⟨60 + 200, fun j1 j4 j5 j6 j7 j8 j9 j10 j11 j12 j13 j14 j15 j16 j17 j18 j19 j20 j21 j22 j23 j24 j25 j26 j27 j28 j29 j30 j31 j32 j33 j34 j35 j36 j37 j38 j39 j40 j41 j42 j43 j44 j45 j46 j47 j48 j49 j50 j51 j52 j53 j54 j55 j56 j57 j58 j59 j60 j61 j62 j63 j64 j65 j66 j67 j68 j69 j70 j71 j72 j73 j74 j75 j76 j77 j78 j79 j80 j81 j82 j83 j84 j85 j86 j87 j88 j89 j90 j91 j92 j93 j94 j95 j96 j97 j98 j99 j100 j101 j102 j103 j104 j105 j106 j107 j108 j109 j110 j111 j112 j113 j114 j115 j116 j117 j118 j119 j120 j121 j122 j123 j124 j125 j126 j127 j128 j129 j130 j131 j132 j133 j134 j135 j136 j137 j138 w hF => goW0 (n := 60) (m := 200) ?_⟩
  generalize hX : Q29 = X
  simp only [Q29, XX47, RESTB47, LL47, rights, thenOf, behindFirst, body47, findLoop, Try.f47, Option.getD_some] at hX
  subst hX
  repeat w_go KnS.rely
  -- STOP r2
  refine Goes.stop (fun _ r₁ => ?_)
  replace hF := KnS.rely hF r₁
  clear r₁
  refine Goes.stop (fun _ r₁ => ?_)
  replace hF := KnS.rely hF r₁
  clear r₁
  rcases k with _ | k
  · exact Fam.zero (K := K) _ _ _ _
  refine Fam.succ (K := K) (A := A) ?_
  refine ⟨rfl, rfl, by simp, by simp, by simp, by simp, fun _ s hs hfit _ cs hcs => ?_⟩
  obtain ⟨⟨L, bW, S, kk⟩, ms, vv, wt, ws⟩ := s
  have hkk : kk < 1000 := hfit.k
  cases S with
  | true =>
    obtain ⟨e1, e2, e3⟩ := hfit.r2 rfl rfl
    simp only at e1 e2 e3
    subst e1; subst e2
    obtain ⟨k0, rfl⟩ : ∃ k0, kk = k0 + 1 := ⟨kk - 1, by omega⟩
    refine ⟨_, _, .mu (.r2s rfl rfl), _, _, _, stepG_loadQ rfl rfl (by k_ne) rfl rfl hs.1.cellSt q47, hs, EffB.of (Eff.refl _), evw_book (by simp) (by simp) (by simp) (by simp) rfl rfl (book_nil 1), ?_⟩
    refine afterW_go (by simp) (by simp) (60 + 200) ?_
    refine goW0 (n := 60) (m := 200) ?_
    walk_nrm
    have a4 : bits .and .i32 (Mx.num ⟨false, false, true, k0 + 1⟩) 4 = 4 := num_and _ _ _ _ 4 (by omega) (by decide)
    have a3 : bits .and .i32 (Mx.num ⟨false, false, true, k0 + 1⟩) 3 = 0 := num_and _ _ _ _ 3 (by omega) (by decide)
    have sh : Mx.num ⟨false, false, true, k0 + 1⟩ / 8 = (k0 : Int) + 1 := by rw [num_shr]; simp
    have n0 : ¬ ((k0 : Int) + 1 = 0) := by omega
    generalize Mx.num ⟨false, false, true, k0 + 1⟩ = nn at a4 a3 sh
    cases sv with
    | false =>
      repeat w_go KnS.rely
      -- STOP a1: it takes the lock from him who hands it over
      refine Goes.stop (fun _ r₁ => ?_)
      replace hF := KnS.rely hF r₁
      clear r₁
      refine Goes.stop (fun _ r₁ => ?_)
      replace hF := KnS.rely hF r₁
      clear r₁
      rcases k with _ | k
      · exact Fam.zero (K := K) _ _ _ _
      refine Fam.succ (K := K) (A := A) ?_
      refine ⟨rfl, rfl, by simp, by simp, by simp, by simp, fun _ s hs hfit _ cs hcs => ?_⟩
      obtain ⟨mT, hT'⟩ := tailGo hT v k ⟨false, false, true, k0 + 1⟩ aw false it
      obtain ⟨⟨L, bW, S, kk⟩, ms, vv, wt, ws⟩ := s
      have hkk : kk < 1000 := hfit.k
      obtain ⟨e1, e2, e3, e4⟩ := hfit.a1 rfl
      simp only at e1 e2 e3 e4
      subst e1; subst e2; subst e3
      obtain ⟨k1, rfl⟩ : ∃ k1, kk = k1 + 1 := ⟨kk - 1, by omega⟩
      refine ⟨_, _, .mu (.a1 false rfl), _, _, _, stepG_add_atomic rfl rfl (by k_ne) rfl Try.func48 x48_n x48_b x48_x .i32 x48_f rfl rfl hs.1.cellSt (hs.1.thaw 0), (by rw [num_m11 k1 (by omega)]; exact hs.setMu ⟨true, false, false, k1⟩), EffB.of (Eff.set _ _ (.inl rfl)), evw_book (by simp) (by simp) (by simp) (by simp) rfl rfl (book_rw 0 (muA K.Mu) (.inl rfl)), ?_⟩
      replace hF := hF.eff (EffB.of (Eff.set (muA K.Mu) (.int .i32 (Mx.num ⟨true, false, false, k1⟩)) (.inl rfl))) (hs.setMu ⟨true, false, false, k1⟩)
      refine afterW_go (by simp) (by simp) (20 + mT) ?_
      refine goW0 (n := 20) (m := mT) ?_
      simp only [num_m11 k1 (show k1 < 10000 by omega)]
      walk_nrm
      repeat w_nl KnS.rely
      refine Goes.stop (fun _ r₁ => ?_)
      replace hF := KnS.rely hF r₁
      clear r₁
      exact hT' _ _ _ _ _ _ _ _ _ _ _ _ _ _ _ _ _ _ _ _ _ _ _ _ _ _ _ _ _ _ _ _ _ _ _ _ _ _ _ _ _ _ _ _ _ _ _ _ _ _ _ _ _ _ _ _ _ _ _ _ _ _ _ _ _ _ _ _ _ _ _ _ _ _ _ _ _ _ _ _ _ _ _ _ _ _ _ _ _ _ _ _ _ _ _ _ _ _ _ _ _ _ _ _ _ _ _ _ _ _ _ _ _ _ _ _ _ _ _ _ _ _ _ _ _ _ _ _ _ _ _ _ _ _ _ _ _ _ _ hF
    | true =>
      by_cases hk0 : k0 = 0
      · subst hk0
        have n1 : (((0 : Nat) : Int) + 1 = 1) := by simp
        repeat w_go KnS.rely
        -- STOP a1: it takes the lock from him who hands it over
        refine Goes.stop (fun _ r₁ => ?_)
        replace hF := KnS.rely hF r₁
        clear r₁
        refine Goes.stop (fun _ r₁ => ?_)
        replace hF := KnS.rely hF r₁
        clear r₁
        rcases k with _ | k
        · exact Fam.zero (K := K) _ _ _ _
        refine Fam.succ (K := K) (A := A) ?_
        refine ⟨rfl, rfl, by simp, by simp, by simp, by simp, fun _ s hs hfit _ cs hcs => ?_⟩
        obtain ⟨mT, hT'⟩ := tailGo hT v k ⟨false, false, true, 0 + 1⟩ aw true it
        obtain ⟨⟨L, bW, S, kk⟩, ms, vv, wt, ws⟩ := s
        have hkk : kk < 1000 := hfit.k
        obtain ⟨e1, e2, e3, e4⟩ := hfit.a1 rfl
        simp only at e1 e2 e3 e4
        subst e1; subst e2; subst e3
        obtain ⟨k1, rfl⟩ : ∃ k1, kk = k1 + 1 := ⟨kk - 1, by omega⟩
        refine ⟨_, _, .mu (.a1 false rfl), _, _, _, stepG_add_atomic rfl rfl (by k_ne) rfl Try.func48 x48_n x48_b x48_x .i32 x48_f rfl rfl hs.1.cellSt (hs.1.thaw 0), (by rw [num_m11 k1 (by omega)]; exact hs.setMu ⟨true, false, false, k1⟩), EffB.of (Eff.set _ _ (.inl rfl)), evw_book (by simp) (by simp) (by simp) (by simp) rfl rfl (book_rw 0 (muA K.Mu) (.inl rfl)), ?_⟩
        replace hF := hF.eff (EffB.of (Eff.set (muA K.Mu) (.int .i32 (Mx.num ⟨true, false, false, k1⟩)) (.inl rfl))) (hs.setMu ⟨true, false, false, k1⟩)
        refine afterW_go (by simp) (by simp) (20 + mT) ?_
        refine goW0 (n := 20) (m := mT) ?_
        simp only [num_m11 k1 (show k1 < 10000 by omega)]
        walk_nrm
        repeat w_nl KnS.rely
        refine Goes.stop (fun _ r₁ => ?_)
        replace hF := KnS.rely hF r₁
        clear r₁
        exact hT' _ _ _ _ _ _ _ _ _ _ _ _ _ _ _ _ _ _ _ _ _ _ _ _ _ _ _ _ _ _ _ _ _ _ _ _ _ _ _ _ _ _ _ _ _ _ _ _ _ _ _ _ _ _ _ _ _ _ _ _ _ _ _ _ _ _ _ _ _ _ _ _ _ _ _ _ _ _ _ _ _ _ _ _ _ _ _ _ _ _ _ _ _ _ _ _ _ _ _ _ _ _ _ _ _ _ _ _ _ _ _ _ _ _ _ _ _ _ _ _ _ _ _ _ _ _ _ _ _ _ _ _ _ _ _ _ _ _ _ hF
      · have n1 : ((k0 : Int) + 1 == 1) = false := by simp; omega
        repeat w_go KnS.rely
        -- STOP a1: it takes the lock from him who hands it over
        refine Goes.stop (fun _ r₁ => ?_)
        replace hF := KnS.rely hF r₁
        clear r₁
        refine Goes.stop (fun _ r₁ => ?_)
        replace hF := KnS.rely hF r₁
        clear r₁
        rcases k with _ | k
        · exact Fam.zero (K := K) _ _ _ _
        refine Fam.succ (K := K) (A := A) ?_
        refine ⟨rfl, rfl, by simp, by simp, by simp, by simp, fun _ s hs hfit _ cs hcs => ?_⟩
        obtain ⟨mT, hT'⟩ := tailGo hT v k ⟨false, false, true, k0 + 1⟩ aw true it
        obtain ⟨⟨L, bW, S, kk⟩, ms, vv, wt, ws⟩ := s
        have hkk : kk < 1000 := hfit.k
        obtain ⟨e1, e2, e3, e4⟩ := hfit.a1 rfl
        simp only at e1 e2 e3 e4
        subst e1; subst e2; subst e3
        obtain ⟨k1, rfl⟩ : ∃ k1, kk = k1 + 1 := ⟨kk - 1, by omega⟩
        refine ⟨_, _, .mu (.a1 true rfl), _, _, _, stepG_add_atomic rfl rfl (by k_ne) rfl Try.func48 x48_n x48_b x48_x .i32 x48_f rfl rfl hs.1.cellSt (hs.1.thaw 0), (by rw [num_m7 k1 (by omega)]; exact hs.setMu ⟨true, false, true, k1⟩), EffB.of (Eff.set _ _ (.inl rfl)), evw_book (by simp) (by simp) (by simp) (by simp) rfl rfl (book_rw 0 (muA K.Mu) (.inl rfl)), ?_⟩
        replace hF := hF.eff (EffB.of (Eff.set (muA K.Mu) (.int .i32 (Mx.num ⟨true, false, true, k1⟩)) (.inl rfl))) (hs.setMu ⟨true, false, true, k1⟩)
        refine afterW_go (by simp) (by simp) (20 + mT) ?_
        refine goW0 (n := 20) (m := mT) ?_
        simp only [num_m7 k1 (show k1 < 10000 by omega)]
        walk_nrm
        repeat w_nl KnS.rely
        refine Goes.stop (fun _ r₁ => ?_)
        replace hF := KnS.rely hF r₁
        clear r₁
        exact hT' _ _ _ _ _ _ _ _ _ _ _ _ _ _ _ _ _ _ _ _ _ _ _ _ _ _ _ _ _ _ _ _ _ _ _ _ _ _ _ _ _ _ _ _ _ _ _ _ _ _ _ _ _ _ _ _ _ _ _ _ _ _ _ _ _ _ _ _ _ _ _ _ _ _ _ _ _ _ _ _ _ _ _ _ _ _ _ _ _ _ _ _ _ _ _ _ _ _ _ _ _ _ _ _ _ _ _ _ _ _ _ _ _ _ _ _ _ _ _ _ _ _ _ _ _ _ _ _ _ _ _ _ _ _ _ _ _ _ _ hF
  | false =>
    have hw := hfit.hk rfl rfl
    simp only at hw
    subst hw
    refine ⟨_, _, .mu (.r2n rfl rfl), _, _, _, stepG_loadQ rfl rfl (by k_ne) rfl rfl hs.1.cellSt q47, hs, EffB.of (Eff.refl _), evw_book (by simp) (by simp) (by simp) (by simp) rfl (hd_deaf _).2.2 (book_nil 1), ?_⟩
    obtain ⟨mH, hH⟩ := ih k (by omega) { pc := .r2, old := ⟨L, true, false, kk⟩, aw := true, sv := sv, it := 0, job := job, blk := blk } wst ⟨fun _ => ⟨rfl, rfl⟩, fun _ => rfl, Nat.zero_le _, hkk, rfl, rfl⟩
    refine afterW_go (by simp) (hd_deaf _).1 (40 + mH) ?_
    refine goW0 (n := 40) (m := mH) ?_
    walk_nrm
    have a4 : bits .and .i32 (Mx.num ⟨L, true, false, kk⟩) 4 = 0 := by rw [show (4 : Int) = ((4 : Nat) : Int) from rfl, num_and _ _ _ _ 4 (by omega) (by decide)]; cases L <;> rfl
    repeat w_nl KnS.rely
    u_c stepG_inLoop KnS.rely hF
    refine Goes.stop (fun _ r₁ => ?_)
    replace hF := KnS.rely hF r₁
    clear r₁
    exact hH _ _ _ _ _ _ _ _ _ _ _ _ _ _ _ _ _ _ _ _ _ _ _ _ _ _ _ _ _ _ _ _ _ _ _ _ _ _ _ _ _ _ _ _ _ _ _ _ _ _ _ _ _ _ _ _ _ _ _ _ _ _ _ _ _ _ _ _ _ _ _ _ _ _ _ _ _ _ _ _ _ _ _ _ _ _ _ _ _ _ _ _ _ _ _ _ _ _ _ _ _ _ _ _ _ _ _ _ _ _ _ _ _ _ _ _ _ _ _ _ _ _ _ _ _ _ _ _ _ _ _ _ _ _ hF
end
end Go.Proofs.Ytapjmifhhbpikaa

/- Gangs within gangs: The gang: lockSlow: the wait: s1, t2; the spin: r1. (Printed by gen_gl.py.) -/
import Derived.Test.YtapjmifhhbpikaaXl2
set_option linter.unusedVariables false
set_option linter.unusedSectionVars false
set_option linter.unusedSimpArgs false
namespace Go.Proofs.Ytapjmifhhbpikaa
open Go.Conc Go.ConcN Go.ConcM Go.RowKit Go.Conc.Lib Go.ConcR.Gen
open Go.ConcR (KK wgBlock WgAt stA smA rd wr mk)
def firstOf : Code → Code
  | .seq x _ => x
  | c => c
def elseOf : Code → Code
  | .cond _ _ y => y
  | c => c
noncomputable def R27 : Code := firstOf Q27
noncomputable def R28 : Code := firstOf (rights 1 Q27)
set_option maxRecDepth 100000 in
theorem q27_eq : Q27 = .seq R27 (.seq R28 Q29) := by
  simp only [R27, R28, firstOf, elseOf, Q27, Q29, XX47, RESTB47, LL47, rights, thenOf, behindFirst, body47, findLoop, Try.f47, Option.getD_some]
noncomputable def SPIN : Code := thenOf (rights 1 (match LL47 with | .block _ (.seq x _) => x | c => c))
noncomputable def SP8 : Code := rights 1 SPIN
noncomputable def R6 : Code := firstOf SPIN
section
variable {A : Nat → Th → Array Value → Goroutine → World → Prop} {K : Band} [Fam K A] {W : Snap} {b₁ : Frame} {a₁ : Act} {ops₁ : Array Oper} {i₁ : Nat} {rest₁ : List Nat} {k₁ : List Item} {cs₁ : List Frame} {job : Nat} {blk : List Nat} [Own W blk]
set_option maxRecDepth 100000 in
set_option maxHeartbeats 16000000 in
theorem s1Go (hT : LockK A K W b₁ a₁ ops₁ i₁ rest₁ k₁ cs₁ job blk) (v : Array Value) (k : Nat) (ih : ∀ k', k' < k → ∀ (T : Th) (wst : Int), Vd T job blk → HeadAt A K W b₁ a₁ ops₁ i₁ rest₁ k₁ cs₁ v k' T wst) (old : Mx) (aw sv : Bool) (it : Nat) (wst : Int) :
    ∃ m, ∀ (j1 j4 j5 j6 j7 j8 j9 j10 j11 j12 j13 j14 j15 j16 j17 j18 j19 j20 j21 j22 j23 j24 j25 j26 j27 j28 j29 j30 j31 j32 j33 j34 j35 j36 j37 j38 j39 j40 j41 j42 j43 j44 j45 j46 j47 j48 j49 j50 j51 j52 j53 j54 j55 j56 j57 j58 j59 j60 j61 j62 j63 j64 j65 j66 j67 j68 j69 j70 j71 j72 j73 j74 j75 j76 j77 j78 j79 j80 j81 j82 j83 j84 j85 j86 j87 j88 j89 j90 j91 j92 j93 j94 j95 j96 j97 j98 j99 j100 j101 j102 j103 j104 j105 j106 j107 j108 j109 j110 j111 j112 j113 j114 j115 j116 j117 j118 j119 j120 j121 j122 j123 j124 j125 j126 j127 j128 j129 j130 j131 j132 j133 j134 j135 j136 j137 j138 : Value) (w : World), KnS K W w → GoW Try.prog K { pc := .s1, old := old, aw := aw, sv := sv, it := it, job := job, blk := blk } (A k { pc := .s1, old := old, aw := aw, sv := sv, it := it, job := job, blk := blk } v) m (G ((base 47).at ⟨#[.pointer (some ⟨K.Mu, 0, none⟩), j1, .int .i64 wst, .bool sv, j4, j5, j6, j7, j8, j9, j10, j11, j12, j13, j14, j15, j16, j17, j18, j19, j20, j21, j22, j23, j24, j25, j26, j27, j28, j29, j30, j31, j32, j33, j34, j35, j36, j37, j38, j39, j40, j41, j42, j43, j44, j45, j46, j47, j48, j49, j50, j51, j52, j53, j54, j55, j56, j57, j58, j59, j60, j61, j62, j63, j64, j65, j66, j67, j68, j69, j70, j71, j72, j73, j74, j75, j76, j77, j78, j79, j80, j81, j82, j83, j84, j85, j86, j87, j88, j89, j90, j91, j92, j93, j94, j95, j96, j97, j98, j99, j100, j101, j102, j103, j104, j105, j106, j107, j108, j109, j110, j111, j112, j113, j114, j115, j116, j117, j118, j119, j120, j121, j122, j123, j124, j125, j126, j127, j128, j129, j130, j131, j132, j133, j134, j135, j136, j137, j138], []⟩ [.code Q27, .inBlock 1, .inLoop LL47, .inBlock 0, .code REST47]) (b₁.at a₁ (.inRegion ops₁ (i₁ :: rest₁) :: k₁) :: cs₁)) w := by
  refine ⟨60 + 200, fun j1 j4 j5 j6 j7 j8 j9 j10 j11 j12 j13 j14 j15 j16 j17 j18 j19 j20 j21 j22 j23 j24 j25 j26 j27 j28 j29 j30 j31 j32 j33 j34 j35 j36 j37 j38 j39 j40 j41 j42 j43 j44 j45 j46 j47 j48 j49 j50 j51 j52 j53 j54 j55 j56 j57 j58 j59 j60 j61 j62 j63 j64 j65 j66 j67 j68 j69 j70 j71 j72 j73 j74 j75 j76 j77 j78 j79 j80 j81 j82 j83 j84 j85 j86 j87 j88 j89 j90 j91 j92 j93 j94 j95 j96 j97 j98 j99 j100 j101 j102 j103 j104 j105 j106 j107 j108 j109 j110 j111 j112 j113 j114 j115 j116 j117 j118 j119 j120 j121 j122 j123 j124 j125 j126 j127 j128 j129 j130 j131 j132 j133 j134 j135 j136 j137 j138 w hF => goW0 (n := 60) (m := 200) ?_⟩
  rw [q27_eq]
  generalize hR27 : R27 = XR27
  generalize hR28 : R28 = XR28
  simp only [R27, R28, firstOf, elseOf, Q27, Q29, XX47, RESTB47, LL47, rights, thenOf, behindFirst, body47, findLoop, Try.f47, Option.getD_some] at hR27 hR28
  subst hR27
  subst hR28

  repeat w_go KnS.rely
  -- STOP s1: IT WAITS
  refine Goes.stop (fun _ r₁ => ?_)
  replace hF := KnS.rely hF r₁
  clear r₁
  refine Goes.stop (fun _ r₁ => ?_)
  replace hF := KnS.rely hF r₁
  clear r₁
  rcases k with _ | k
  · exact Fam.zero (K := K) _ _ _ _
  refine Fam.succ (K := K) (A := A) ?_
  refine ⟨rfl, rfl, by simp, by simp, by simp, fun _ s hs h0 => stepG_semacquire_wait rfl rfl rfl Try.func59 x59_n x59_b x59_x x59_f (ad := msA K.Mu) (by simp [Act.eval, msA]) (by have := hs.1.cellSm; rw [h0] at this; exact this), fun _ s hs hfit hms cs hcs => ?_⟩
  have h1 := hms rfl
  have h1' : (s.ms : Int) ≠ 0 := by omega
  have e1 : (s.ms : Int) - 1 = ((s.ms - 1 : Nat) : Int) := by omega
  have ih' : ∀ k', k' < k → ∀ (T : Th) (wst : Int), Vd T job blk → HeadAt A K W b₁ a₁ ops₁ i₁ rest₁ k₁ cs₁ v k' T wst := fun k' hk => ih k' (by omega)
  have hF' := hF.eff (EffB.of (Eff.set (msA K.Mu) (.int .u32 ((s.ms - 1 : Nat) : Int)) (.inl rfl))) (hs.setMs (s.ms - 1))
  cases sv with
  | true =>
    refine ⟨_, _, .mu (.s1 .r2 rfl h1 (.inr rfl)), _, _, _, stepG_semacquire rfl rfl (by k_ne) rfl Try.func59 x59_n x59_b x59_x x59_f (by simp [Act.eval, msA]) hs.1.cellSm h1' (hs.1.thaw 1), (by rw [e1]; exact hs.setMs (s.ms - 1)), EffB.of (Eff.set _ _ (.inl rfl)), evw_book (by simp) (by simp) (by simp) (by simp) rfl rfl (book_sem 0 (msA K.Mu) (.inl rfl)), ?_⟩
    obtain ⟨mR, hR⟩ := r2Go hT v k ih' old aw true it wst
    refine afterW_go (by simp) (by simp) (40 + mR) ?_
    refine goW0 (n := 40) (m := mR) ?_
    rw [e1]
    replace hF := hF'
    walk_nrm
    repeat w_go KnS.rely
    refine Goes.stop (fun _ r₁ => ?_)
    replace hF := KnS.rely hF r₁
    clear r₁
    exact hR _ _ _ _ _ _ _ _ _ _ _ _ _ _ _ _ _ _ _ _ _ _ _ _ _ _ _ _ _ _ _ _ _ _ _ _ _ _ _ _ _ _ _ _ _ _ _ _ _ _ _ _ _ _ _ _ _ _ _ _ _ _ _ _ _ _ _ _ _ _ _ _ _ _ _ _ _ _ _ _ _ _ _ _ _ _ _ _ _ _ _ _ _ _ _ _ _ _ _ _ _ _ _ _ _ _ _ _ _ _ _ _ _ _ _ _ _ _ _ _ _ _ _ _ _ _ _ _ _ _ _ _ _ _ _ _ _ hF
  | false =>
    refine ⟨_, _, .mu (.s1 .t2 rfl h1 (.inl rfl)), _, _, _, stepG_semacquire rfl rfl (by k_ne) rfl Try.func59 x59_n x59_b x59_x x59_f (by simp [Act.eval, msA]) hs.1.cellSm h1' (hs.1.thaw 1), (by rw [e1]; exact hs.setMs (s.ms - 1)), EffB.of (Eff.set _ _ (.inl rfl)), evw_book (by simp) (by simp) (by simp) (by simp) rfl rfl (book_sem 0 (msA K.Mu) (.inl rfl)), ?_⟩
    refine afterW_go (by simp) (by simp) (40 + 200) ?_
    refine goW0 (n := 40) (m := 200) ?_
    rw [e1]
    replace hF := hF'
    clear hF'
    walk_nrm
    repeat w_go KnS.rely
    -- STOP t2: the clock once more
    refine Goes.stop (fun _ r₁ => ?_)
    replace hF := KnS.rely hF r₁
    clear r₁
    refine Goes.stop (fun w₂ r₂ => ?_)
    replace hF := KnS.rely hF r₂
    clear r₂
    rcases k with _ | k
    · exact Fam.zero (K := K) _ _ _ _
    refine Fam.succ (K := K) (A := A) ?_
    refine ⟨rfl, rfl, by simp, by simp, by simp, by simp, fun _ s hs hfit _ cs hcs => ⟨_, s, .mu (.t2 (decide (1000000 < IntKind.i64.wrap (((w₂.os.mono + w₂.tick : Nat) : Int) - wst))) rfl), _, _, _, stepG_nanotime rfl rfl (by k_ne) rfl Try.func58 x58_n x58_b x58_x x58_f x58_q, hs.later, EffB.of (Eff.later _), evw_book (by simp) (by simp) (by simp) (by simp) rfl rfl (book_nil 1), ?_⟩⟩
    replace hF := hF.eff (EffB.of (Eff.later w₂)) hs.later
    obtain ⟨mR, hR⟩ := r2Go hT v k (fun k' hk => ih' k' (by omega)) old aw (decide (1000000 < IntKind.i64.wrap (((w₂.os.mono + w₂.tick : Nat) : Int) - wst))) it wst
    refine afterW_go (by simp) (by simp) (40 + mR) ?_
    refine goW0 (n := 40) (m := mR) ?_
    generalize ((w₂.os.mono + w₂.tick : Nat) : Int) = tw at hR ⊢
    walk_nrm
    repeat w_go KnS.rely
    refine Goes.stop (fun _ r₁ => ?_)
    replace hF := KnS.rely hF r₁
    clear r₁
    exact hR _ _ _ _ _ _ _ _ _ _ _ _ _ _ _ _ _ _ _ _ _ _ _ _ _ _ _ _ _ _ _ _ _ _ _ _ _ _ _ _ _ _ _ _ _ _ _ _ _ _ _ _ _ _ _ _ _ _ _ _ _ _ _ _ _ _ _ _ _ _ _ _ _ _ _ _ _ _ _ _ _ _ _ _ _ _ _ _ _ _ _ _ _ _ _ _ _ _ _ _ _ _ _ _ _ _ _ _ _ _ _ _ _ _ _ _ _ _ _ _ _ _ _ _ _ _ _ _ _ _ _ _ _ _ _ _ _ hF
set_option maxRecDepth 100000 in
set_option maxHeartbeats 16000000 in
theorem r1Go (v : Array Value) (k : Nat) (ih : ∀ k', k' < k → ∀ (T : Th) (wst : Int), Vd T job blk → HeadAt A K W b₁ a₁ ops₁ i₁ rest₁ k₁ cs₁ v k' T wst) (old : Mx) (aw sv : Bool) (it : Nat) (wst : Int) (hit : it ≤ 4) (hsv : sv = true → aw = true) :
    ∃ m, ∀ (j1 j6 j7 j8 j9 j10 j11 j12 j13 j14 j15 j16 j17 j18 j19 j20 j21 j22 j23 j24 j25 j26 j27 j28 j29 j30 j31 j32 j33 j34 j35 j36 j37 j38 j39 j40 j41 j42 j43 j44 j45 j46 j47 j48 j49 j50 j51 j52 j53 j54 j55 j56 j57 j58 j59 j60 j61 j62 j63 j64 j65 j66 j67 j68 j69 j70 j71 j72 j73 j74 j75 j76 j77 j78 j79 j80 j81 j82 j83 j84 j85 j86 j87 j88 j89 j90 j91 j92 j93 j94 j95 j96 j97 j98 j99 j100 j101 j102 j103 j104 j105 j106 j107 j108 j109 j110 j111 j112 j113 j114 j115 j116 j117 j118 j119 j120 j121 j122 j123 j124 j125 j126 j127 j128 j129 j130 j131 j132 j133 j134 j135 j136 j137 j138 : Value) (w : World), KnS K W w → GoW Try.prog K { pc := .r1, old := old, aw := aw, sv := sv, it := it, job := job, blk := blk } (A k { pc := .r1, old := old, aw := aw, sv := sv, it := it, job := job, blk := blk } v) m (G ((base 47).at ⟨#[.pointer (some ⟨K.Mu, 0, none⟩), j1, .int .i64 wst, .bool sv, .bool aw, .int .i64 (it : Int), j6, j7, j8, j9, j10, j11, j12, j13, j14, j15, j16, j17, j18, j19, j20, j21, j22, j23, j24, j25, j26, j27, j28, j29, j30, j31, j32, j33, j34, j35, j36, j37, j38, j39, j40, j41, j42, j43, j44, j45, j46, j47, j48, j49, j50, j51, j52, j53, j54, j55, j56, j57, j58, j59, j60, j61, j62, j63, j64, j65, j66, j67, j68, j69, j70, j71, j72, j73, j74, j75, j76, j77, j78, j79, j80, j81, j82, j83, j84, j85, j86, j87, j88, j89, j90, j91, j92, j93, j94, j95, j96, j97, j98, j99, j100, j101, j102, j103, j104, j105, j106, j107, j108, j109, j110, j111, j112, j113, j114, j115, j116, j117, j118, j119, j120, j121, j122, j123, j124, j125, j126, j127, j128, j129, j130, j131, j132, j133, j134, j135, j136, j137, j138], []⟩ [.code SP8, .code RESTB47, .inBlock 1, .inLoop LL47, .inBlock 0, .code REST47]) (b₁.at a₁ (.inRegion ops₁ (i₁ :: rest₁) :: k₁) :: cs₁)) w := by
  refine ⟨60 + 200, fun j1 j6 j7 j8 j9 j10 j11 j12 j13 j14 j15 j16 j17 j18 j19 j20 j21 j22 j23 j24 j25 j26 j27 j28 j29 j30 j31 j32 j33 j34 j35 j36 j37 j38 j39 j40 j41 j42 j43 j44 j45 j46 j47 j48 j49 j50 j51 j52 j53 j54 j55 j56 j57 j58 j59 j60 j61 j62 j63 j64 j65 j66 j67 j68 j69 j70 j71 j72 j73 j74 j75 j76 j77 j78 j79 j80 j81 j82 j83 j84 j85 j86 j87 j88 j89 j90 j91 j92 j93 j94 j95 j96 j97 j98 j99 j100 j101 j102 j103 j104 j105 j106 j107 j108 j109 j110 j111 j112 j113 j114 j115 j116 j117 j118 j119 j120 j121 j122 j123 j124 j125 j126 j127 j128 j129 j130 j131 j132 j133 j134 j135 j136 j137 j138 w hF => goW0 (n := 60) (m := 200) ?_⟩
  generalize hSP8 : SP8 = XSP8
  simp only [SP8, SPIN, firstOf, elseOf, Q27, Q29, XX47, RESTB47, LL47, rights, thenOf, behindFirst, body47, findLoop, Try.f47, Option.getD_some] at hSP8
  subst hSP8

  have wi : IntKind.i64.wrap ((it : Int) + 1) = ((it + 1 : Nat) : Int) := by rw [IntKind.wrap_i64]; omega
  repeat w_nl KnS.rely
  -- 'runtime_doSpin()': nothing
  u_in KnS.rely hF
  rw [stepG_entry_pure (.tuple #[]) rfl rfl (by k_ne) rfl Try.func56 x56_n x56_b x56_x x56_f]
  simp only [goes_go]
  refine ⟨by u_nil, ?_⟩
  walk_nrm
  repeat w_nl KnS.rely
  -- STOP r1
  refine Goes.stop (fun _ r₁ => ?_)
  replace hF := KnS.rely hF r₁
  clear r₁
  refine Goes.stop (fun _ r₁ => ?_)
  replace hF := KnS.rely hF r₁
  clear r₁
  rcases k with _ | k
  · exact Fam.zero (K := K) _ _ _ _
  refine Fam.succ (K := K) (A := A) ?_
  refine ⟨rfl, rfl, by simp, by simp, by simp, by simp, fun _ s hs hfit _ cs hcs => ⟨_, _, .mu (.r1 rfl), _, _, _, stepG_loadQ rfl rfl (by k_ne) rfl rfl hs.1.cellSt q47, hs, EffB.of (Eff.refl _), evw_book (by simp) (by simp) (by simp) (by simp) rfl (hd_deaf _).2.2 (book_nil 1), ?_⟩⟩
  have hlt := hfit.lc.sp (.inr rfl)
  obtain ⟨mH, hH⟩ := ih k (by omega) { pc := .r1, old := s.mu, aw := aw, sv := sv, it := it + 1, job := job, blk := blk } wst ⟨fun h => hfit.ha h rfl, hsv, hlt, hfit.k, rfl, rfl⟩
  refine afterW_go (by simp) (hd_deaf _).1 (40 + mH) ?_
  refine goW0 (n := 40) (m := mH) ?_
  walk_nrm
  repeat w_nl KnS.rely
  u_c stepG_inLoop KnS.rely hF
  refine Goes.stop (fun _ r₁ => ?_)
  replace hF := KnS.rely hF r₁
  clear r₁
  exact hH _ _ _ _ _ _ _ _ _ _ _ _ _ _ _ _ _ _ _ _ _ _ _ _ _ _ _ _ _ _ _ _ _ _ _ _ _ _ _ _ _ _ _ _ _ _ _ _ _ _ _ _ _ _ _ _ _ _ _ _ _ _ _ _ _ _ _ _ _ _ _ _ _ _ _ _ _ _ _ _ _ _ _ _ _ _ _ _ _ _ _ _ _ _ _ _ _ _ _ _ _ _ _ _ _ _ _ _ _ _ _ _ _ _ _ _ _ _ _ _ _ _ _ _ _ _ _ _ _ _ _ _ _ _ hF
end
end Go.Proofs.Ytapjmifhhbpikaa

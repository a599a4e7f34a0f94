/- Gangs within gangs: The gang: lockSlow: mu.Lock(), whole. (Printed by gen_gl.py.) -/
import Derived.Test.YtapjmifhhbpikaaXl5
set_option linter.unusedVariables false
set_option linter.unusedSectionVars false
set_option linter.unusedSimpArgs false
namespace Go.Proofs.Ytapjmifhhbpikaa
open Go.Conc Go.ConcN Go.ConcM Go.RowKit Go.Conc.Lib Go.ConcR.Gen
open Go.ConcR (KK wgBlock WgAt stA smA rd wr mk)
noncomputable def B0' : Code := firstOf body47
noncomputable def B1' : Code := firstOf (rights 1 body47)
noncomputable def B2' : Code := firstOf (rights 2 body47)
noncomputable def B3' : Code := firstOf (rights 3 body47)
noncomputable def B4' : Code := firstOf (rights 4 body47)
set_option maxRecDepth 100000 in
theorem body47_eq : body47 = .seq B0' (.seq B1' (.seq B2' (.seq B3' (.seq B4' (.seq (.block 0 (.loop LL47)) REST47))))) := by
  simp only [B0', B1', B2', B3', B4', REST47, behindBlock, firstOf, elseOf, Q27, Q29, XX47, RESTB47, LL47, rights, thenOf, behindFirst, body47, findLoop, Try.f47, Option.getD_some]
section
variable {A : Nat → Th → Array Value → Goroutine → World → Prop} {K : Band} [Fam K A] {W : Snap} {b₁ : Frame} {a₁ : Act} {ops₁ : Array Oper} {i₁ : Nat} {rest₁ : List Nat} {k₁ : List Item} {cs₁ : List Frame} {job : Nat} {blk : List Nat} [Own W blk]
set_option maxRecDepth 100000 in
set_option maxHeartbeats 16000000 in
/-- lockSlow, from its entry. -/
theorem slowGo (hT : LockK A K W b₁ a₁ ops₁ i₁ rest₁ k₁ cs₁ job blk) (v : Array Value) (k : Nat) (w : World) (hF : KnS K W w) :
    GoW Try.prog K { pc := .r0, job := job, blk := blk } (A k { pc := .r0, job := job, blk := blk } v) 60 (G ((base 47).at ⟨#[.pointer (some ⟨K.Mu, 0, none⟩), undef, undef, undef, undef, undef, undef, undef, undef, undef, undef, undef, undef, undef, undef, undef, undef, undef, undef, undef, undef, undef, undef, undef, undef, undef, undef, undef, undef, undef, undef, undef, undef, undef, undef, undef, undef, undef, undef, undef, undef, undef, undef, undef, undef, undef, undef, undef, undef, undef, undef, undef, undef, undef, undef, undef, undef, undef, undef, undef, undef, undef, undef, undef, undef, undef, undef, undef, undef, undef, undef, undef, undef, undef, undef, undef, undef, undef, undef, undef, undef, undef, undef, undef, undef, undef, undef, undef, undef, undef, undef, undef, undef, undef, undef, undef, undef, undef, undef, undef, undef, undef, undef, undef, undef, undef, undef, undef, undef, undef, undef, undef, undef, undef, undef, undef, undef, undef, undef, undef, undef, undef, undef, undef, undef, undef, undef, undef, undef, undef, undef, undef, undef, undef, undef, undef, undef, undef, undef], []⟩ [.code body47]) (b₁.at a₁ (.inRegion ops₁ (i₁ :: rest₁) :: k₁) :: cs₁)) w := by
  rw [body47_eq]
  generalize hB0' : B0' = XB0'
  generalize hB1' : B1' = XB1'
  generalize hB2' : B2' = XB2'
  generalize hB3' : B3' = XB3'
  generalize hB4' : B4' = XB4'
  simp only [B0', B1', B2', B3', B4', firstOf, elseOf, Q27, Q29, XX47, RESTB47, LL47, rights, thenOf, behindFirst, body47, findLoop, Try.f47, Option.getD_some] at hB0' hB1' hB2' hB3' hB4'
  subst hB0'
  subst hB1'
  subst hB2'
  subst hB3'
  subst hB4'
  refine goW0 (n := 60) (m := 0) ?_
  repeat w_go KnS.rely
  -- STOP r0
  refine Goes.stop (fun _ r₁ => ?_)
  replace hF := KnS.rely hF r₁
  clear r₁
  refine Goes.stop (fun _ r₁ => ?_)
  replace hF := KnS.rely hF r₁
  clear r₁
  rcases k with _ | k
  · exact Fam.zero (K := K) _ _ _ _
  refine Fam.succ (K := K) (A := A) ?_
  refine ⟨rfl, rfl, by simp, by simp, by simp, by simp, fun _ s hs hfit _ cs hcs => ⟨_, _, .mu (.r0 rfl), _, _, _, stepG_loadQ rfl rfl (by k_ne) rfl rfl hs.1.cellSt q47, hs, EffB.of (Eff.refl _), evw_book (by simp) (by simp) (by simp) (by simp) rfl (hd_deaf _).2.2 (book_nil 1), ?_⟩⟩
  obtain ⟨mH, hH⟩ := headGo hT v k { pc := .r0, old := s.mu, job := job, blk := blk } 0 ⟨by simp, by simp, Nat.zero_le _, hfit.k, rfl, rfl⟩
  refine afterW_go (by simp) (hd_deaf _).1 (20 + mH) ?_
  refine goW0 (n := 20) (m := mH) ?_
  walk_nrm
  repeat w_but "code.loop" KnS.rely
  u_c stepG_loop KnS.rely hF
  refine Goes.stop (fun _ r₁ => ?_)
  replace hF := KnS.rely hF r₁
  clear r₁
  exact hH _ _ _ _ _ _ _ _ _ _ _ _ _ _ _ _ _ _ _ _ _ _ _ _ _ _ _ _ _ _ _ _ _ _ _ _ _ _ _ _ _ _ _ _ _ _ _ _ _ _ _ _ _ _ _ _ _ _ _ _ _ _ _ _ _ _ _ _ _ _ _ _ _ _ _ _ _ _ _ _ _ _ _ _ _ _ _ _ _ _ _ _ _ _ _ _ _ _ _ _ _ _ _ _ _ _ _ _ _ _ _ _ _ _ _ _ _ _ _ _ _ _ _ _ _ _ _ _ _ _ _ _ _ _ hF
end
noncomputable def body19 : Code := Try.f19.body.getD .skip
section
variable {A : Nat → Th → Array Value → Goroutine → World → Prop} {K : Band} [Fam K A] {W : Snap} {b₀ : Frame} {a₀ : Act} {ops₀ : Array Oper} {i₀ : Nat} {rest₀ : List Nat} {k₀ : List Item} {cs : List Frame} {job : Nat} {blk : List Nat} [Own W blk]
set_option maxRecDepth 100000 in
set_option maxHeartbeats 16000000 in
/-- ████ mu.Lock(). ████ -/
theorem lockGo (hT : LockK A K W b₀ a₀ ops₀ i₀ rest₀ k₀ cs job blk) (v : Array Value) (k : Nat) (w : World) (hF : KnS K W w) :
    GoW Try.prog K { pc := .ld, job := job, blk := blk } (A k { pc := .ld, job := job, blk := blk } v) 40 (G ((base 19).at ⟨#[.pointer (some ⟨K.Mu, 0, none⟩), undef, undef, undef, undef, undef], []⟩ [.code body19]) (b₀.at a₀ (.inRegion ops₀ (i₀ :: rest₀) :: k₀) :: cs)) w := by
  simp only [body19, Try.f19, Option.getD_some]
  refine goW0 (n := 40) (m := 0) ?_
  repeat w_go KnS.rely
  u_call Try.func26 nm26 Try.f26 KnS.rely hF
  repeat w_go KnS.rely
  -- STOP ld
  refine Goes.stop (fun _ r₁ => ?_)
  replace hF := KnS.rely hF r₁
  clear r₁
  refine Goes.stop (fun _ r₁ => ?_)
  replace hF := KnS.rely hF r₁
  clear r₁
  rcases k with _ | k
  · exact Fam.zero (K := K) _ _ _ _
  refine Fam.succ (K := K) (A := A) ?_
  refine ⟨rfl, rfl, by simp, by simp, by simp, by simp, fun _ s hs hfit _ cs hcs => ⟨_, s, .mu (.ld rfl), _, _, _, stepG_mark0 .disable (by simp) rfl rfl (by k_ne) rfl Try.func29 x29_n x29_b x29_x x29_f, hs, EffB.of (Eff.refl _), evw_book (by simp) (by simp) (by simp) (by simp) rfl rfl (book_dis 0), ?_⟩⟩
  refine afterW_go (by simp) (by simp) (30 + 200) ?_
  refine goW0 (n := 30) (m := 200) ?_
  walk_nrm
  repeat w_go KnS.rely
  -- STOP l0
  refine Goes.stop (fun _ r₁ => ?_)
  replace hF := KnS.rely hF r₁
  clear r₁
  refine Goes.stop (fun _ r₁ => ?_)
  replace hF := KnS.rely hF r₁
  clear r₁
  rcases k with _ | k
  · exact Fam.zero (K := K) _ _ _ _
  refine Fam.succ (K := K) (A := A) ?_
  refine ⟨rfl, rfl, by simp, by simp, by simp, by simp, fun _ s hs hfit _ cs hcs => ?_⟩
  obtain ⟨mu, ms, vv, wt, ws⟩ := s
  by_cases hm : mu = .zero
  · subst hm
    refine ⟨_, _, .mu (.l0h rfl rfl), _, _, _, stepG_cas_hit rfl rfl (by k_ne) rfl Try.func46 x46_n x46_b x46_x .i32 x46_f rfl rfl rfl (by have := hs.1.cellSt; rw [num_zero] at this; exact this) (hs.1.thaw 0), hs.setMu ⟨true, false, false, 0⟩, EffB.of (Eff.set _ _ (.inl rfl)), evw_book (by simp) (by simp) (by simp) (by simp) rfl rfl (book_rw 0 (muA K.Mu) (.inl rfl)), ?_⟩
    replace hF := hF.eff (EffB.of (Eff.set (muA K.Mu) (.int .i32 (Mx.num ⟨true, false, false, 0⟩)) (.inl rfl))) (hs.setMu ⟨true, false, false, 0⟩)
    refine afterW_go (by simp) (by simp) (30 + 200) ?_
    refine goW0 (n := 30) (m := 200) ?_
    walk_nrm
    repeat w_go KnS.rely
    -- STOP le
    refine Goes.stop (fun _ r₁ => ?_)
    replace hF := KnS.rely hF r₁
    clear r₁
    refine Goes.stop (fun _ r₁ => ?_)
    replace hF := KnS.rely hF r₁
    clear r₁
    rcases k with _ | k
    · exact Fam.zero (K := K) _ _ _ _
    refine Fam.succ (K := K) (A := A) ?_
    refine ⟨rfl, rfl, by simp, by simp, by simp, by simp, fun _ s hs hfit _ cs hcs => ⟨_, s, .mu (.le rfl), _, _, _, stepG_mark0 .enable (by simp) rfl rfl (by k_ne) rfl Try.func30 x30_n x30_b x30_x x30_f, hs, EffB.of (Eff.refl _), evw_book (by simp) (by simp) (by simp) (by simp) rfl rfl (book_en 0), ?_⟩⟩
    refine afterW_go (by simp) (by simp) (30 + 200) ?_
    refine goW0 (n := 30) (m := 200) ?_
    walk_nrm
    repeat w_go KnS.rely
    m_convG Try.prog u64_ u78 z48 hF.mu.choose_spec KnS.rely hF
    -- STOP la: IT OWNS
    refine Goes.stop (fun _ r₁ => ?_)
    replace hF := KnS.rely hF r₁
    clear r₁
    refine Goes.stop (fun _ r₁ => ?_)
    replace hF := KnS.rely hF r₁
    clear r₁
    rcases k with _ | k
    · exact Fam.zero (K := K) _ _ _ _
    refine Fam.succ (K := K) (A := A) ?_
    refine ⟨rfl, rfl, by simp, by simp, by simp, by simp, fun _ s hs hfit _ cs hcs => ⟨_, s, .mu (.la rfl), _, _, _, stepG_markAt .acquire (by simp) rfl rfl (by k_ne) rfl Try.func41 x41_n x41_b x41_x x41_f (by simp [Act.eval, muA]), hs, EffB.of (Eff.refl _), rfl, ?_⟩⟩
    obtain ⟨hc1, hc2⟩ := hcs rfl
    replace hF := And.intro hF hc1
    rw [if_pos rfl]
    unfold AfterW
    rw [if_neg (by simp)]
    obtain ⟨mT, hT'⟩ := hT k { pc := .ur, job := job, blk := blk } cs rfl rfl rfl hc2
    refine ⟨20 + mT, goW0 (n := 20) (m := mT) ?_⟩
    walk_nrm
    show Goes Try.prog false (RB K true blk) _ _ _ _ _
    repeat w_go koS_rely
    u_leave0 Try.func26 koS_rely hF
    repeat w_go koS_rely
    u_leave0 Try.func19 koS_rely hF
    refine Goes.stop (fun _ r₁ => ?_)
    replace hF := koS_rely hF r₁
    clear r₁
    exact hT' _ hF.1 hF.2
  · -- THE LOCK IS HELD: the slow way
    refine ⟨_, _, .mu (.l0m rfl hm), _, _, _, stepG_cas_miss rfl rfl (by k_ne) rfl Try.func46 x46_n x46_b x46_x .i32 x46_f rfl rfl rfl hs.1.cellSt (hs.1.thaw 0) (fun e => hm (Mx.num_inj (e.trans num_zero.symm))), hs, EffB.of (Eff.refl _), evw_book (by simp) (by simp) (by simp) (by simp) rfl rfl (book_one 0 (muA K.Mu) false (.inl rfl)), ?_⟩
    refine afterW_go (by simp) (by simp) (80 + 200) ?_
    refine goW0 (n := 80) (m := 200) ?_
    walk_nrm
    repeat w_go KnS.rely
    u_call Try.func47 nm47 Try.f47 KnS.rely hF
    refine Goes.stop (fun _ r₁ => ?_)
    replace hF := KnS.rely hF r₁
    clear r₁
    refine goes_le (by omega) (slowGo ?_ _ k _ hF)
    intro k' T cs' h1 h2 h3 h4
    obtain ⟨mT, hT'⟩ := hT k' T cs' h1 h2 h3 h4
    refine ⟨20 + mT, fun w g1 g2 => goW0 (n := 20) (m := mT) ?_⟩
    have hF := And.intro g1 g2
    clear g1 g2
    walk_nrm
    have iT : Own W T.blk := by rw [h3]; infer_instance
    have eo : T.owns = true := (by simp [Th.owns, h1])
    rw [eo]
    repeat w_go koS_rely
    u_leave0 Try.func26 koS_rely hF
    repeat w_go koS_rely
    u_leave0 Try.func19 koS_rely hF
    refine Goes.stop (fun _ r₁ => ?_)
    replace hF := koS_rely hF r₁
    clear r₁
    exact hT' _ hF.1 hF.2
end
end Go.Proofs.Ytapjmifhhbpikaa

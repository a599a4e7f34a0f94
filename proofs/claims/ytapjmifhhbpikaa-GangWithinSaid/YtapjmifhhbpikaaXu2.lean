/- Gangs within gangs: The gang: lockSlow: mu.Unlock(), whole. (Printed by gen_gl.py.) -/
import Derived.Test.YtapjmifhhbpikaaXu
set_option linter.unusedVariables false
set_option linter.unusedSimpArgs false
namespace Go.Proofs.Ytapjmifhhbpikaa
open Go.Conc Go.ConcN Go.ConcM Go.RowKit Go.Conc.Lib Go.ConcR.Gen
open Go.ConcR (KK wgBlock WgAt stA smA rd wr mk)
noncomputable def F0 : Code := firstOfU body27
noncomputable def F3 : Code := firstOfU (rightsU 1 body27)
noncomputable def F4 : Code := firstOfU (rightsU 2 body27)
set_option maxRecDepth 100000 in
theorem body27_eq : body27 = .seq F0 (.seq F3 (.seq F4 F6)) := by
  simp only [F0, F3, F4, F6, firstOfU, rightsU, body27, Try.f27, Option.getD_some]
section
variable {A : Nat → Th → Array Value → Goroutine → World → Prop} {K : Band} [Fam K A] {W : World} {b₀ : Frame} {a₀ : Act} {ops₀ : Array Oper} {i₀ : Nat} {rest₀ : List Nat} {k₀ : List Item} {cs : List Frame} {blk : List Nat}
set_option maxRecDepth 100000 in
set_option maxHeartbeats 32000000 in
theorem iunlockGo (v : Array Value) (hT : UnlK A K W v (G (b₀.at (a₀.put ((ops₀[i₀]?).bind (·.dst)) (.tuple #[])) (.inRegion ops₀ rest₀ :: k₀)) cs)) (k : Nat) (T : Th) (hp : T.pc = .ur) (hb : T.blk = blk) (w : World) (h1 : Kn K W w) (h2 : CAt K v w) :
    GoW Try.prog K T (A k T v) 40 (G ((base 27).at ⟨#[.pointer (some ⟨K.Mu, 0, none⟩), undef, undef, undef, undef, undef, undef, undef, undef, undef, undef, undef, undef, undef, undef, undef, undef, undef, undef, undef, undef], []⟩ [.code body27]) (b₀.at a₀ (.inRegion ops₀ (i₀ :: rest₀) :: k₀) :: cs)) w := by
  obtain ⟨pc, old, aw, sv, it, job, blk'⟩ := T
  simp only at hp hb
  subst hp; subst hb
  have hF := And.intro h1 h2
  clear h1 h2
  rw [body27_eq]
  generalize h0 : F0 = X0
  generalize h3 : F3 = X3
  generalize h4 : F4 = X4
  simp only [F0, F3, F4, firstOfU, rightsU, body27, Try.f27, Option.getD_some] at h0 h3 h4
  subst h0
  subst h3
  subst h4
  refine goW0 (n := 40) (m := 0) ?_
  show Goes Try.prog false (RB K true blk') _ _ _ _ _
  repeat w_go ko_rely
  u_in ko_rely hF
  obtain ⟨x0, hx0⟩ := hF.1.muI
  rw [stepG_loadQ rfl rfl (by k_ne) rfl rfl hx0 q27]
  simp only [goes_go]
  refine ⟨by u_nil, ?_⟩
  clear hx0
  walk_nrm
  repeat w_go ko_rely
  m_convG Try.prog u64_ u78 z48 hF.1.mu.choose_spec ko_rely hF
  -- STOP ur
  refine Goes.stop (fun _ r₁ => ?_)
  replace hF := ko_rely hF r₁
  clear r₁
  refine Goes.stop (fun _ r₁ => ?_)
  replace hF := ko_rely hF r₁
  clear r₁
  rcases k with _ | k
  · exact Fam.zero (K := K) _ _ _ _
  refine Fam.succ (K := K) (A := A) ?_
  refine ⟨rfl, rfl, by simp, fun _ => hF.2, by simp, by simp, fun _ s hs hfit _ cs hcs => ⟨_, s, .mu (.ur rfl), _, _, _, stepG_markAt .releaseMerge (by simp) rfl rfl (by k_ne) rfl Try.func28 x28_n x28_b x28_x x28_f (by simp [Act.eval, muA]), hs, EffB.of (Eff.refl _), rfl, ?_⟩⟩
  replace hF := hF.1
  refine afterW_go (by simp) (by simp) (30 + 200) ?_
  refine goW0 (n := 30) (m := 200) ?_
  walk_nrm
  repeat w_go Kn.rely
  -- STOP ud
  refine Goes.stop (fun _ r₁ => ?_)
  replace hF := Kn.rely hF r₁
  clear r₁
  refine Goes.stop (fun _ r₁ => ?_)
  replace hF := Kn.rely hF r₁
  clear r₁
  rcases k with _ | k
  · exact Fam.zero (K := K) _ _ _ _
  refine Fam.succ (K := K) (A := A) ?_
  refine ⟨rfl, rfl, by simp, by simp, by simp, by simp, fun _ s hs hfit _ cs hcs => ⟨_, s, .mu (.ud rfl), _, _, _, stepG_mark0 .disable (by simp) rfl rfl (by k_ne) rfl Try.func29 x29_n x29_b x29_x x29_f, hs, EffB.of (Eff.refl _), evw_book (by simp) (by simp) (by simp) (by simp) rfl rfl (book_dis 0), ?_⟩⟩
  refine afterW_go (by simp) (by simp) (30 + 200) ?_
  refine goW0 (n := 30) (m := 200) ?_
  walk_nrm
  repeat w_go Kn.rely
  -- STOP u0
  refine Goes.stop (fun _ r₁ => ?_)
  replace hF := Kn.rely hF r₁
  clear r₁
  refine Goes.stop (fun _ r₁ => ?_)
  replace hF := Kn.rely hF r₁
  clear r₁
  rcases k with _ | k
  · exact Fam.zero (K := K) _ _ _ _
  refine Fam.succ (K := K) (A := A) ?_
  refine ⟨rfl, rfl, by simp, by simp, by simp, by simp, fun _ s hs hfit _ cs hcs => ?_⟩
  obtain ⟨⟨L, bW, S, kk⟩, ms, vv, wt, ws⟩ := s
  have hkk : kk < 1000 := hfit.k
  have hL : L = true := hfit.u0 rfl
  subst hL
  have nu : IntKind.i32.wrap (Mx.num ⟨true, bW, S, kk⟩ + -1) = Mx.num ⟨false, bW, S, kk⟩ := num_unl _ _ _ (by omega)
  have hF' := hF.eff (EffB.of (Eff.set (muA K.Mu) (.int .i32 (Mx.num ⟨false, bW, S, kk⟩)) (.inl rfl))) (hs.setMu ⟨false, bW, S, kk⟩)
  by_cases hz : kk = 0 ∧ bW = false ∧ S = false
  · obtain ⟨rfl, rfl, rfl⟩ := hz
    have nz : Mx.num ⟨false, false, false, 0⟩ = 0 := rfl
    refine ⟨_, _, .mu (.u0e rfl rfl (.inl rfl)), _, _, _, stepG_add_atomic rfl rfl (by k_ne) rfl Try.func48 x48_n x48_b x48_x .i32 x48_f rfl rfl hs.1.cellSt (hs.1.thaw 0), (by rw [nu]; exact hs.setMu _), EffB.of (Eff.set _ _ (.inl rfl)), evw_book (by simp) (by simp) (by simp) (by simp) rfl rfl (book_rw 0 (muA K.Mu) (.inl rfl)), ?_⟩
    refine afterW_go (by simp) (by simp) (100 + 200) ?_
    refine goW0 (n := 100) (m := 200) ?_
    simp only [nu]
    replace hF := hF'
    walk_nrm
    repeat w_go Kn.rely
    refine Goes.stop (fun _ r₁ => ?_)
    replace hF := Kn.rely hF r₁
    clear r₁
    exact goes_le (by omega) (ueGo v hT k _ rfl rfl _ _ _ _ _ _ _ _ _ _ _ _ _ _ _ _ _ _ _ _ _ hF)
  · have nz : (Mx.num ⟨false, bW, S, kk⟩ != 0) = true := by
      have : Mx.num ⟨false, bW, S, kk⟩ ≠ 0 := fun e => by
        have := Mx.num_inj (e.trans num_zero.symm)
        simp [Mx.zero] at this
        exact hz ⟨this.2.2, this.1, this.2.1⟩
      simpa using this
    cases S with
    | true =>
      refine ⟨_, _, .mu (.u0x rfl rfl), _, _, _, stepG_add_atomic rfl rfl (by k_ne) rfl Try.func48 x48_n x48_b x48_x .i32 x48_f rfl rfl hs.1.cellSt (hs.1.thaw 0), (by rw [nu]; exact hs.setMu _), EffB.of (Eff.set _ _ (.inl rfl)), evw_book (by simp) (by simp) (by simp) (by simp) rfl rfl (book_rw 0 (muA K.Mu) (.inl rfl)), ?_⟩
      refine afterW_go (by simp) (by simp) (260 + 200) ?_
      refine goW0 (n := 260) (m := 200) ?_
      simp only [nu]
      replace hF := hF'
      walk_nrm
      repeat w_go Kn.rely
      u_call Try.func49 nm49 Try.f49 Kn.rely hF
      refine Goes.stop (fun _ r₁ => ?_)
      replace hF := Kn.rely hF r₁
      clear r₁
      refine goes_le (by omega) (slowA v ?_ k bW kk hkk _ aw sv it job _ hF)
      intro k' T hp hb w hF
      refine goW0 (n := 20) (m := 40) ?_
      walk_nrm
      repeat w_go Kn.rely
      refine Goes.stop (fun _ r₁ => ?_)
      replace hF := Kn.rely hF r₁
      clear r₁
      exact goes_le (by omega) (ueGo v hT k' T hp hb _ _ _ _ _ _ _ _ _ _ _ _ _ _ _ _ _ _ _ _ _ hF)
    | false =>
      by_cases hout : kk = 0 ∨ bW = true
      · refine ⟨_, _, .mu (.u0e rfl rfl hout), _, _, _, stepG_add_atomic rfl rfl (by k_ne) rfl Try.func48 x48_n x48_b x48_x .i32 x48_f rfl rfl hs.1.cellSt (hs.1.thaw 0), (by rw [nu]; exact hs.setMu _), EffB.of (Eff.set _ _ (.inl rfl)), evw_book (by simp) (by simp) (by simp) (by simp) rfl rfl (book_rw 0 (muA K.Mu) (.inl rfl)), ?_⟩
        refine afterW_go (by simp) (by simp) (260 + 200) ?_
        refine goW0 (n := 260) (m := 200) ?_
        simp only [nu]
        replace hF := hF'
        walk_nrm
        repeat w_go Kn.rely
        u_call Try.func49 nm49 Try.f49 Kn.rely hF
        refine Goes.stop (fun _ r₁ => ?_)
        replace hF := Kn.rely hF r₁
        clear r₁
        refine goes_le (by omega) (slowB v ?_ k bW kk hkk hout _ aw sv it job _ hF)
        intro k' T hp hb w hF
        refine goW0 (n := 20) (m := 40) ?_
        walk_nrm
        repeat w_go Kn.rely
        refine Goes.stop (fun _ r₁ => ?_)
        replace hF := Kn.rely hF r₁
        clear r₁
        exact goes_le (by omega) (ueGo v hT k' T hp hb _ _ _ _ _ _ _ _ _ _ _ _ _ _ _ _ _ _ _ _ _ hF)
      · have h1 : kk ≠ 0 := fun h => hout (.inl h)
        have h2 : bW = false := by cases bW; rfl; exact absurd (.inr rfl) hout
        subst h2
        refine ⟨_, _, .mu (.u0c rfl rfl h1 rfl), _, _, _, stepG_add_atomic rfl rfl (by k_ne) rfl Try.func48 x48_n x48_b x48_x .i32 x48_f rfl rfl hs.1.cellSt (hs.1.thaw 0), (by rw [nu]; exact hs.setMu _), EffB.of (Eff.set _ _ (.inl rfl)), evw_book (by simp) (by simp) (by simp) (by simp) rfl rfl (book_rw 0 (muA K.Mu) (.inl rfl)), ?_⟩
        refine afterW_go (by simp) (by simp) (260 + 200) ?_
        refine goW0 (n := 260) (m := 200) ?_
        simp only [nu]
        replace hF := hF'
        walk_nrm
        repeat w_go Kn.rely
        u_call Try.func49 nm49 Try.f49 Kn.rely hF
        refine Goes.stop (fun _ r₁ => ?_)
        replace hF := Kn.rely hF r₁
        clear r₁
        refine goes_le (by omega) (slowC v ?_ k kk hkk h1 aw sv it job _ hF)
        intro k' T hp hb w hF
        refine goW0 (n := 20) (m := 40) ?_
        walk_nrm
        repeat w_go Kn.rely
        refine Goes.stop (fun _ r₁ => ?_)
        replace hF := Kn.rely hF r₁
        clear r₁
        exact goes_le (by omega) (ueGo v hT k' T hp hb _ _ _ _ _ _ _ _ _ _ _ _ _ _ _ _ _ _ _ _ _ hF)
set_option maxRecDepth 100000 in
set_option maxHeartbeats 16000000 in
/-- ████ THE DEFERRED mu.Unlock(), BY THE OWNER. ████ -/
theorem unlockGo {c : Frame} (hcm : c.mode = .returning) (v : Array Value) (hT : UnlK A K W v (G c cs)) (k : Nat) (T : Th) (hp : T.pc = .ur) (hb : T.blk = blk) (w : World) (h1 : Kn K W w) (h2 : CAt K v w) :
    GoW Try.prog K T (A k T v) 60 (G ((baseD 20).at ⟨#[.pointer (some ⟨K.Mu, 0, none⟩), undef, undef, undef, undef, undef], []⟩ [.code body20]) (c :: cs)) w := by
  have hF := And.intro h1 h2
  clear h1 h2
  have eo : T.owns = true := by simp [Th.owns, hp]
  have main : UnlK A K W v (G c cs) → GoW Try.prog K T (A k T v) 60 (G ((baseD 20).at ⟨#[.pointer (some ⟨K.Mu, 0, none⟩), undef, undef, undef, undef, undef], []⟩ [.code body20]) (c :: cs)) w := by
    intro hT
    have key := fun b₀ a₀ ops₀ i₀ rest₀ k₀ cs hT w h1 h2 => iunlockGo (A := A) (K := K) (W := W) (b₀ := b₀) (a₀ := a₀) (ops₀ := ops₀) (i₀ := i₀) (rest₀ := rest₀) (k₀ := k₀) (cs := cs) v hT k T hp hb w h1 h2
    refine goW0 (n := 20) (m := 40) ?_
    rw [eo]
    simp only [body20, Try.f20, Option.getD_some]
    repeat w_go ko_rely
    u_call Try.func27 nm27 Try.f27 ko_rely hF
    refine Goes.stop (fun _ r₁ => ?_)
    replace hF := ko_rely hF r₁
    clear r₁
    refine goes_le (by omega) (key _ _ _ _ _ _ _ ?_ _ hF.1 hF.2)
    intro k'
    obtain ⟨mT, hT'⟩ := hT k'
    refine ⟨20 + mT, fun w hF => goW0 (n := 20) (m := mT) ?_⟩
    walk_nrm
    repeat w_go Kn.rely
    u_in Kn.rely hF
    rw [stepG_leave_deferred rfl rfl Try.func20 (results_none rfl _ _ _) (events_results_none rfl _ _) hcm]
    simp only [goes_go]
    refine ⟨by u_nil, ?_⟩
    refine Goes.stop (fun _ r₁ => ?_)
    replace hF := Kn.rely hF r₁
    clear r₁
    exact hT' _ hF
  exact main hT
end
end Go.Proofs.Ytapjmifhhbpikaa

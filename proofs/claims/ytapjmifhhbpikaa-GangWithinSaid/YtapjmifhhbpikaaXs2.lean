/- Gangs within gangs: the gang: the starter's wg.Wait(): kd, w1, w2, w3, w4, ke, aq. (Printed by gs2.py.) -/
import Derived.Test.YtapjmifhhbpikaaXs1
set_option linter.unusedVariables false
set_option linter.unusedSimpArgs false
namespace Go.Proofs.Ytapjmifhhbpikaa
open Go.Conc Go.ConcN Go.ConcM Go.RowKit Go.Conc.Lib Go.ConcR.Gen
open Go.ConcR (KK wgBlock WgAt stA smA rd wr mk)
noncomputable def body25 : Code := Try.f25.body.getD .skip
noncomputable def LL25 : Code := (findLoop body25).getD .skip
noncomputable def A0 : Code := firstC body25
/-- WHAT STANDS BEHIND THE GANG: goroutine 0 goes on, alone but for those that only leave, to a stop. -/
def FinG (mn : Bool) (R : World → World → Prop) (Stop : Goroutine → World → Prop) (g : Goroutine) (w : World) : Prop := ∃ m, Goes Try.prog mn R Go.ConcR.DC0 Stop m g w
/-- WHAT IS KNOWN BEHIND A GANG: its own words count no more. -/
structure KnF (K : Band) (W w : World) : Prop where
  still : ∀ k, Still K k → w.heap[k]? = W.heap[k]?
  B : K.B0 ≤ w.heap.size
  tape : w.tape = W.tape
  output : w.output = W.output
  os : OsLater W.os w.os
theorem Kn.fin {K : Band} {W w : World} (h : Kn K W w) : KnF K W w := ⟨h.still, h.B, h.tape, h.output, h.os⟩
theorem kff_atRel {K : Band} {W w w₁ : World} {cs : Array Value} (h : KnF K W w ∧ CAt K cs w) (r : AtRel w w₁) : KnF K W w₁ ∧ CAt K cs w₁ := by
  obtain ⟨d, rfl⟩ := r
  exact ⟨⟨h.1.still, h.1.B, h.1.tape, h.1.output, h.1.os⟩, h.2⟩
theorem Kn.atRel {K : Band} {W w w₁ : World} (h : Kn K W w) (r : AtRel w w₁) : Kn K W w₁ := by
  obtain ⟨d, rfl⟩ := r
  exact ⟨⟨h.live.sh, h.live.ch, h.live.row⟩, h.still, h.B, h.tape, h.output, h.os⟩
theorem kf_atRel {K : Band} {W w w₁ : World} {cs : Array Value} (h : Kn K W w ∧ CAt K cs w) (r : AtRel w w₁) : Kn K W w₁ ∧ CAt K cs w₁ := ⟨h.1.atRel r, by obtain ⟨d, rfl⟩ := r; exact h.2⟩
set_option maxRecDepth 100000 in
theorem body25_eq : body25 = .seq A0 (.block 0 (.loop LL25)) := by
  simp only [A0, LL25, body25, firstC, findLoop, Try.f25, Option.getD_some]
theorem wg_one (n : Nat) (hn : n ≤ 1000) : IntKind.u64.wrap ((n : Int) * KK + ((0 : Nat) : Int) + 1) = (n : Int) * KK + (true.toNat : Int) := by
  rw [IntKind.wrap_u64, kk_val]
  simp only [Bool.toNat_true]
  omega
theorem kk_inj {a b : Nat} (h : (a : Int) * KK + ((0 : Nat) : Int) = (b : Int) * KK + ((0 : Nat) : Int)) : a = b := by
  rw [kk_val] at h; omega
section
variable {K : Band} {W : World} {b₀ : Frame} {a₀ : Act} {ops₀ : Array Oper} {i₀ : Nat} {rest₀ : List Nat} {k₀ : List Item} {cs : List Frame}
set_option maxRecDepth 100000 in
set_option maxHeartbeats 32000000 in
/-- THE LOOP IN Wait. -/
theorem waitLoop {Stop : Goroutine → World → Prop} {R : World → World → Prop} (hR : ∀ {w w₁ : World}, KnF K W w ∧ CAt K (full K) w → R w w₁ → KnF K W w₁ ∧ CAt K (full K) w₁) (hend : ∃ m, ∀ w, KnF K W w → CAt K (full K) w → Goes Try.prog K.mn R Go.ConcR.DC0 Stop m (G (b₀.at (a₀.put ((ops₀[i₀]?).bind (·.dst)) (.tuple #[])) (.inRegion ops₀ rest₀ :: k₀)) cs) w) (n sent : Nat) : ∀ (k : Nat) (j1 j2 j3 j4 j5 j6 j7 j8 j9 j10 j11 j12 j13 j14 j15 j16 j17 j18 j19 j20 j21 j22 j23 j24 j25 j26 j27 j28 j29 j30 j31 j32 j33 j34 j35 j36 j37 j38 j39 j40 j41 j42 j43 j44 j45 j46 j47 j48 j49 j50 j51 j52 j53 j54 j55 j56 j57 j58 j59 j60 j61 j62 j63 j64 j65 j66 j67 j68 j69 j70 j71 j72 j73 j74 j75 j76 j77 j78 j79 j80 j81 j82 j83 : Value) (w : World), Kn K W w →
    GoS Try.prog K (AtS Try.prog K (FinG K.mn R Stop) k ⟨.w1, n, sent⟩) 40 (G ((base 25).at ⟨#[.pointer (some ⟨K.Wg, 0, none⟩), j1, j2, j3, j4, j5, j6, j7, j8, j9, j10, j11, j12, j13, j14, j15, j16, j17, j18, j19, j20, j21, j22, j23, j24, j25, j26, j27, j28, j29, j30, j31, j32, j33, j34, j35, j36, j37, j38, j39, j40, j41, j42, j43, j44, j45, j46, j47, j48, j49, j50, j51, j52, j53, j54, j55, j56, j57, j58, j59, j60, j61, j62, j63, j64, j65, j66, j67, j68, j69, j70, j71, j72, j73, j74, j75, j76, j77, j78, j79, j80, j81, j82, j83], []⟩ [.code LL25, .inLoop LL25, .inBlock 0]) (b₀.at a₀ (.inRegion ops₀ (i₀ :: rest₀) :: k₀) :: cs)) w := by
  intro k
  induction k using Nat.strongRecOn with
  | _ k ih =>
  intro j1 j2 j3 j4 j5 j6 j7 j8 j9 j10 j11 j12 j13 j14 j15 j16 j17 j18 j19 j20 j21 j22 j23 j24 j25 j26 j27 j28 j29 j30 j31 j32 j33 j34 j35 j36 j37 j38 j39 j40 j41 j42 j43 j44 j45 j46 j47 j48 j49 j50 j51 j52 j53 j54 j55 j56 j57 j58 j59 j60 j61 j62 j63 j64 j65 j66 j67 j68 j69 j70 j71 j72 j73 j74 j75 j76 j77 j78 j79 j80 j81 j82 j83 w hF
  refine goS0 (n := 40) (m := 0) ?_
  generalize hX : Item.code LL25 = X
  simp only [LL25, body25, findLoop, Try.f25, Option.getD_some] at hX
  subst hX
  repeat w_go Kn.rely
  u_call Try.func37 nm37 Try.f37 Kn.rely hF
  repeat w_go Kn.rely
  -- STOP w1
  refine Goes.stop (fun _ r₁ => ?_)
  replace hF := Kn.rely hF r₁
  clear r₁
  refine Goes.stop (fun _ r₁ => ?_)
  replace hF := Kn.rely hF r₁
  clear r₁
  rcases k with _ | k
  · trivial
  refine ⟨rfl, rfl, by simp, by simp, by simp, by simp, fun _ _ _ _ s hs hfit _ => ?_⟩
  obtain ⟨mu, ms, v, wt, ws⟩ := s
  obtain ⟨hwt, hws⟩ := hfit.op rfl
  have hv : v < 1000 := hfit.v
  simp only at hwt hws
  subst hwt; subst hws
  by_cases hv0 : v = 0
  · -- ALL HAVE SAID Done
    subst hv0
    have e3 : ((0 : Nat) : Int) * KK + (false.toNat : Int) = 0 := by rw [kk_val]; rfl
    refine ⟨.ke, _, .w1z rfl rfl, _, _, _, stepG_load_atomic rfl rfl (by k_ne) rfl Try.func52 x52_n x52_b x52_x .u64 x52_f rfl (by have := hs.2.cellSt; rw [e3] at this; exact this), hs, EffB.of (Eff.refl _), evs_book (by simp) rfl rfl (book_one 0 (stA K.Wg) false (.inr rfl)), ?_⟩
    clear e3 hs hfit
    refine afterS_go (by simp) (80 + 0) ?_
    refine goS0 (n := 80) (m := 0) ?_
    walk_nrm
    repeat w_go Kn.rely
    u_leave1 Try.func37 Kn.rely hF
    repeat w_go Kn.rely
    -- STOP ke
    refine Goes.stop (fun _ r₁ => ?_)
    replace hF := Kn.rely hF r₁
    clear r₁
    refine Goes.stop (fun _ r₁ => ?_)
    replace hF := Kn.rely hF r₁
    clear r₁
    rcases k with _ | k
    · trivial
    refine ⟨rfl, rfl, by simp, by simp, by simp, by simp, fun _ _ _ _ s hs hfit _ => ⟨.aq, s, .ke rfl, _, _, _, stepG_mark0 .enable (by simp) rfl rfl (by k_ne) rfl Try.func30 x30_n x30_b x30_x x30_f, hs, EffB.of (Eff.refl _), evs_book (by simp) rfl rfl (book_en 0), ?_⟩⟩
    refine afterS_go (by simp) (30 + 0) ?_
    refine goS0 (n := 30) (m := 0) ?_
    walk_nrm
    repeat w_go Kn.rely
    m_convG Try.prog u64_ u62 z60 hF.wg.choose_spec Kn.rely hF
    -- STOP aq
    refine Goes.stop (fun _ r₁ => ?_)
    replace hF := Kn.rely hF r₁
    clear r₁
    refine Goes.stop (fun _ r₁ => ?_)
    replace hF := Kn.rely hF r₁
    clear r₁
    rcases k with _ | k
    · trivial
    refine ⟨rfl, rfl, by simp, by simp, by simp, by simp, fun _ _ _ _ s hs hfit _ => ⟨.ret, s, .aq rfl, _, _, _, stepG_markAt .acquire (by simp) rfl rfl (by k_ne) rfl Try.func41 x41_n x41_b x41_x x41_f (by simp [Act.eval, stA]), hs, EffB.of (Eff.refl _), rfl, ?_⟩⟩
    unfold AfterS
    rw [if_pos rfl]
    intro hfull
    replace hF := And.intro hF.fin hfull
    obtain ⟨mE, hE⟩ := hend
    refine ⟨mE + 60, ?_⟩
    walk_nrm
    repeat w_go hR
    u_leave0 Try.func25 hR hF
    exact goes_pad (hE _ hF.1 hF.2) _
  · -- SOME STILL WORK
    refine ⟨.w2 v, _, .w1n rfl hv0, _, _, _, stepG_load_atomic rfl rfl (by k_ne) rfl Try.func52 x52_n x52_b x52_x .u64 x52_f rfl hs.2.cellSt, hs, EffB.of (Eff.refl _), evs_book (by simp) rfl rfl (book_one 0 (stA K.Wg) false (.inr rfl)), ?_⟩
    have f2 := wg_and_lo v 0 (by omega) (by omega)
    have f1 := wg_and_hi v 0 (by omega) (by omega)
    have f3 := wg_shr v 0 (by omega)
    have f4 := i32_small v (by omega)
    have f6 := wg_one v (by omega)
    simp only [Bool.toNat_false] at f6 ⊢
    obtain ⟨X, hX⟩ : ∃ X, (v : Int) * KK + ((0 : Nat) : Int) = X := ⟨_, rfl⟩
    rw [hX] at f1 f2 f3 f6 ⊢
    simp only [Int.natCast_zero] at f2
    clear hs hfit
    have g0 : (v : Int) ≠ 0 := by omega
    obtain ⟨Y, hY⟩ : ∃ Y, (v : Int) * KK + (true.toNat : Int) = Y := ⟨_, rfl⟩
    rw [hY] at f6
    obtain ⟨V, hV⟩ : ∃ V, (v : Int) = V := ⟨_, rfl⟩
    rw [hV] at f3 f4 g0
    have g0b : (V == 0) = false := by simpa using g0
    refine afterS_go (by simp) (80 + 0) ?_
    refine goS0 (n := 80) (m := 0) ?_
    walk_nrm
    repeat w_go Kn.rely
    u_leave1 Try.func37 Kn.rely hF
    repeat w_go Kn.rely
    u_call Try.func43 nm43 Try.f43 Kn.rely hF
    repeat w_go Kn.rely
    -- STOP w2
    refine Goes.stop (fun _ r₁ => ?_)
    replace hF := Kn.rely hF r₁
    clear r₁
    refine Goes.stop (fun _ r₁ => ?_)
    replace hF := Kn.rely hF r₁
    clear r₁
    rcases k with _ | k
    · trivial
    refine ⟨rfl, rfl, by simp, by simp, by simp, by simp, fun _ _ _ _ s hs hfit _ => ?_⟩
    obtain ⟨mu, ms, v2, wt, ws⟩ := s
    obtain ⟨hwt, hws⟩ := hfit.op rfl
    have hv2 : v2 < 1000 := hfit.v
    simp only at hwt hws
    subst hwt; subst hws
    by_cases hvv : v2 = v
    · -- IT HITS
      subst hvv
      have hc := hs.2.cellSt
      simp only [Bool.toNat_false] at hc
      rw [hX] at hc
      refine ⟨.w3, _, .w2h v2 rfl rfl, _, _, _, stepG_cas_hit rfl rfl (by k_ne) rfl Try.func54 x54_n x54_b x54_x .u64 x54_f rfl rfl rfl hc (hs.2.thaw 0), (by rw [← hY]; exact hs.setWg v2 true), EffB.of (Eff.set _ _ (.inr rfl)), evs_book (by simp) rfl rfl (book_rw 0 (stA K.Wg) (.inr rfl)), ?_⟩
      have hF' := hF.eff (EffB.of (Eff.set (stA K.Wg) (.int .u64 ((v2 : Int) * KK + (true.toNat : Int))) (.inr rfl))) (hs.setWg v2 true)
      rw [hY] at hF'
      clear hs hfit hc
      replace hF := hF'
      clear hF'
      refine afterS_go (by simp) (80 + (80 + 0 + 1)) ?_
      refine goS0 (n := 80) (m := 81) ?_
      walk_nrm
      repeat w_go Kn.rely
      u_leave1 Try.func43 Kn.rely hF
      repeat w_go Kn.rely
      m_convG Try.prog u64_ u70 z46 hF.ws.choose_spec Kn.rely hF
      repeat w_go Kn.rely
      refine Goes.stop (fun _ r₁ => ?_)
      replace hF := Kn.rely hF r₁
      clear r₁
      refine Goes.step (n := 80) rfl (fun _ r₁ => ?_)
      replace hF := Kn.rely hF r₁
      clear r₁
      rw [stepG_markAt .write (by simp) rfl rfl (by k_ne) rfl Try.func44 x44_n x44_b x44_x x44_f (ad := ⟨K.Wg, 1, none⟩) (by simp [Act.eval])]
      simp only [goes_go]
      refine ⟨db_said .write (fun _ => rfl) (.inr rfl) rfl hF.B, ?_⟩
      refine goS0 (n := 80) (m := 0) ?_
      walk_nrm
      repeat w_go Kn.rely
      -- STOP w3: IT WAITS
      refine Goes.stop (fun _ r₁ => ?_)
      replace hF := Kn.rely hF r₁
      clear r₁
      refine Goes.stop (fun _ r₁ => ?_)
      replace hF := Kn.rely hF r₁
      clear r₁
      rcases k with _ | k
      · trivial
      refine ⟨rfl, rfl, by simp, by simp, by simp, fun _ s hs h0 => stepG_semacquire_wait rfl rfl rfl Try.func45 x45_n x45_b x45_x x45_f (ad := smA K.Wg) (by simp [Act.eval, smA]) (by have := hs.2.cellSm; rw [h0] at this; exact this), fun _ _ _ _ s hs hfit hws => ?_⟩
      have h1 := hws rfl
      have h1' : (s.ws : Int) ≠ 0 := by omega
      have e1 : (s.ws : Int) - 1 = ((s.ws - 1 : Nat) : Int) := by omega
      refine ⟨.w4, _, .w3 rfl h1, _, _, _, stepG_semacquire rfl rfl (by k_ne) rfl Try.func45 x45_n x45_b x45_x x45_f (by simp [Act.eval, smA]) hs.2.cellSm h1' (hs.2.thaw 1), (by rw [e1]; exact hs.setWs (s.ws - 1)), EffB.of (Eff.set _ _ (.inr rfl)), evs_book (by simp) rfl rfl (book_sem 0 (smA K.Wg) (.inr rfl)), ?_⟩
      simp only [e1]
      replace hF := hF.eff (EffB.of (Eff.set (smA K.Wg) (.int .u32 ((s.ws - 1 : Nat) : Int)) (.inr rfl))) (hs.setWs (s.ws - 1))
      clear hs hfit h1' e1
      refine afterS_go (by simp) (80 + 0) ?_
      refine goS0 (n := 80) (m := 0) ?_
      walk_nrm
      repeat w_go Kn.rely
      u_call Try.func37 nm37 Try.f37 Kn.rely hF
      repeat w_go Kn.rely
      -- STOP w4
      refine Goes.stop (fun _ r₁ => ?_)
      replace hF := Kn.rely hF r₁
      clear r₁
      refine Goes.stop (fun _ r₁ => ?_)
      replace hF := Kn.rely hF r₁
      clear r₁
      rcases k with _ | k
      · trivial
      refine ⟨rfl, rfl, by simp, by simp, by simp, by simp, fun _ _ _ _ s hs hfit _ => ?_⟩
      obtain ⟨mu, ms, v3, wt, ws⟩ := s
      obtain ⟨q1, q2, q3⟩ := hfit.w4 rfl
      simp only at q1 q2 q3
      subst q1; subst q2; subst q3
      have e3 : ((0 : Nat) : Int) * KK + (false.toNat : Int) = 0 := by rw [kk_val]; rfl
      refine ⟨.ke, _, .w4 rfl, _, _, _, stepG_load_atomic rfl rfl (by k_ne) rfl Try.func52 x52_n x52_b x52_x .u64 x52_f rfl (by have := hs.2.cellSt; rw [e3] at this; exact this), hs, EffB.of (Eff.refl _), evs_book (by simp) rfl rfl (book_one 0 (stA K.Wg) false (.inr rfl)), ?_⟩
      clear e3 hs hfit
      refine afterS_go (by simp) (80 + 0) ?_
      refine goS0 (n := 80) (m := 0) ?_
      walk_nrm
      repeat w_go Kn.rely
      u_leave1 Try.func37 Kn.rely hF
      repeat w_go Kn.rely
      -- STOP ke
      refine Goes.stop (fun _ r₁ => ?_)
      replace hF := Kn.rely hF r₁
      clear r₁
      refine Goes.stop (fun _ r₁ => ?_)
      replace hF := Kn.rely hF r₁
      clear r₁
      rcases k with _ | k
      · trivial
      refine ⟨rfl, rfl, by simp, by simp, by simp, by simp, fun _ _ _ _ s hs hfit _ => ⟨.aq, s, .ke rfl, _, _, _, stepG_mark0 .enable (by simp) rfl rfl (by k_ne) rfl Try.func30 x30_n x30_b x30_x x30_f, hs, EffB.of (Eff.refl _), evs_book (by simp) rfl rfl (book_en 0), ?_⟩⟩
      refine afterS_go (by simp) (30 + 0) ?_
      refine goS0 (n := 30) (m := 0) ?_
      walk_nrm
      repeat w_go Kn.rely
      m_convG Try.prog u64_ u62 z60 hF.wg.choose_spec Kn.rely hF
      -- STOP aq
      refine Goes.stop (fun _ r₁ => ?_)
      replace hF := Kn.rely hF r₁
      clear r₁
      refine Goes.stop (fun _ r₁ => ?_)
      replace hF := Kn.rely hF r₁
      clear r₁
      rcases k with _ | k
      · trivial
      refine ⟨rfl, rfl, by simp, by simp, by simp, by simp, fun _ _ _ _ s hs hfit _ => ⟨.ret, s, .aq rfl, _, _, _, stepG_markAt .acquire (by simp) rfl rfl (by k_ne) rfl Try.func41 x41_n x41_b x41_x x41_f (by simp [Act.eval, stA]), hs, EffB.of (Eff.refl _), rfl, ?_⟩⟩
      unfold AfterS
      rw [if_pos rfl]
      intro hfull
      replace hF := And.intro hF.fin hfull
      obtain ⟨mE, hE⟩ := hend
      refine ⟨mE + 60, ?_⟩
      walk_nrm
      repeat w_go hR
      u_leave0 Try.func25 hR hF
      exact goes_pad (hE _ hF.1 hF.2) _
    · -- IT MISSES: once more
      have hc := hs.2.cellSt
      simp only [Bool.toNat_false] at hc
      refine ⟨.w1, _, .w2m v rfl hvv, _, _, _, stepG_cas_miss rfl rfl (by k_ne) rfl Try.func54 x54_n x54_b x54_x .u64 x54_f rfl rfl rfl hc (hs.2.thaw 0) (fun e => hvv (kk_inj (e.trans hX.symm))), hs, EffB.of (Eff.refl _), evs_book (by simp) rfl rfl (book_one 0 (stA K.Wg) false (.inr rfl)), ?_⟩
      clear hs hfit hc
      refine afterS_go (by simp) (80 + 40) ?_
      refine goS0 (n := 80) (m := 40) ?_
      walk_nrm
      repeat w_go Kn.rely
      u_leave1 Try.func43 Kn.rely hF
      repeat w_nl Kn.rely
      u_c stepG_inLoop Kn.rely hF
      refine Goes.stop (fun _ r₁ => ?_)
      replace hF := Kn.rely hF r₁
      clear r₁
      exact ih k (by omega) _ _ _ _ _ _ _ _ _ _ _ _ _ _ _ _ _ _ _ _ _ _ _ _ _ _ _ _ _ _ _ _ _ _ _ _ _ _ _ _ _ _ _ _ _ _ _ _ _ _ _ _ _ _ _ _ _ _ _ _ _ _ _ _ _ _ _ _ _ _ _ _ _ _ _ _ _ _ _ _ _ _ _ _ hF
set_option maxRecDepth 100000 in
set_option maxHeartbeats 16000000 in
/-- ████ wg.Wait(). ████ -/
theorem waitGo {Stop : Goroutine → World → Prop} {R : World → World → Prop} (hR : ∀ {w w₁ : World}, KnF K W w ∧ CAt K (full K) w → R w w₁ → KnF K W w₁ ∧ CAt K (full K) w₁) (hend : ∃ m, ∀ w, KnF K W w → CAt K (full K) w → Goes Try.prog K.mn R Go.ConcR.DC0 Stop m (G (b₀.at (a₀.put ((ops₀[i₀]?).bind (·.dst)) (.tuple #[])) (.inRegion ops₀ rest₀ :: k₀)) cs) w) (n sent k : Nat) (w : World) (hF : Kn K W w) :
    GoS Try.prog K (AtS Try.prog K (FinG K.mn R Stop) k ⟨.kd, n, sent⟩) 40 (G ((base 25).at ⟨#[.pointer (some ⟨K.Wg, 0, none⟩), undef, undef, undef, undef, undef, undef, undef, undef, undef, undef, undef, undef, undef, undef, undef, undef, undef, undef, undef, undef, undef, undef, undef, undef, undef, undef, undef, undef, undef, undef, undef, undef, undef, undef, undef, undef, undef, undef, undef, undef, undef, undef, undef, undef, undef, undef, undef, undef, undef, undef, undef, undef, undef, undef, undef, undef, undef, undef, undef, undef, undef, undef, undef, undef, undef, undef, undef, undef, undef, undef, undef, undef, undef, undef, undef, undef, undef, undef, undef, undef, undef, undef, undef], []⟩ [.code body25]) (b₀.at a₀ (.inRegion ops₀ (i₀ :: rest₀) :: k₀) :: cs)) w := by
  refine goS0 (n := 40) (m := 0) ?_
  rw [body25_eq]
  generalize h0 : A0 = X0
  simp only [A0, body25, firstC, Try.f25, Option.getD_some] at h0
  subst h0
  repeat w_go Kn.rely
  -- STOP kd
  refine Goes.stop (fun _ r₁ => ?_)
  replace hF := Kn.rely hF r₁
  clear r₁
  refine Goes.stop (fun _ r₁ => ?_)
  replace hF := Kn.rely hF r₁
  clear r₁
  rcases k with _ | k
  · trivial
  refine ⟨rfl, rfl, by simp, by simp, by simp, by simp, fun _ _ _ _ s hs hfit _ => ⟨.w1, s, .kd rfl, _, _, _, stepG_mark0 .disable (by simp) rfl rfl (by k_ne) rfl Try.func29 x29_n x29_b x29_x x29_f, hs, EffB.of (Eff.refl _), evs_book (by simp) rfl rfl (book_dis 0), ?_⟩⟩
  refine afterS_go (by simp) (20 + 40) ?_
  refine goS0 (n := 20) (m := 40) ?_
  walk_nrm
  repeat w_but "code.loop" Kn.rely
  u_c stepG_loop Kn.rely hF
  refine Goes.stop (fun _ r₁ => ?_)
  replace hF := Kn.rely hF r₁
  clear r₁
  exact waitLoop hR hend n sent k _ _ _ _ _ _ _ _ _ _ _ _ _ _ _ _ _ _ _ _ _ _ _ _ _ _ _ _ _ _ _ _ _ _ _ _ _ _ _ _ _ _ _ _ _ _ _ _ _ _ _ _ _ _ _ _ _ _ _ _ _ _ _ _ _ _ _ _ _ _ _ _ _ _ _ _ _ _ _ _ _ _ _ _ hF
end
end Go.Proofs.Ytapjmifhhbpikaa

/- Gangs within gangs: The gang: the worker's deferred wg.Done(): wr, wk, d1; then it leaves, or d2, d3, d4 and it leaves. -/
import Derived.Test.YtapjmifhhbpikaaXb
import Derived.Conc.WgGenAddNeg
set_option linter.unusedVariables false
set_option linter.unusedSimpArgs false
namespace Go.Proofs.Ytapjmifhhbpikaa
open Go.Conc Go.ConcN Go.ConcM Go.RowKit Go.Conc.Lib Go.ConcR.Gen
open Go.ConcR (KK wgBlock WgAt stA smA rd wr mk)
/-- More fuel does no harm. -/
theorem quitsD_more {P : Program} : ∀ {n d : Nat} {g : Goroutine}, QuitsD P n d g → QuitsD P (n + 1) d g
  | 0, _, _, h => .inl h
  | _ + 1, _, _, .inl h => .inl h
  | _ + 1, _, _, .inr ⟨hr, g', es, hm, hs, hq⟩ => .inr ⟨hr, g', es, hm, hs, quitsD_more hq⟩
theorem quitsD_le {P : Program} {n n' d : Nat} {g : Goroutine} (h : n ≤ n') (x : QuitsD P n d g) : QuitsD P n' d g := by
  obtain ⟨r, rfl⟩ := Nat.exists_eq_add_of_le h
  induction r with
  | zero => exact x
  | succ r ih => exact quitsD_more (ih (Nat.le_add_right _ _))
theorem afterW_quit {P : Program} {K : Band} {w' : World} {Nx : Th → Array Value → Goroutine → World → Prop} {T T' : Th} {v x : Array Value} {g' : Goroutine} (h1 : T.pc ≠ .la) (h : T'.pc = .quit) (q : Nat) (hq : QuitsD P q 1 g') : AfterW P K Nx T' (if T.pc = .la then x else v) g' w' := by
  rw [if_neg h1]
  unfold AfterW
  rw [if_pos h]
  exact ⟨q, hq⟩
theorem kk_val : KK = 4294967296 := rfl
/-- The group's number behind a Done. -/
theorem wg_dec (n : Nat) (wt : Bool) (hn : n ≤ 1000) : IntKind.u64.wrap (((n + 1 : Nat) : Int) * KK + (wt.toNat : Int) + 18446744069414584320) = (n : Int) * KK + (wt.toNat : Int) := by
  rw [IntKind.wrap_u64, kk_val]
  have : wt.toNat ≤ 1 := by cases wt <;> simp
  omega
theorem wg_inc (n : Nat) (hn : n ≤ 1000) : IntKind.u64.wrap ((n : Int) * KK + 4294967296) = ((n + 1 : Nat) : Int) * KK := by
  rw [IntKind.wrap_u64, kk_val]
  omega
theorem bn63 (a b : Nat) (ha : a < 2 ^ 63) (hb : b < 2 ^ 63) : bits .and .u64 a b = ((a &&& b : Nat) : Int) :=
  (bits_nat .u64 63 (by decide) (fun n h0 h1 => by rw [IntKind.wrap_u64]; omega) a b ha hb).1
theorem wg_and_hi (n t : Nat) (hn : n ≤ 1001) (ht : t ≤ 1) : bits .and .u64 ((n : Int) * KK + (t : Int)) 2147483648 = 0 := by
  have e : ((n : Int) * KK + (t : Int)) = ((n * 4294967296 + t : Nat) : Int) := by rw [kk_val]; omega
  rw [e, show (2147483648 : Int) = ((2147483648 : Nat) : Int) from rfl, bn63 _ _ (by omega) (by omega)]
  have : (n * 4294967296 + t) &&& 2147483648 = 0 := by
    apply Nat.eq_of_testBit_eq
    intro i
    rw [Nat.testBit_and, Nat.zero_testBit, show 2147483648 = 2 ^ 31 from rfl, Nat.testBit_two_pow]
    by_cases hi : 31 = i
    · subst hi
      have : (n * 4294967296 + t).testBit 31 = false := by
        rw [Nat.testBit_eq_decide_div_mod_eq]
        have : (n * 4294967296 + t) / 2 ^ 31 % 2 = 0 := by omega
        simp [this]
      simp [this]
    · simp [hi]
  rw [this]; rfl
theorem wg_and_lo (n t : Nat) (hn : n ≤ 1001) (ht : t ≤ 1) : bits .and .u64 ((n : Int) * KK + (t : Int)) 2147483647 = (t : Int) := by
  have e : ((n : Int) * KK + (t : Int)) = ((n * 4294967296 + t : Nat) : Int) := by rw [kk_val]; omega
  have := bits_mask .u64 63 (by decide) (fun n h0 h1 => by rw [IntKind.wrap_u64]; omega) 31 (by decide) ((n : Int) * KK + (t : Int)) (by rw [e]; omega) (by rw [e]; omega)
  rw [show ((2 : Int) ^ 31 - 1) = 2147483647 from rfl] at this
  rw [this, e]
  omega
theorem wg_shr (n t : Nat) (ht : t ≤ 1) : ((n : Int) * KK + (t : Int)) / 4294967296 = (n : Int) := by rw [kk_val]; omega
theorem i32_small (n : Nat) (hn : n ≤ 1001) : IntKind.i32.wrap (n : Int) = (n : Int) := wraps_i32 _ (by omega) (by omega)
theorem u32_small (n : Nat) (hn : n ≤ 1001) : IntKind.u32.wrap (n : Int) = (n : Int) := by rw [IntKind.wrap_u32]; omega
section
variable {A : Nat → Th → Array Value → Goroutine → World → Prop} {K : Band} [Fam K A] {W : World} {c : Frame} {cs : List Frame} {qt : Nat}
noncomputable def body24 : Code := Try.f24.body.getD .skip
set_option maxRecDepth 100000 in
set_option maxHeartbeats 16000000 in
/-- ████ THE WORKER's DEFERRED wg.Done(). ████ -/
theorem doneGo (hcm : c.mode = .returning) (hT : QuitsD Try.prog qt 0 (G c cs)) (v : Array Value) (k : Nat) (w : World) (hF : Kn K W w) :
    GoW Try.prog K { pc := .wr } (A k { pc := .wr } v) 60 (G ((baseD 24).at ⟨#[.pointer (some ⟨K.Wg, 0, none⟩), undef, undef, undef], []⟩ [.code body24]) (c :: cs)) w := by
  simp only [body24, Try.f24, Option.getD_some]
  refine goW0 (n := 60) (m := 0) ?_
  repeat w_go Kn.rely
  u_call Try.func22 nm22 Try.f22 Kn.rely hF
  repeat w_go Kn.rely
  m_convG Try.prog u64_ u62 z60 hF.wg.choose_spec Kn.rely hF
  -- STOP wr
  refine Goes.stop (fun _ r₁ => ?_)
  replace hF := Kn.rely hF r₁
  clear r₁
  refine Goes.stop (fun _ r₁ => ?_)
  replace hF := Kn.rely hF r₁
  clear r₁
  rcases k with _ | k
  · exact Fam.zero (K := K) _ _ _ _
  refine Fam.succ (K := K) (A := A) ?_
  refine ⟨rfl, rfl, by simp, by simp, by simp, by simp, fun _ s hs hfit _ cs hcs => ⟨_, s, .wr rfl, _, _, _, stepG_markAt .releaseMerge (by simp) rfl rfl (by k_ne) rfl Try.func28 x28_n x28_b x28_x x28_f (by simp [Act.eval, stA]), hs, EffB.of (Eff.refl _), rfl, ?_⟩⟩
  refine afterW_go (by simp) (by simp) (30 + 200) ?_
  refine goW0 (n := 30) (m := 200) ?_
  walk_nrm
  repeat w_go Kn.rely
  -- STOP wk
  refine Goes.stop (fun _ r₁ => ?_)
  replace hF := Kn.rely hF r₁
  clear r₁
  refine Goes.stop (fun _ r₁ => ?_)
  replace hF := Kn.rely hF r₁
  clear r₁
  rcases k with _ | k
  · exact Fam.zero (K := K) _ _ _ _
  refine Fam.succ (K := K) (A := A) ?_
  refine ⟨rfl, rfl, by simp, by simp, by simp, by simp, fun _ s hs hfit _ cs hcs => ⟨_, s, .wk rfl, _, _, _, stepG_mark0 .disable (by simp) rfl rfl (by k_ne) rfl Try.func29 x29_n x29_b x29_x x29_f, hs, EffB.of (Eff.refl _), evw_book (by simp) (by simp) (by simp) (by simp) rfl rfl (book_dis 0), ?_⟩⟩
  refine afterW_go (by simp) (by simp) (90 + 200) ?_
  refine goW0 (n := 90) (m := 200) ?_
  walk_nrm
  repeat w_go Kn.rely
  u_defer Kn.rely hF
  repeat w_go Kn.rely
  u_in Kn.rely hF
  rw [stepG_entry_pure (.bool false) rfl rfl (by k_ne) rfl Try.func31 x31_n x31_b x31_x x31_f]
  simp only [goes_go]
  refine ⟨by u_nil, ?_⟩
  walk_nrm
  repeat w_go Kn.rely
  u_call Try.func35 nm35 Try.f35 Kn.rely hF
  repeat w_go Kn.rely
  m_num
  -- STOP d1
  refine Goes.stop (fun _ r₁ => ?_)
  replace hF := Kn.rely hF r₁
  clear r₁
  refine Goes.stop (fun _ r₁ => ?_)
  replace hF := Kn.rely hF r₁
  clear r₁
  rcases k with _ | k
  · exact Fam.zero (K := K) _ _ _ _
  refine Fam.succ (K := K) (A := A) ?_
  refine ⟨rfl, rfl, by simp, by simp, by simp, by simp, fun _ s hs hfit _ cs hcs => ?_⟩
  obtain ⟨mu, ms, vv, wt, ws⟩ := s
  obtain ⟨hv1, hws⟩ := hfit.d1 rfl
  have hv2 : vv ≤ 1000 := hfit.v
  simp only at hv1 hws
  subst hws
  obtain ⟨n, rfl⟩ : ∃ n, vv = n + 1 := ⟨vv - 1, by omega⟩
  have e1 := wg_dec n wt (by omega)
  by_cases hl : n = 0 ∧ wt = true
  · -- THE LAST: it must wake the starter
    obtain ⟨rfl, rfl⟩ := hl
    refine ⟨_, _, .d1l rfl rfl rfl, _, _, _, stepG_add_atomic rfl rfl (by k_ne) rfl Try.func51 x51_n x51_b x51_x .u64 x51_f rfl rfl hs.2.cellSt (hs.2.thaw 0), (by rw [e1]; exact hs.setWg 0 true), EffB.of (Eff.set _ _ (.inr rfl)), evw_book (by simp) (by simp) (by simp) (by simp) rfl rfl (book_rw 0 (stA K.Wg) (.inr rfl)), ?_⟩
    refine afterW_go (by simp) (by simp) (140 + 200) ?_
    refine goW0 (n := 140) (m := 200) ?_
    rw [e1]
    replace hF := hF.eff (EffB.of (Eff.set (stA K.Wg) (.int .u64 (((0 : Nat) : Int) * KK + (true.toNat : Int))) (.inr rfl))) (hs.setWg 0 true)
    have e2 : ((0 : Nat) : Int) * KK + (true.toNat : Int) = 1 := by rw [kk_val]; rfl
    rw [e2] at hF ⊢
    walk_nrm
    repeat w_go Kn.rely
    u_leave1 Try.func35 Kn.rely hF
    repeat w_go Kn.rely
    u_call Try.func37 nm37 Try.f37 Kn.rely hF
    repeat w_go Kn.rely
    -- STOP d2
    refine Goes.stop (fun _ r₁ => ?_)
    replace hF := Kn.rely hF r₁
    clear r₁
    refine Goes.stop (fun _ r₁ => ?_)
    replace hF := Kn.rely hF r₁
    clear r₁
    rcases k with _ | k
    · exact Fam.zero (K := K) _ _ _ _
    refine Fam.succ (K := K) (A := A) ?_
    refine ⟨rfl, rfl, by simp, by simp, by simp, by simp, fun _ s hs hfit _ cs hcs => ?_⟩
    obtain ⟨mu, ms, vv, wt, ws⟩ := s
    obtain ⟨h1, h2, h3⟩ := hfit.d2 (.inl rfl)
    simp only at h1 h2 h3
    subst h1; subst h2; subst h3
    refine ⟨_, _, .d2 rfl, _, _, _, stepG_load_atomic rfl rfl (by k_ne) rfl Try.func52 x52_n x52_b x52_x .u64 x52_f rfl (by have := hs.2.cellSt; rw [e2] at this; exact this), hs, EffB.of (Eff.refl _), evw_book (by simp) (by simp) (by simp) (by simp) rfl rfl (book_one 0 (stA K.Wg) false (.inr rfl)), ?_⟩
    refine afterW_go (by simp) (by simp) (60 + 200) ?_
    refine goW0 (n := 60) (m := 200) ?_
    walk_nrm
    repeat w_go Kn.rely
    u_leave1 Try.func37 Kn.rely hF
    repeat w_go Kn.rely
    u_call Try.func38 nm38 Try.f38 Kn.rely hF
    repeat w_go Kn.rely
    -- STOP d3
    refine Goes.stop (fun _ r₁ => ?_)
    replace hF := Kn.rely hF r₁
    clear r₁
    refine Goes.stop (fun _ r₁ => ?_)
    replace hF := Kn.rely hF r₁
    clear r₁
    rcases k with _ | k
    · exact Fam.zero (K := K) _ _ _ _
    refine Fam.succ (K := K) (A := A) ?_
    refine ⟨rfl, rfl, by simp, by simp, by simp, by simp, fun _ s hs hfit _ cs hcs => ?_⟩
    obtain ⟨mu, ms, vv, wt, ws⟩ := s
    obtain ⟨h1, h2, h3⟩ := hfit.d2 (.inr rfl)
    simp only at h1 h2 h3
    subst h1; subst h2; subst h3
    have e3 : ((0 : Nat) : Int) * KK + (false.toNat : Int) = 0 := by rw [kk_val]; rfl
    have hs3 := hs.setWg 0 false
    rw [e3] at hs3
    refine ⟨_, _, .d3 rfl, _, _, _, stepG_store_atomic rfl rfl (by k_ne) rfl Try.func53 x53_n x53_b x53_x x53_f rfl rfl hs.2.cellSt (hs.2.thaw 0), hs3, EffB.of (Eff.set _ _ (.inr rfl)), evw_book (by simp) (by simp) (by simp) (by simp) rfl rfl (book_one 0 (stA K.Wg) true (.inr rfl)), ?_⟩
    replace hF := hF.eff (EffB.of (Eff.set (stA K.Wg) (.int .u64 0) (.inr rfl))) hs3
    refine afterW_go (by simp) (by simp) (60 + 200) ?_
    refine goW0 (n := 60) (m := 200) ?_
    walk_nrm
    repeat w_go Kn.rely
    u_leave0 Try.func38 Kn.rely hF
    repeat w_go Kn.rely
    -- STOP d4: IT MAY WAKE
    refine Goes.stop (fun _ r₁ => ?_)
    replace hF := Kn.rely hF r₁
    clear r₁
    refine Goes.stop (fun _ r₁ => ?_)
    replace hF := Kn.rely hF r₁
    clear r₁
    rcases k with _ | k
    · exact Fam.zero (K := K) _ _ _ _
    refine Fam.succ (K := K) (A := A) ?_
    refine ⟨rfl, rfl, fun _ => mayWake_entry rfl rfl Try.func40 x40_b, by simp, by simp, by simp, fun _ s hs hfit _ cs hcs => ?_⟩
    obtain ⟨mu, ms, vv, wt, ws⟩ := s
    obtain ⟨h1, h2, h3⟩ := hfit.d4 rfl
    simp only at h1 h2 h3
    subst h1; subst h2; subst h3
    have hw1 : IntKind.u32.wrap (((0 : Nat) : Int) + 1) = ((1 : Nat) : Int) := by decide
    refine ⟨_, _, .d4 rfl, _, _, _, stepG_semrelease rfl rfl (by k_ne) rfl Try.func40 x40_n x40_b x40_x x40_f (by simp [Act.eval, smA]) hs.2.cellSm (hs.2.thaw 1), (by rw [hw1]; exact hs.setWs 1), EffB.of (Eff.set _ _ (.inr rfl)), evw_book (by simp) (by simp) (by simp) (by simp) rfl rfl (book_sem 0 (smA K.Wg) (.inr rfl)), ?_⟩
    -- IT ONLY LEAVES
    refine afterW_quit (by simp) rfl (qt + 200) ?_
    walk_nrm
    repeat (q_go; try q_fix)
    refine QuitsD.unwind_mark .enable rfl (by simp) rfl Try.func30 x30_n x30_b x30_x x30_f ?_
    simp only [deafBehind_enable1]
    q_leave0 Try.func22
    repeat (q_go; try q_fix)
    exact quitsD_le (by omega) (QuitsD.leaveD rfl rfl Try.func24 rfl hcm hT)
  · -- IT ONLY LEAVES
    refine ⟨_, _, .d1q rfl (fun h => hl ⟨by have := h.1; simp at this; exact this, h.2⟩), _, _, _, stepG_add_atomic rfl rfl (by k_ne) rfl Try.func51 x51_n x51_b x51_x .u64 x51_f rfl rfl hs.2.cellSt (hs.2.thaw 0), (by rw [e1]; exact hs.setWg n wt), EffB.of (Eff.set _ _ (.inr rfl)), evw_book (by simp) (by simp) (by simp) (by simp) rfl rfl (book_rw 0 (stA K.Wg) (.inr rfl)), ?_⟩
    refine afterW_quit (by simp) rfl (qt + 200) ?_
    simp only [e1]
    have ht : wt.toNat ≤ 1 := by cases wt <;> simp
    by_cases hn0 : n = 0
    · subst hn0
      have hwf : wt = false := by cases wt; rfl; exact absurd ⟨rfl, rfl⟩ hl
      subst hwf
      have e3 : ((0 : Nat) : Int) * KK + (false.toNat : Int) = 0 := by rw [kk_val]; rfl
      simp only [e3]
      clear e3 e1 hl hs hfit
      walk_nrm
      show QuitsD Try.prog (qt + 200) 1 _
      q_go
      repeat (q_go; try q_fix)
      q_leave1 Try.func35
      repeat (q_go; try q_fix)
      refine QuitsD.unwind_mark .enable rfl (by simp) rfl Try.func30 x30_n x30_b x30_x x30_f ?_
      simp only [deafBehind_enable1]
      q_leave0 Try.func22
      repeat (q_go; try q_fix)
      exact quitsD_le (by omega) (QuitsD.leaveD rfl rfl Try.func24 rfl hcm hT)
    · obtain ⟨n', rfl⟩ : ∃ n', n = n' + 1 := ⟨n - 1, by omega⟩
      have f1 := wg_and_hi (n' + 1) wt.toNat (by omega) ht
      have f2 := wg_and_lo (n' + 1) wt.toNat (by omega) ht
      have f3 := wg_shr (n' + 1) wt.toNat ht
      have f4 := i32_small (n' + 1) (by omega)
      have f5 := u32_small wt.toNat (by omega)
      generalize (((n' + 1 : Nat) : Int) * KK + (wt.toNat : Int)) = X at f1 f2 f3 ⊢
      have g1 : ¬ (((n' + 1 : Nat) : Int) < 0) := by omega
      have g2 : (0 : Int) < ((n' + 1 : Nat) : Int) := by omega
      have g3 : ((n' + 1 : Nat) : Int) ≠ -1 := by omega
      generalize ((n' + 1 : Nat) : Int) = Y at f3 f4 g1 g2 g3
      have hz : (wt.toNat : Int) = 0 ∨ (wt.toNat : Int) = 1 := by cases wt <;> simp
      generalize (wt.toNat : Int) = Z at f2 f5 hz
      clear e1 hl hs hfit
      rcases hz with rfl | rfl
      all_goals
        walk_nrm
        show QuitsD Try.prog (qt + 200) 1 _
        q_go
        repeat (q_go; try q_fix)
        q_leave1 Try.func35
        repeat (q_go; try q_fix)
        refine QuitsD.unwind_mark .enable rfl (by simp) rfl Try.func30 x30_n x30_b x30_x x30_f ?_
        simp only [deafBehind_enable1]
        q_leave0 Try.func22
        repeat (q_go; try q_fix)
        exact quitsD_le (by omega) (QuitsD.leaveD rfl rfl Try.func24 rfl hcm hT)
end
end Go.Proofs.Ytapjmifhhbpikaa

/- Gangs within gangs: The gang: lockSlow: mu.Unlock(), by the owner. (Printed by gen_gl.py.) -/
import Derived.Test.YtapjmifhhbpikaaXl1
import Derived.Conc.WgGenAddNeg
set_option linter.unusedVariables false
set_option linter.unusedSimpArgs false
namespace Go.Proofs.Ytapjmifhhbpikaa
open Go.Conc Go.ConcN Go.ConcM Go.RowKit Go.Conc.Lib Go.ConcR.Gen
open Go.ConcR (KK wgBlock WgAt stA smA rd wr mk)
def firstOfU : Code → Code
  | .seq x _ => x
  | c => c
def rightsU : Nat → Code → Code
  | 0, c => c
  | n + 1, .seq _ y => rightsU n y
  | _, c => c
def thenOfU : Code → Code
  | .cond _ x _ => x
  | c => c
def elseOfU : Code → Code
  | .cond _ _ y => y
  | c => c
noncomputable def body49 : Code := Try.f49.body.getD .skip
noncomputable def LL49 : Code := (findLoop body49).getD .skip
noncomputable def E0 : Code := firstOfU body49
noncomputable def E2 : Code := firstOfU (rightsU 1 body49)
noncomputable def E3 : Code := firstOfU (thenOfU (rightsU 2 body49))
noncomputable def E9 : Code := elseOfU (rightsU 2 body49)
set_option maxRecDepth 100000 in
theorem body49_eq : body49 = .seq E0 (.seq E2 (.cond (.tmp 12) (.seq E3 (.block 0 (.loop LL49))) E9)) := by
  simp only [E0, E2, E3, E9, firstOfU, rightsU, thenOfU, elseOfU, behindFirst, body49, LL49, findLoop, Try.f49, Option.getD_some]
def innerU : Code → Code
  | .block _ c => c
  | c => c
noncomputable def E4 : Code := firstOfU (innerU LL49)
noncomputable def E5 : Code := firstOfU (rightsU 1 (innerU LL49))
noncomputable def E6 : Code := firstOfU (rightsU 2 (innerU LL49))
noncomputable def E8 : Code := rightsU 3 (innerU LL49)
set_option maxRecDepth 100000 in
theorem ll49_eq : LL49 = .block 1 (.seq E4 (.seq E5 (.seq E6 E8))) := by
  simp only [E4, E5, E6, E8, innerU, firstOfU, rightsU, thenOfU, elseOfU, behindFirst, body49, LL49, findLoop, Try.f49, Option.getD_some]
/-- What is asked behind unlockSlow. -/
def SlowK (A : Nat → Th → Array Value → Goroutine → World → Prop) (K : Band) (W : World) (b₁ : Frame) (a₁ : Act) (ops₁ : Array Oper) (i₁ : Nat) (rest₁ : List Nat) (k₁ : List Item) (cs₁ : List Frame) (blk : List Nat) (v : Array Value) : Prop :=
  ∀ (k' : Nat) (T : Th), T.pc = .ue → T.blk = blk → ∀ w, Kn K W w → GoW Try.prog K T (A k' T v) 60 (G (b₁.at (a₁.put ((ops₁[i₁]?).bind (·.dst)) (.tuple #[])) (.inRegion ops₁ rest₁ :: k₁)) cs₁) w
section
variable {A : Nat → Th → Array Value → Goroutine → World → Prop} {K : Band} [Fam K A] {W : World} {b₁ : Frame} {a₁ : Act} {ops₁ : Array Oper} {i₁ : Nat} {rest₁ : List Nat} {k₁ : List Item} {cs₁ : List Frame} {job : Nat} {blk : List Nat}
set_option maxRecDepth 100000 in
set_option maxHeartbeats 16000000 in
theorem ulOut (v : Array Value) (hU : SlowK A K W b₁ a₁ ops₁ i₁ rest₁ k₁ cs₁ blk v) (k : Nat) (L bW S : Bool) (kk : Nat) (hkk : kk < 1000) (hout : kk = 0 ∨ L = true ∨ bW = true ∨ S = true) (old : Mx) (aw sv : Bool) (it job : Nat) :
    ∀ (j1 j2 j3 j5 j6 j7 j8 j9 j10 j11 j12 j13 j14 j15 j16 j17 j18 j19 j20 j21 j22 j23 j24 j25 j26 j27 j28 j29 j30 j31 j32 j33 j34 j35 j36 j37 j38 j39 j40 j41 j42 : Value) (w : World), Kn K W w → GoW Try.prog K { pc := .ue, old := old, aw := aw, sv := sv, it := it, job := job, blk := blk } (A k { pc := .ue, old := old, aw := aw, sv := sv, it := it, job := job, blk := blk } v) 100 (G ((base 49).at ⟨#[.pointer (some ⟨K.Mu, 0, none⟩), j1, j2, j3, .int .i32 (Mx.num ⟨L, bW, S, kk⟩), j5, j6, j7, j8, j9, j10, j11, j12, j13, j14, j15, j16, j17, j18, j19, j20, j21, j22, j23, j24, j25, j26, j27, j28, j29, j30, j31, j32, j33, j34, j35, j36, j37, j38, j39, j40, j41, j42], []⟩ [.code LL49, .inLoop LL49, .inBlock 0]) (b₁.at a₁ (.inRegion ops₁ (i₁ :: rest₁) :: k₁) :: cs₁)) w := by
  intro j1 j2 j3 j5 j6 j7 j8 j9 j10 j11 j12 j13 j14 j15 j16 j17 j18 j19 j20 j21 j22 j23 j24 j25 j26 j27 j28 j29 j30 j31 j32 j33 j34 j35 j36 j37 j38 j39 j40 j41 j42 w hF
  have _u : Fam K A := inferInstance
  refine goW0 (n := 40) (m := 60) ?_
  have e2 : Item.code LL49 = Item.code (.block 1 (.seq E4 (.seq E5 (.seq E6 E8)))) := by rw [← ll49_eq]
  rw [e2]
  clear e2
  generalize hE4 : E4 = XE4
  simp only [E4, innerU, firstOfU, rightsU, thenOfU, elseOfU, behindFirst, body49, LL49, findLoop, Try.f49, Option.getD_some] at hE4
  subst hE4
  have sh : Mx.num ⟨L, bW, S, kk⟩ / 8 = (kk : Int) := num_shr _ _ _ _
  by_cases hk0 : kk = 0
  · subst hk0
    repeat w_go Kn.rely
    u_leave0 Try.func49 Kn.rely hF
    refine Goes.stop (fun _ r₁ => ?_)
    replace hF := Kn.rely hF r₁
    clear r₁
    exact goes_le (by omega) (hU k { pc := .ue, old := old, aw := aw, sv := sv, it := it, job := job, blk := blk } rfl rfl _ hF)
  · have k1 : ((kk : Int) == 0) = false := by simp; omega
    have hlow : lowN L bW S ≠ 0 := by
      rcases hout with h | h | h | h
      · exact absurd h hk0
      · subst h; cases bW <;> cases S <;> decide
      · subst h; cases L <;> cases S <;> decide
      · subst h; cases L <;> cases bW <;> decide
    have a7 : (bits .and .i32 (Mx.num ⟨L, bW, S, kk⟩) 7 != 0) = true := by
      rw [show (7 : Int) = ((7 : Nat) : Int) from rfl, num_and _ _ _ _ 7 (by omega) (by decide)]
      revert hlow
      cases L <;> cases bW <;> cases S <;> intro h <;> first | rfl | exact absurd rfl h
    repeat w_go Kn.rely
    u_leave0 Try.func49 Kn.rely hF
    refine Goes.stop (fun _ r₁ => ?_)
    replace hF := Kn.rely hF r₁
    clear r₁
    exact goes_le (by omega) (hU k { pc := .ue, old := old, aw := aw, sv := sv, it := it, job := job, blk := blk } rfl rfl _ hF)
set_option maxRecDepth 100000 in
set_option maxHeartbeats 16000000 in
theorem ulIn (v : Array Value) (hU : SlowK A K W b₁ a₁ ops₁ i₁ rest₁ k₁ cs₁ blk v) (aw sv : Bool) (it job : Nat) : ∀ (k : Nat) (kk : Nat), kk < 1000 → kk ≠ 0 →
    ∀ (j1 j2 j3 j5 j6 j7 j8 j9 j10 j11 j12 j13 j14 j15 j16 j17 j18 j19 j20 j21 j22 j23 j24 j25 j26 j27 j28 j29 j30 j31 j32 j33 j34 j35 j36 j37 j38 j39 j40 j41 j42 : Value) (w : World), Kn K W w → GoW Try.prog K { pc := .uc, old := ⟨false, false, false, kk⟩, aw := aw, sv := sv, it := it, job := job, blk := blk } (A k { pc := .uc, old := ⟨false, false, false, kk⟩, aw := aw, sv := sv, it := it, job := job, blk := blk } v) 60 (G ((base 49).at ⟨#[.pointer (some ⟨K.Mu, 0, none⟩), j1, j2, j3, .int .i32 (Mx.num ⟨false, false, false, kk⟩), j5, j6, j7, j8, j9, j10, j11, j12, j13, j14, j15, j16, j17, j18, j19, j20, j21, j22, j23, j24, j25, j26, j27, j28, j29, j30, j31, j32, j33, j34, j35, j36, j37, j38, j39, j40, j41, j42], []⟩ [.code LL49, .inLoop LL49, .inBlock 0]) (b₁.at a₁ (.inRegion ops₁ (i₁ :: rest₁) :: k₁) :: cs₁)) w := by
  intro k
  induction k using Nat.strongRecOn with
  | _ k ih =>
  intro kk hkk hk0
  obtain ⟨k0, rfl⟩ : ∃ k0, kk = k0 + 1 := ⟨kk - 1, by omega⟩
  intro j1 j2 j3 j5 j6 j7 j8 j9 j10 j11 j12 j13 j14 j15 j16 j17 j18 j19 j20 j21 j22 j23 j24 j25 j26 j27 j28 j29 j30 j31 j32 j33 j34 j35 j36 j37 j38 j39 j40 j41 j42 w hF
  refine goW0 (n := 60) (m := 0) ?_
  have e2 : Item.code LL49 = Item.code (.block 1 (.seq E4 (.seq E5 (.seq E6 E8)))) := by rw [← ll49_eq]
  rw [e2]
  clear e2
  generalize hE4 : E4 = XE4
  generalize hE5 : E5 = XE5
  generalize hE6 : E6 = XE6
  simp only [E4, E5, E6, innerU, firstOfU, rightsU, thenOfU, elseOfU, behindFirst, body49, LL49, findLoop, Try.f49, Option.getD_some] at hE4 hE5 hE6
  subst hE4
  subst hE5
  subst hE6
  have sh : Mx.num ⟨false, false, false, k0 + 1⟩ / 8 = (k0 : Int) + 1 := by rw [num_shr]; simp
  have k1 : ((k0 : Int) + 1 == 0) = false := by simp; omega
  have a7 : bits .and .i32 (Mx.num ⟨false, false, false, k0 + 1⟩) 7 = 0 := num_and _ _ _ _ 7 (by omega) (by decide)
  have s8 : IntKind.i32.wrap (Mx.num ⟨false, false, false, k0 + 1⟩ - 8) = Mx.num ⟨false, false, false, k0⟩ := num_sub8 _ _ _ _ (by omega)
  have o2 : bits .or .i32 (Mx.num ⟨false, false, false, k0⟩) 2 = Mx.num ⟨false, true, false, k0⟩ := num_or2 _ _ _ _ (by omega)
  repeat w_go Kn.rely
  -- STOP uc
  refine Goes.stop (fun _ r₁ => ?_)
  replace hF := Kn.rely hF r₁
  clear r₁
  refine Goes.stop (fun _ r₁ => ?_)
  replace hF := Kn.rely hF r₁
  clear r₁
  rcases k with _ | k
  · exact Fam.zero (K := K) _ _ _ _
  refine Fam.succ (K := K) (A := A) ?_
  refine ⟨rfl, rfl, by simp, by simp, by simp, by simp, fun _ s hs hfit _ cs hcs => ?_⟩
  obtain ⟨mu, ms, vv, wt, ws⟩ := s
  by_cases hm : mu = ⟨false, false, false, k0 + 1⟩
  · subst hm
    refine ⟨_, _, .mu (.uch rfl rfl), _, _, _, stepG_cas_hit rfl rfl (by k_ne) rfl Try.func46 x46_n x46_b x46_x .i32 x46_f rfl rfl rfl hs.1.cellSt (hs.1.thaw 0), hs.setMu ⟨false, true, false, k0⟩, EffB.of (Eff.set _ _ (.inl rfl)), evw_book (by simp) (by simp) (by simp) (by simp) rfl rfl (book_rw 0 (muA K.Mu) (.inl rfl)), ?_⟩
    replace hF := hF.eff (EffB.of (Eff.set (muA K.Mu) (.int .i32 (Mx.num ⟨false, true, false, k0⟩)) (.inl rfl))) (hs.setMu ⟨false, true, false, k0⟩)
    refine afterW_go (by simp) (by simp) (40 + 200) ?_
    refine goW0 (n := 40) (m := 200) ?_
    walk_nrm
    repeat w_go Kn.rely
    -- STOP us: IT MAY WAKE
    refine Goes.stop (fun _ r₁ => ?_)
    replace hF := Kn.rely hF r₁
    clear r₁
    refine Goes.stop (fun _ r₁ => ?_)
    replace hF := Kn.rely hF r₁
    clear r₁
    rcases k with _ | k
    · exact Fam.zero (K := K) _ _ _ _
    refine Fam.succ (K := K) (A := A) ?_
    refine ⟨rfl, rfl, fun _ => mayWake_entry rfl rfl Try.func61 x61_b, by simp, by simp, by simp, fun _ s hs hfit _ cs hcs => ?_⟩
    obtain ⟨mu, ms, vv, wt, ws⟩ := s
    have h0 : ms = 0 := hfit.us (.inl rfl)
    subst h0
    have hw1 : IntKind.u32.wrap (((0 : Nat) : Int) + 1) = ((1 : Nat) : Int) := by decide
    refine ⟨_, _, .mu (.us rfl), _, _, _, stepG_semrelease rfl rfl (by k_ne) rfl Try.func61 x61_n x61_b x61_x x61_f (by simp [Act.eval, msA]) hs.1.cellSm (hs.1.thaw 1), (by rw [hw1]; exact hs.setMs 1), EffB.of (Eff.set _ _ (.inl rfl)), evw_book (by simp) (by simp) (by simp) (by simp) rfl rfl (book_sem 0 (msA K.Mu) (.inl rfl)), ?_⟩
    refine afterW_go (by simp) (by simp) (100 + 200) ?_
    refine goW0 (n := 100) (m := 200) ?_
    rw [hw1]
    replace hF := hF.eff (EffB.of (Eff.set (msA K.Mu) (.int .u32 ((1 : Nat) : Int)) (.inl rfl))) (hs.setMs 1)
    walk_nrm
    repeat w_go Kn.rely
    u_leave0 Try.func49 Kn.rely hF
    refine Goes.stop (fun _ r₁ => ?_)
    replace hF := Kn.rely hF r₁
    clear r₁
    exact goes_le (by omega) (hU _ _ rfl rfl _ hF)
  · refine ⟨_, _, .mu (.ucm rfl hm), _, _, _, stepG_cas_miss rfl rfl (by k_ne) rfl Try.func46 x46_n x46_b x46_x .i32 x46_f rfl rfl rfl hs.1.cellSt (hs.1.thaw 0) (num_ne hm), hs, EffB.of (Eff.refl _), evw_book (by simp) (by simp) (by simp) (by simp) rfl rfl (book_one 0 (muA K.Mu) false (.inl rfl)), ?_⟩
    refine afterW_go (by simp) (by simp) (40 + 200) ?_
    refine goW0 (n := 40) (m := 200) ?_
    walk_nrm
    generalize hE8 : E8 = XE8
    simp only [E8, innerU, firstOfU, rightsU, thenOfU, elseOfU, behindFirst, body49, LL49, findLoop, Try.f49, Option.getD_some] at hE8
    subst hE8
    repeat w_go Kn.rely
    -- STOP ux
    refine Goes.stop (fun _ r₁ => ?_)
    replace hF := Kn.rely hF r₁
    clear r₁
    refine Goes.stop (fun _ r₁ => ?_)
    replace hF := Kn.rely hF r₁
    clear r₁
    rcases k with _ | k
    · exact Fam.zero (K := K) _ _ _ _
    refine Fam.succ (K := K) (A := A) ?_
    refine ⟨rfl, rfl, by simp, by simp, by simp, by simp, fun _ s hs hfit _ cs hcs => ?_⟩
    obtain ⟨⟨L, bW, S, kk⟩, ms, vv, wt, ws⟩ := s
    have hkk' : kk < 1000 := hfit.k
    by_cases hout : kk = 0 ∨ L = true ∨ bW = true ∨ S = true
    · refine ⟨_, _, .mu (.uxe rfl hout), _, _, _, stepG_loadQ rfl rfl (by k_ne) rfl rfl hs.1.cellSt q49, hs, EffB.of (Eff.refl _), evw_book (by simp) (by simp) (by simp) (by simp) rfl rfl (book_nil 1), ?_⟩
      have hH := ulOut v hU k L bW S kk hkk' hout ⟨false, false, false, k0 + 1⟩ aw sv it job
      refine afterW_go (by simp) (by simp) (150 + 200) ?_
      refine goW0 (n := 150) (m := 200) ?_
      walk_nrm
      repeat w_nl Kn.rely
      u_c stepG_inLoop Kn.rely hF
      refine Goes.stop (fun _ r₁ => ?_)
      replace hF := Kn.rely hF r₁
      clear r₁
      exact goes_le (by omega) (hH _ _ _ _ _ _ _ _ _ _ _ _ _ _ _ _ _ _ _ _ _ _ _ _ _ _ _ _ _ _ _ _ _ _ _ _ _ _ _ _ _ _ hF)
    · have h1 : kk ≠ 0 := fun h => hout (.inl h)
      have h2 : L = false := by cases L; rfl; exact absurd (.inr (.inl rfl)) hout
      have h3 : bW = false := by cases bW; rfl; exact absurd (.inr (.inr (.inl rfl))) hout
      have h4 : S = false := by cases S; rfl; exact absurd (.inr (.inr (.inr rfl))) hout
      subst h2; subst h3; subst h4
      refine ⟨_, _, .mu (.uxc rfl h1 rfl rfl rfl), _, _, _, stepG_loadQ rfl rfl (by k_ne) rfl rfl hs.1.cellSt q49, hs, EffB.of (Eff.refl _), evw_book (by simp) (by simp) (by simp) (by simp) rfl rfl (book_nil 1), ?_⟩
      have hH := ih k (by omega) kk hkk' h1
      refine afterW_go (by simp) (by simp) (150 + 200) ?_
      refine goW0 (n := 150) (m := 200) ?_
      walk_nrm
      repeat w_nl Kn.rely
      u_c stepG_inLoop Kn.rely hF
      refine Goes.stop (fun _ r₁ => ?_)
      replace hF := Kn.rely hF r₁
      clear r₁
      exact goes_le (by omega) (hH _ _ _ _ _ _ _ _ _ _ _ _ _ _ _ _ _ _ _ _ _ _ _ _ _ _ _ _ _ _ _ _ _ _ _ _ _ _ _ _ _ _ hF)
end
section
variable {A : Nat → Th → Array Value → Goroutine → World → Prop} {K : Band} [Fam K A] {W : World} {b₁ : Frame} {a₁ : Act} {ops₁ : Array Oper} {i₁ : Nat} {rest₁ : List Nat} {k₁ : List Item} {cs₁ : List Frame} {job : Nat} {blk : List Nat}
set_option maxRecDepth 100000 in
set_option maxHeartbeats 16000000 in
theorem slowB (v : Array Value) (hU : SlowK A K W b₁ a₁ ops₁ i₁ rest₁ k₁ cs₁ blk v) (k : Nat) (bW : Bool) (kk : Nat) (hkk : kk < 1000) (hout : kk = 0 ∨ bW = true) (old : Mx) (aw sv : Bool) (it job : Nat) (w : World) (hF : Kn K W w) :
    GoW Try.prog K { pc := .ue, old := old, aw := aw, sv := sv, it := it, job := job, blk := blk } (A k { pc := .ue, old := old, aw := aw, sv := sv, it := it, job := job, blk := blk } v) 200 (G ((base 49).at ⟨#[.pointer (some ⟨K.Mu, 0, none⟩), .int .i32 (Mx.num ⟨false, bW, false, kk⟩), undef, undef, undef, undef, undef, undef, undef, undef, undef, undef, undef, undef, undef, undef, undef, undef, undef, undef, undef, undef, undef, undef, undef, undef, undef, undef, undef, undef, undef, undef, undef, undef, undef, undef, undef, undef, undef, undef, undef, undef, undef], []⟩ [.code body49]) (b₁.at a₁ (.inRegion ops₁ (i₁ :: rest₁) :: k₁) :: cs₁)) w := by
  rw [body49_eq]
  generalize hE0 : E0 = XE0
  generalize hE2 : E2 = XE2
  generalize hE3 : E3 = XE3
  simp only [E0, E2, E3, firstOfU, rightsU, thenOfU, elseOfU, behindFirst, body49, LL49, findLoop, Try.f49, Option.getD_some] at hE0 hE2 hE3
  subst hE0
  subst hE2
  subst hE3
  have rl : IntKind.i32.wrap (Mx.num ⟨false, bW, false, kk⟩ + 1) = Mx.num ⟨true, bW, false, kk⟩ := num_rel _ _ _ (by omega)
  have a1 : bits .and .i32 (Mx.num ⟨true, bW, false, kk⟩) 1 = 1 := by rw [show (1 : Int) = ((1 : Nat) : Int) from rfl, num_and _ _ _ _ 1 (by omega) (by decide)]; cases bW <;> rfl
  have a4 : bits .and .i32 (Mx.num ⟨false, bW, false, kk⟩) 4 = 0 := by rw [show (4 : Int) = ((4 : Nat) : Int) from rfl, num_and _ _ _ _ 4 (by omega) (by decide)]; cases bW <;> rfl
  refine goW0 (n := 100) (m := 100) ?_
  repeat w_but "code.loop" Kn.rely
  u_c stepG_loop Kn.rely hF
  refine Goes.stop (fun _ r₁ => ?_)
  replace hF := Kn.rely hF r₁
  clear r₁
  exact goes_le (by omega) (ulOut v hU k false bW false kk hkk (hout.elim .inl fun h => .inr (.inr (.inl h))) old aw sv it job _ _ _ _ _ _ _ _ _ _ _ _ _ _ _ _ _ _ _ _ _ _ _ _ _ _ _ _ _ _ _ _ _ _ _ _ _ _ _ _ _ _ hF)
set_option maxRecDepth 100000 in
set_option maxHeartbeats 16000000 in
theorem slowC (v : Array Value) (hU : SlowK A K W b₁ a₁ ops₁ i₁ rest₁ k₁ cs₁ blk v) (k : Nat) (kk : Nat) (hkk : kk < 1000) (hk0 : kk ≠ 0) (aw sv : Bool) (it job : Nat) (w : World) (hF : Kn K W w) :
    GoW Try.prog K { pc := .uc, old := ⟨false, false, false, kk⟩, aw := aw, sv := sv, it := it, job := job, blk := blk } (A k { pc := .uc, old := ⟨false, false, false, kk⟩, aw := aw, sv := sv, it := it, job := job, blk := blk } v) 200 (G ((base 49).at ⟨#[.pointer (some ⟨K.Mu, 0, none⟩), .int .i32 (Mx.num ⟨false, false, false, kk⟩), undef, undef, undef, undef, undef, undef, undef, undef, undef, undef, undef, undef, undef, undef, undef, undef, undef, undef, undef, undef, undef, undef, undef, undef, undef, undef, undef, undef, undef, undef, undef, undef, undef, undef, undef, undef, undef, undef, undef, undef, undef], []⟩ [.code body49]) (b₁.at a₁ (.inRegion ops₁ (i₁ :: rest₁) :: k₁) :: cs₁)) w := by
  rw [body49_eq]
  generalize hE0 : E0 = XE0
  generalize hE2 : E2 = XE2
  generalize hE3 : E3 = XE3
  simp only [E0, E2, E3, firstOfU, rightsU, thenOfU, elseOfU, behindFirst, body49, LL49, findLoop, Try.f49, Option.getD_some] at hE0 hE2 hE3
  subst hE0
  subst hE2
  subst hE3
  have rl : IntKind.i32.wrap (Mx.num ⟨false, false, false, kk⟩ + 1) = Mx.num ⟨true, false, false, kk⟩ := num_rel _ _ _ (by omega)
  have a1 : bits .and .i32 (Mx.num ⟨true, false, false, kk⟩) 1 = 1 := num_and _ _ _ _ 1 (by omega) (by decide)
  have a4 : bits .and .i32 (Mx.num ⟨false, false, false, kk⟩) 4 = 0 := num_and _ _ _ _ 4 (by omega) (by decide)
  refine goW0 (n := 100) (m := 100) ?_
  repeat w_but "code.loop" Kn.rely
  u_c stepG_loop Kn.rely hF
  refine Goes.stop (fun _ r₁ => ?_)
  replace hF := Kn.rely hF r₁
  clear r₁
  exact goes_le (by omega) (ulIn v hU aw sv it job k kk hkk hk0 _ _ _ _ _ _ _ _ _ _ _ _ _ _ _ _ _ _ _ _ _ _ _ _ _ _ _ _ _ _ _ _ _ _ _ _ _ _ _ _ _ _ hF)
set_option maxRecDepth 100000 in
set_option maxHeartbeats 16000000 in
theorem slowA (v : Array Value) (hU : SlowK A K W b₁ a₁ ops₁ i₁ rest₁ k₁ cs₁ blk v) (k : Nat) (bW : Bool) (kk : Nat) (hkk : kk < 1000) (old : Mx) (aw sv : Bool) (it job : Nat) (w : World) (hF : Kn K W w) :
    GoW Try.prog K { pc := .uh, old := old, aw := aw, sv := sv, it := it, job := job, blk := blk } (A k { pc := .uh, old := old, aw := aw, sv := sv, it := it, job := job, blk := blk } v) 200 (G ((base 49).at ⟨#[.pointer (some ⟨K.Mu, 0, none⟩), .int .i32 (Mx.num ⟨false, bW, true, kk⟩), undef, undef, undef, undef, undef, undef, undef, undef, undef, undef, undef, undef, undef, undef, undef, undef, undef, undef, undef, undef, undef, undef, undef, undef, undef, undef, undef, undef, undef, undef, undef, undef, undef, undef, undef, undef, undef, undef, undef, undef, undef], []⟩ [.code body49]) (b₁.at a₁ (.inRegion ops₁ (i₁ :: rest₁) :: k₁) :: cs₁)) w := by
  rw [body49_eq]
  generalize hE0 : E0 = XE0
  generalize hE2 : E2 = XE2
  generalize hE9 : E9 = XE9
  simp only [E0, E2, E9, firstOfU, rightsU, thenOfU, elseOfU, behindFirst, body49, LL49, findLoop, Try.f49, Option.getD_some] at hE0 hE2 hE9
  subst hE0
  subst hE2
  subst hE9
  have rl : IntKind.i32.wrap (Mx.num ⟨false, bW, true, kk⟩ + 1) = Mx.num ⟨true, bW, true, kk⟩ := num_rel _ _ _ (by omega)
  have a1 : bits .and .i32 (Mx.num ⟨true, bW, true, kk⟩) 1 = 1 := by rw [show (1 : Int) = ((1 : Nat) : Int) from rfl, num_and _ _ _ _ 1 (by omega) (by decide)]; cases bW <;> rfl
  have a4 : bits .and .i32 (Mx.num ⟨false, bW, true, kk⟩) 4 = 4 := by rw [show (4 : Int) = ((4 : Nat) : Int) from rfl, num_and _ _ _ _ 4 (by omega) (by decide)]; cases bW <;> rfl
  refine goW0 (n := 200) (m := 0) ?_
  repeat w_go Kn.rely
  -- STOP uh: handed over
  refine Goes.stop (fun _ r₁ => ?_)
  replace hF := Kn.rely hF r₁
  clear r₁
  refine Goes.stop (fun _ r₁ => ?_)
  replace hF := Kn.rely hF r₁
  clear r₁
  rcases k with _ | k
  · exact Fam.zero (K := K) _ _ _ _
  refine Fam.succ (K := K) (A := A) ?_
  refine ⟨rfl, rfl, fun _ => mayWake_entry rfl rfl Try.func61 x61_b, by simp, by simp, by simp, fun _ s hs hfit _ cs hcs => ?_⟩
  obtain ⟨mu, ms, vv, wt, ws⟩ := s
  have h0 : ms = 0 := hfit.us (.inr rfl)
  subst h0
  have hw1 : IntKind.u32.wrap (((0 : Nat) : Int) + 1) = ((1 : Nat) : Int) := by decide
  refine ⟨_, _, .mu (.uh rfl), _, _, _, stepG_semrelease rfl rfl (by k_ne) rfl Try.func61 x61_n x61_b x61_x x61_f (by simp [Act.eval, msA]) hs.1.cellSm (hs.1.thaw 1), (by rw [hw1]; exact hs.setMs 1), EffB.of (Eff.set _ _ (.inl rfl)), evw_book (by simp) (by simp) (by simp) (by simp) rfl rfl (book_sem 0 (msA K.Mu) (.inl rfl)), ?_⟩
  refine afterW_go (by simp) (by simp) (100 + 200) ?_
  refine goW0 (n := 100) (m := 200) ?_
  rw [hw1]
  replace hF := hF.eff (EffB.of (Eff.set (msA K.Mu) (.int .u32 ((1 : Nat) : Int)) (.inl rfl))) (hs.setMs 1)
  walk_nrm
  repeat w_go Kn.rely
  u_leave0 Try.func49 Kn.rely hF
  refine Goes.stop (fun _ r₁ => ?_)
  replace hF := Kn.rely hF r₁
  clear r₁
  exact goes_le (by omega) (hU _ _ rfl rfl _ hF)
end
noncomputable def body27 : Code := Try.f27.body.getD .skip
noncomputable def body20 : Code := Try.f20.body.getD .skip
/-- What is asked behind Unlock. -/
def UnlK (A : Nat → Th → Array Value → Goroutine → World → Prop) (K : Band) (W : World) (v : Array Value) (g : Goroutine) : Prop := ∀ k', ∃ m, ∀ w, Kn K W w → GoW Try.prog K { pc := .rc } (A k' { pc := .rc } v) m g w
section
variable {A : Nat → Th → Array Value → Goroutine → World → Prop} {K : Band} [Fam K A] {W : World} {b₀ : Frame} {a₀ : Act} {ops₀ : Array Oper} {i₀ : Nat} {rest₀ : List Nat} {k₀ : List Item} {cs : List Frame} {blk : List Nat}
noncomputable def F6 : Code := rightsU 3 body27
set_option maxRecDepth 100000 in
set_option maxHeartbeats 16000000 in
theorem ueGo (v : Array Value) (hT : UnlK A K W v (G (b₀.at (a₀.put ((ops₀[i₀]?).bind (·.dst)) (.tuple #[])) (.inRegion ops₀ rest₀ :: k₀)) cs)) (k : Nat) (T : Th) (hp : T.pc = .ue) (hb : T.blk = blk) :
    ∀ (j1 j2 j3 j4 j5 j6 j7 j8 j9 j10 j11 j12 j13 j14 j15 j16 j17 j18 j19 j20 : Value) (w : World), Kn K W w → GoW Try.prog K T (A k T v) 40 (G ((base 27).at ⟨#[.pointer (some ⟨K.Mu, 0, none⟩), j1, j2, j3, j4, j5, j6, j7, j8, j9, j10, j11, j12, j13, j14, j15, j16, j17, j18, j19, j20], []⟩ [.code F6]) (b₀.at a₀ (.inRegion ops₀ (i₀ :: rest₀) :: k₀) :: cs)) w := by
  obtain ⟨pc, old, aw, sv, it, job, blk'⟩ := T
  simp only at hp hb
  subst hp; subst hb
  intro j1 j2 j3 j4 j5 j6 j7 j8 j9 j10 j11 j12 j13 j14 j15 j16 j17 j18 j19 j20 w hF
  generalize hX : F6 = X
  simp only [F6, rightsU, body27, Try.f27, Option.getD_some] at hX
  subst hX
  refine goW0 (n := 40) (m := 0) ?_
  repeat w_go Kn.rely
  -- STOP ue
  refine Goes.stop (fun _ r₁ => ?_)
  replace hF := Kn.rely hF r₁
  clear r₁
  refine Goes.stop (fun _ r₁ => ?_)
  replace hF := Kn.rely hF r₁
  clear r₁
  rcases k with _ | k
  · exact Fam.zero (K := K) _ _ _ _
  refine Fam.succ (K := K) (A := A) ?_
  refine ⟨rfl, rfl, by simp, by simp, by simp, by simp, fun _ s hs hfit _ cs hcs => ⟨_, s, .mu (.ue rfl), _, _, _, stepG_mark0 .enable (by simp) rfl rfl (by k_ne) rfl Try.func30 x30_n x30_b x30_x x30_f, hs, EffB.of (Eff.refl _), evw_book (by simp) (by simp) (by simp) (by simp) rfl rfl (book_en 0), ?_⟩⟩
  obtain ⟨mT, hT'⟩ := hT k
  refine afterW_go (by simp) (by simp) (20 + mT) ?_
  refine goW0 (n := 20) (m := mT) ?_
  walk_nrm
  repeat w_go Kn.rely
  u_leave0 Try.func27 Kn.rely hF
  refine Goes.stop (fun _ r₁ => ?_)
  replace hF := Kn.rely hF r₁
  clear r₁
  exact hT' _ hF
end
end Go.Proofs.Ytapjmifhhbpikaa

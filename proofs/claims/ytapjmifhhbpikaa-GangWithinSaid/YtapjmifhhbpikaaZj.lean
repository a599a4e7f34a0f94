/- Gangs within gangs: GangWithin's job: a gang, by a worker. (Printed by zj.py.) -/
import Derived.Test.YtapjmifhhbpikaaZs
set_option linter.unusedVariables false
set_option linter.unusedSimpArgs false
namespace Go.Proofs.Ytapjmifhhbpikaa
open Go.Conc Go.ConcN Go.ConcM Go.RowKit Go.Conc.Lib Go.ConcR.Gen
open Go.ConcR (KK wgBlock WgAt stA smA rd wr mk)
theorem nm15 : (Try.f15.name == "runtime.NumGoroutine") = false := by kernel_rfl
noncomputable def body15 : Code := Try.f15.body.getD .skip
theorem fb15 : Try.f15.body = some body15 := by simp only [body15, Try.f15, Option.getD_some]
theorem nt15 : Try.f15.ntmps = 26 := by kernel_rfl
theorem loud15 : (Try.prog.funcs[(base 15).fn]?).any (·.norace) = false := by kernel_rfl
theorem run_build23 {a : Act} {o : Oper} {p q : Tmp} {A B : Int} (hop : o.op = .build 23 #[(0, .tmp p), (1, .tmp q)]) (hx : a.eval (.tmp p) = .int .i64 A) (hy : a.eval (.tmp q) = .int .i64 B) (w : World) : (execOp a.eval o).run Try.prog w = .ok (.value (.agg #[.int .i64 A, .int .i64 B])) w ∧ (execOp a.eval o).events Try.prog w #[] = #[] := by
  have hx' : a.tmps[p]?.getD undef = .int .i64 A := by simpa [Act.eval] using hx
  have hy' : a.tmps[q]?.getD undef = .int .i64 B := by simpa [Act.eval] using hy
  constructor
  · unfold execOp
    simp only [hop]
    simp [go_sem, Act.eval, hx', hy']
    rw [run_build (P := Try.prog) w 23 #[(0, Value.int IntKind.i64 A), (1, Value.int IntKind.i64 B)] #[.int .i64 A, .int .i64 B] (by kernel_rfl)]
    rfl
  · unfold execOp
    simp only [hop]
    simp [go_sem, Act.eval, hx', hy']
    obtain ⟨i, hi, hzz⟩ := Option.map_eq_some_iff.1 info23
    obtain ⟨j, hj, hyy⟩ := Option.map_eq_some_iff.1 info3
    simp only [Prod.mk.injEq] at hzz hyy
    simp [Instr.build, zeroValue, typeInfo, underlying, sizeOf, go_sem, hi, hj, hzz.1, hyy.2.1]
/-- WHAT THE JOBS READ: m, b, j. -/
structure Env15 (K : Band) (W : World) (pm pb pj : Nat) (M x3 : Nat) (A B : Int) : Prop where
  sm : Still K pm
  sb : Still K pb
  sj : Still K pj
  cm : W.cell? ⟨pm, 0, none⟩ = some (.int .i64 (M : Int))
  cb : W.cell? ⟨pb, 0, none⟩ = some (.int .u8 (x3 : Int))
  c0 : W.cell? ⟨pj, 0, none⟩ = some (.int .i64 A)
  c1 : W.cell? ⟨pj, 1, none⟩ = some (.int .i64 B)
/-- What a job tells. -/
def withV (A B : Int) (M : Nat) (j : Nat) : Int := accD (IntKind.i64.wrap (A + (j : Int))) B M
theorem still_nS {K : Band} {k i : Nat} (h : Still K k) : ¬ K.Shun (.cell ⟨k, i, none⟩) := Band.nS _ h.2.1 h.2.2.1
section
variable {K : Band} {T : Th} {Nx : Goroutine → World → Prop} {n : Nat} {b : Frame} {a : Act} {kk : List Item} {cs : List Frame} {w : World} {ops : Array Oper} {i : Nat} {rest : List Nat} {o : Oper}
theorem goW_valK {v : Value} (ho : ops[i]? = some o) (hw : Region.wanted o (yielded ops a.tmps) = true) (hk : b.kind ≠ .early)
    (hr : ∀ w : World, (execOp a.eval o).run Try.prog w = .ok (.value v) w ∧ (execOp a.eval o).events Try.prog w #[] = #[])
    (hgo : ∀ w₁, RB K T.owns T.blk w w₁ → GoW Try.prog K T Nx n (G (b.at (a.put o.dst v) (.inRegion ops rest :: kk)) cs) w₁) : GoW Try.prog K T Nx (n + 1) (G (b.at a (.inRegion ops (i :: rest) :: kk)) cs) w := by
  refine Goes.step rfl fun w₁ r => ?_
  rw [stepG_value ho hw hk (hr _).1]
  unfold listed
  rw [(hr _).2, seen_none]
  simp only [goes_go]
  exact ⟨db_none fun e he => by simp at he, hgo _ r⟩
end
section
variable {Fa : Nat → Th → Array Value → Goroutine → World → Prop} {K : Band} [Fam K Fa] {W : World} {b₁ : Frame} {a₁ : Act} {ops₁ : Array Oper} {i₁ : Nat} {rest₁ : List Nat} {k₁ : List Item} {cs₁ : List Frame}
set_option maxRecDepth 100000 in
set_option maxHeartbeats 16000000 in
/-- THE CLOSURE: a gang of its own. -/
theorem within15 {pm pb pj M x3 N j : Nat} {A B : Int} (E : Env15 K W pm pb pj M x3 A B) (hdeep : K.deep = true) (hM : M ≤ 256) (hN1 : 1 ≤ N) (hN : N ≤ 64) (e3 : IntKind.i64.wrap (1 + IntKind.i64.wrap ((x3 : Int).tmod 8)) = (N : Int)) (k : Nat) (v : Array Value)
    (hT : ∀ k' bl, ∃ m, ∀ w, Kn K W w → GoW Try.prog K { pc := .ld, job := j, blk := bl } (Fa k' { pc := .ld, job := j, blk := bl } v) m (G (b₁.at (a₁.put ((ops₁[i₁]?).bind (·.dst)) (.int .i64 (withV A B M j))) (.inRegion ops₁ rest₁ :: k₁)) cs₁) w) (w : World) (hF : Kn K W w) :
    GoW Try.prog K { pc := .bx, job := j, it := 9 } (Fa k { pc := .bx, job := j, it := 9 } v) 150 (G ((base 15).at ⟨#[.int .i64 (j : Int), .pointer (some ⟨pm, 0, none⟩), .pointer (some ⟨pb, 0, none⟩), .pointer (some ⟨pj, 0, none⟩), undef, undef, undef, undef, undef, undef, undef, undef, undef, undef, undef, undef, undef, undef, undef, undef, undef, undef, undef, undef, undef, undef], []⟩ [.code body15]) (b₁.at a₁ (.inRegion ops₁ (i₁ :: rest₁) :: k₁) :: cs₁)) w := by
  refine goW0 (n := 15) (m := 135) ?_
  simp only [body15, Try.f15, Option.getD_some]
  repeat w_go Kn.rely
  refine Goes.stop (fun _ r₁ => ?_)
  replace hF := Kn.rely hF r₁
  clear r₁
  refine goW_still (n := 134) (ad := ⟨pm, 0, none⟩) (v := .int .i64 (M : Int)) rfl rfl (by k_ne) rfl (by simp) rfl loud15 rfl E.sm (still_nS E.sm) (hF.cell E.sm E.cm) fun _ r₁ => ?_
  replace hF := Kn.rely hF r₁
  clear r₁
  refine goW0 (n := 5) (m := 129) ?_
  walk_nrm
  repeat w_go Kn.rely
  refine Goes.stop (fun _ r₁ => ?_)
  replace hF := Kn.rely hF r₁
  clear r₁
  refine goW_still (n := 128) (ad := ⟨pb, 0, none⟩) (v := .int .u8 (x3 : Int)) rfl rfl (by k_ne) rfl (by simp) rfl loud15 rfl E.sb (still_nS E.sb) (hF.cell E.sb E.cb) fun _ r₁ => ?_
  replace hF := Kn.rely hF r₁
  clear r₁
  refine goW0 (n := 10) (m := 118) ?_
  walk_nrm
  repeat w_go Kn.rely
  refine Goes.stop (fun _ r₁ => ?_)
  replace hF := Kn.rely hF r₁
  clear r₁
  refine goW_still (n := 117) (ad := ⟨pj, 0, none⟩) (v := .int .i64 A) rfl rfl (by k_ne) rfl (by simp) rfl loud15 rfl E.sj (still_nS E.sj) (hF.cell E.sj E.c0) fun _ r₁ => ?_
  replace hF := Kn.rely hF r₁
  clear r₁
  refine goW0 (n := 10) (m := 107) ?_
  walk_nrm
  repeat w_go Kn.rely
  refine Goes.stop (fun _ r₁ => ?_)
  replace hF := Kn.rely hF r₁
  clear r₁
  refine goW_still (n := 106) (ad := ⟨pj, 1, none⟩) (v := .int .i64 B) rfl rfl (by k_ne) rfl (by simp) rfl loud15 rfl E.sj (still_nS E.sj) (hF.cell E.sj E.c1) fun _ r₁ => ?_
  replace hF := Kn.rely hF r₁
  clear r₁
  refine goW0 (n := 10) (m := 96) ?_
  walk_nrm
  repeat w_go Kn.rely
  refine Goes.stop (fun _ r₁ => ?_)
  replace hF := Kn.rely hF r₁
  clear r₁
  refine goW_valK (n := 95) rfl rfl (by k_ne) (run_build23 rfl rfl rfl) fun _ r₁ => ?_
  replace hF := Kn.rely hF r₁
  clear r₁
  refine goW0 (n := 20) (m := 75) ?_
  walk_nrm
  repeat w_go Kn.rely
  u_in Kn.rely hF
  refine goes_call (c := body12) rfl rfl (by k_ne) rfl Try.func12 nm12 fb12 ⟨by u_nil, ?_⟩
  simp only [nt12]
  walk_nrm
  refine Goes.stop (fun _ r₁ => ?_)
  replace hF := Kn.rely hF r₁
  clear r₁
  refine goes_le (by omega) (sumWGo hdeep hM hN1 hN k v ?_ _ hF)
  intro k' bl
  obtain ⟨mT, hT'⟩ := hT k' bl
  refine ⟨40 + mT, fun w hF => ?_⟩
  refine goW0 (n := 40) (m := mT) ?_
  walk_nrm
  repeat w_go Kn.rely
  u_leave1 Try.func15 Kn.rely hF
  refine Goes.stop (fun _ r₁ => ?_)
  replace hF := Kn.rely hF r₁
  clear r₁
  exact hT' _ hF
set_option maxRecDepth 100000 in
set_option maxHeartbeats 16000000 in
/-- ████ Each's CLOSURE, BY A WORKER, whose job is a gang. ████ -/
theorem each1Within {Q D F O pm pb pj M x3 N : Nat} {A B : Int} (E : Env K W Q D F O 21 (.func (.func 15) #[] #[.pointer (some ⟨pm, 0, none⟩), .pointer (some ⟨pb, 0, none⟩), .pointer (some ⟨pj, 0, none⟩)])) (E5 : Env15 K W pm pb pj M x3 A B) (hdeep : K.deep = true) (hM : M ≤ 256) (hN1 : 1 ≤ N) (hN : N ≤ 64) (e3 : IntKind.i64.wrap (1 + IntKind.i64.wrap ((x3 : Int).tmod 8)) = (N : Int))
    (hnb : K.nb = 9) (hsz : K.sz = K.J) (j : Nat) (hj : j < K.J) (hput : ∀ cs, K.put j cs = cs.setIfInBounds j (.int .i64 (withV A B M j))) (k : Nat) (v : Array Value)
    (hT : ∀ v k', ∃ m, ∀ w, Kn K W w → GoW Try.prog K { pc := .rc } (Fa k' { pc := .rc } v) m (G (b₁.at (a₁.put ((ops₁[i₁]?).bind (·.dst)) (.tuple #[])) (.inRegion ops₁ rest₁ :: k₁)) cs₁) w) (w : World) (hF : Kn K W w) :
    GoW Try.prog K { pc := .bx, job := j, it := K.nb } (Fa k { pc := .bx, job := j, it := K.nb } v) 200 (G ((base 21).at ⟨#[.int .i64 (j : Int), .pointer (some ⟨F, 0, none⟩), .pointer (some ⟨K.Mu, 0, none⟩), .pointer (some ⟨O, 0, none⟩), undef, undef, undef, undef, undef, undef, undef, undef, undef, undef], []⟩ [.code body21]) (b₁.at a₁ (.inRegion ops₁ (i₁ :: rest₁) :: k₁) :: cs₁)) w := by
  refine goW0 (n := 20) (m := 180) ?_
  simp only [body21, Try.f21, Option.getD_some]
  repeat w_go Kn.rely
  refine Goes.stop (fun _ r₁ => ?_)
  replace hF := Kn.rely hF r₁
  clear r₁
  refine goW_still (n := 179) rfl rfl (by k_ne) rfl (by simp) rfl loud21 rfl E.sF E.nF (hF.cell E.sF E.cF) fun _ r₁ => ?_
  replace hF := Kn.rely hF r₁
  clear r₁
  refine goW0 (n := 20) (m := 159) ?_
  walk_nrm
  repeat w_go Kn.rely
  refine Goes.stop (fun _ r₁ => ?_)
  replace hF := Kn.rely hF r₁
  clear r₁
  refine goW_call (n := 158) rfl rfl (by k_ne) rfl rfl Try.func15 nm15 fb15 fun _ r₁ => ?_
  replace hF := Kn.rely hF r₁
  clear r₁
  simp only [nt15]
  walk_nrm
  rw [hnb]
  refine goes_le (by omega) (within15 E5 hdeep hM hN1 hN e3 k v ?_ _ hF)
  intro k' bl
  refine ⟨20 + 40, fun w hF => ?_⟩
  refine goW0 (n := 20) (m := 40) ?_
  walk_nrm
  repeat w_go Kn.rely
  u_call Try.func19 nm19 Try.f19 Kn.rely hF
  refine Goes.stop (fun _ r₁ => ?_)
  replace hF := Kn.rely hF r₁
  clear r₁
  refine goes_le (by omega) (lockGo (W := ⟨W, []⟩) ?_ v k' _ hF.snap)
  -- BEHIND mu.Lock(): IT OWNS
  intro k'' T cs h1 h2 h3 h4
  obtain ⟨pc, old, aw, sv, it, job, blk⟩ := T
  simp only at h1 h2 h3
  subst h1; subst h2; subst h3
  refine ⟨20 + (200 + 1), fun w g1 g2 => ?_⟩
  have hF := And.intro g1.kn g2
  clear g1 g2
  refine goW0 (n := 20) (m := 201) ?_
  walk_nrm
  show Goes Try.prog false (RB K true blk) _ _ _ _ _
  repeat w_go ko_rely
  u_defer ko_rely hF
  repeat w_go ko_rely
  refine Goes.stop (fun _ r₁ => ?_)
  replace hF := ko_rely hF r₁
  clear r₁
  refine goW_still (n := 200) rfl rfl (by k_ne) rfl (by simp) rfl loud21 rfl E.sO E.nO (hF.1.cell E.sO E.cO) fun _ r₁ => ?_
  replace hF := ko_rely hF r₁
  clear r₁
  have hlt : (job : Int) < (K.J : Int) := by omega
  have hj0 : (0 : Int) ≤ (job : Int) := by omega
  refine goW0 (n := 40) (m := 160) ?_
  walk_nrm
  show Goes Try.prog false (RB K true blk) _ _ _ _ _
  repeat w_go ko_rely
  refine Goes.stop (fun _ r₁ => ?_)
  replace hF := ko_rely hF r₁
  clear r₁
  -- THE STORE
  refine Goes.step (n := 159) rfl fun w₁ r₁ => ?_
  replace hF := ko_rely hF r₁
  clear r₁
  rw [stepG_st3 rfl rfl (by k_ne) rfl rfl rfl (hF.2.cell (by rw [h4, hsz]; exact hj)) (hF.2.thaw job) loud21]
  simp only [goes_go]
  refine ⟨db_row hF.2 h4 (by have := K.bC; have := hF.1.B; omega) job _, ?_⟩
  replace hF := And.intro (hF.1.row hF.2 h4 job (.int .i64 (withV A B M job))) (hF.2.set job (.int .i64 (withV A B M job)))
  rw [← hput] at hF
  refine goW0 (T := { pc := .ur, old := old, aw := aw, sv := sv, it := it, job := job, blk := blk }) (n := 40) (m := 119) ?_
  walk_nrm
  show Goes Try.prog false (RB K true blk) _ _ _ _ _
  repeat w_go ko_rely
  u_in ko_rely hF
  rw [stepG_unwind_enter rfl Try.func20 nm20 rfl]
  simp only [goes_go]
  refine ⟨by u_nil, ?_⟩
  walk_nrmf Try.f20
  refine Goes.stop (fun _ r₁ => ?_)
  replace hF := ko_rely hF r₁
  clear r₁
  refine goes_le (by omega) (unlockGo rfl (K.put job cs) ?_ k'' _ rfl rfl _ hF.1 hF.2)
  intro k3
  obtain ⟨mT, hT'⟩ := hT (K.put job cs) k3
  refine ⟨20 + mT, fun w hF => ?_⟩
  refine goW0 (n := 20) (m := mT) ?_
  u_leave0 Try.func21 Kn.rely hF
  refine Goes.stop (fun _ r₁ => ?_)
  replace hF := Kn.rely hF r₁
  clear r₁
  exact hT' _ hF
end
end Go.Proofs.Ytapjmifhhbpikaa

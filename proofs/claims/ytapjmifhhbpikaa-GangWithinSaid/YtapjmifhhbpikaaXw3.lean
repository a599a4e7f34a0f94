/- Gangs within gangs: The gang: a worker's whole script: its birth, the range over the channel, the deferred Done. -/
import Derived.Test.YtapjmifhhbpikaaXw1
import Derived.Test.YtapjmifhhbpikaaXw2
import Derived.Test.YtapjmifhhbpikaaXd
set_option linter.unusedVariables false
set_option linter.unusedSimpArgs false
namespace Go.Proofs.Ytapjmifhhbpikaa
open Go.Conc Go.ConcN Go.ConcM Go.RowKit Go.Conc.Lib Go.ConcR.Gen
open Go.ConcR (KK wgBlock WgAt stA smA rd wr mk)
noncomputable def bot : Frame := { (default : Frame) with fn := Try.prog.funcs.size, defers := [], mode := .panicking [goexitEntry] }
noncomputable def body23 : Code := Try.f23.body.getD .skip
def firstC : Code → Code
  | .seq x _ => x
  | c => c
def rightC : Code → Code
  | .seq _ y => y
  | c => c
noncomputable def LL23 : Code := (findLoop body23).getD .skip
noncomputable def P0 : Code := firstC body23
noncomputable def P1 : Code := firstC (rightC body23)
set_option maxRecDepth 100000 in
theorem body23_eq : body23 = .seq P0 (.seq P1 (.block 0 (.loop LL23))) := by
  simp only [P0, P1, LL23, body23, firstC, rightC, findLoop, Try.f23, Option.getD_some]
def call23 (Wg Q D : Nat) : Deferred := { target := .fn (.func 23) #[.pointer (some ⟨Wg, 0, none⟩), .pointer (some ⟨Q, 0, none⟩), .pointer (some ⟨D, 0, none⟩)], args := #[] }
theorem quitsTail (T : Array Value) (todo : List Item) : QuitsD Try.prog 2 0 (G { (baseD 23).at ⟨T, []⟩ todo with mode := .returning } [bot]) := by
  refine QuitsD.ctl (g' := G bot []) rfl (fun w => ?_) ?_
  · simp [G, stepG, unwind, doReturn, results, Frame.at, baseD, bot, Try.func23, Try.f23, seen, GStep.after, goexitEntry]
  refine QuitsD.ctl (g' := { G bot [] with status := .finished }) rfl (fun w => ?_) ⟨rfl, rfl⟩
  simp [G, stepG, unwind, bot, goexitEntry, Frame.catches]
  rfl
theorem born_step (Wg Q D : Nat) (w : World) : stepG Try.prog false (born Try.prog (call23 Wg Q D)) w =
    .go (G ((baseD 23).at ⟨#[.pointer (some ⟨Wg, 0, none⟩), .pointer (some ⟨Q, 0, none⟩), .pointer (some ⟨D, 0, none⟩), undef, undef, undef, undef, undef, undef, undef, undef], []⟩ [.code body23]) [bot]) w #[] := by
  simp [born, call23, stepG, unwind, callDeferred, invoke, callFunc, Try.func23, Try.f23, seen, GStep.after, G, Frame.enter, Frame.at, baseD, bot, body23]
theorem served_G (b : Frame) (a : Act) (ops : Array Oper) (i : Nat) (rest : List Nat) (kk : List Item) (cs : List Frame) (v : Value) : Go.Conc.served (G (b.at a (.inRegion ops (i :: rest) :: kk)) cs) v = G (b.at (a.put ((ops[i]?).bind (·.dst)) v) (.inRegion ops rest :: kk)) cs := by
  unfold Go.Conc.served
  show G ((b.at a (.inRegion ops (i :: rest) :: kk)).finish v) cs = _
  rw [Frame.finish_at]
/-- A JOB's CALL. -/
def JobGo (K : Band) (W : World) (F O : Nat) (fc : FuncId) (body : Code) : Prop :=
  ∀ (Fa : Nat → Th → Array Value → Goroutine → World → Prop) [Fam K Fa] (b₁ : Frame) (a₁ : Act) (ops₁ : Array Oper) (i₁ : Nat) (rest₁ : List Nat) (k₁ : List Item) (cs₁ : List Frame) (j : Nat), j < K.J → ∀ (k : Nat) (v : Array Value),
    (∀ v k', ∃ m, ∀ w, Kn K W w → GoW Try.prog K { pc := .rc } (Fa k' { pc := .rc } v) m (G (b₁.at (a₁.put ((ops₁[i₁]?).bind (·.dst)) (.tuple #[])) (.inRegion ops₁ rest₁ :: k₁)) cs₁) w) → ∀ (w : World), Kn K W w →
    GoW Try.prog K { pc := .bx, job := j, it := K.nb } (Fa k { pc := .bx, job := j, it := K.nb } v) 200 (G ((base fc).at ⟨#[.int .i64 (j : Int), .pointer (some ⟨F, 0, none⟩), .pointer (some ⟨K.Mu, 0, none⟩), .pointer (some ⟨O, 0, none⟩), undef, undef, undef, undef, undef, undef, undef, undef, undef, undef], []⟩ [.code body]) (b₁.at a₁ (.inRegion ops₁ (i₁ :: rest₁) :: k₁) :: cs₁)) w
section
variable {K : Band} {W : World} {Q D F O : Nat} {fc : FuncId} {jf : Value} {fn : Func} {body : Code}
/-- AT THE RANGE's HEAD. -/
def RangeAt (K : Band) (W : World) (Q D b k : Nat) (v : Array Value) : Prop :=
  ∃ m, ∀ (s3 s5 s6 s7 s8 s9 s10 : Value) (w : World), Kn K W w → GoW Try.prog K { pc := .rc } (AtM K b k { pc := .rc } v) m
    (G ((baseD 23).at ⟨#[.pointer (some ⟨K.Wg, 0, none⟩), .pointer (some ⟨Q, 0, none⟩), .pointer (some ⟨D, 0, none⟩), s3, .chan (some K.Ch), s5, s6, s7, s8, s9, s10], [dcall 24 #[.pointer (some ⟨K.Wg, 0, none⟩)]]⟩ [.code LL23, .inLoop LL23, .inBlock 0]) [bot]) w
set_option maxRecDepth 100000 in
set_option maxHeartbeats 16000000 in
theorem rangeGo (E : Env K W Q D F O fc jf) (hf : Try.prog.funcs[fc]? = some fn) (hname : (fn.name == "runtime.NumGoroutine") = false) (hb : fn.body = some body) (hnt : fn.ntmps = 14) (hjob : JobGo K W F O fc body) : ∀ (b : Nat) (v : Array Value) (k : Nat), RangeAt K W Q D b k v := by
  intro b
  induction b with
  | zero =>
    intro v k
    refine ⟨0, fun s3 s5 s6 s7 s8 s9 s10 w hF => Goes.stop fun _ _ => ?_⟩
    unfold AtM
    rw [Nat.min_zero]
    trivial
  | succ b ih =>
    intro v k
    refine ⟨20 + 0, fun s3 s5 s6 s7 s8 s9 s10 w hF => ?_⟩
    refine goW0 (n := 20) (m := 0) ?_
    generalize hX : Item.code LL23 = X
    simp only [LL23, body23, findLoop, Try.f23, Option.getD_some] at hX
    subst hX
    repeat w_go Kn.rely
    refine Goes.stop (fun _ r₁ => ?_)
    replace hF := Kn.rely hF r₁
    clear r₁
    -- STOP rc
    refine Goes.stop (fun _ r₁ => ?_)
    replace hF := Kn.rely hF r₁
    clear r₁
    rcases k with _ | k
    · exact Fam.zero (K := K) _ _ _ _
    refine AtM.step ?_
    refine ⟨rfl, rfl, by simp, by simp, fun _ => ⟨by rw [E.z]; exact stepG_recv rfl rfl (by k_ne) rfl rfl, fun j hj w' r => ?_, fun w' r => ?_⟩, by simp, fun h => absurd rfl h⟩
    · -- A JOB
      replace hF := Kn.rely hF r
      clear r
      rw [served_G]
      unfold AfterW
      rw [if_neg (by simp)]
      refine ⟨30 + (30 + 201 + 1), ?_⟩
      refine goW0 (n := 30) (m := 232) ?_
      simp only [recvd, jobV, if_true]
      walk_nrm
      repeat w_go Kn.rely
      refine Goes.stop (fun _ r₁ => ?_)
      replace hF := Kn.rely hF r₁
      clear r₁
      refine goW_still (n := 231) rfl rfl (by k_ne) rfl (by simp) rfl loud23 rfl E.sD E.nD (hF.cell E.sD E.cD) fun _ r₁ => ?_
      replace hF := Kn.rely hF r₁
      clear r₁
      refine goW0 (n := 30) (m := 201) ?_
      walk_nrm
      repeat w_go Kn.rely
      refine Goes.stop (fun _ r₁ => ?_)
      replace hF := Kn.rely hF r₁
      clear r₁
      refine goW_call (n := 200) rfl rfl (by k_ne) rfl rfl hf hname hb fun _ r₁ => ?_
      replace hF := Kn.rely hF r₁
      clear r₁
      simp only [hnt]
      walk_nrm
      refine hjob (AtM K b) _ _ _ _ _ _ _ j hj k v ?_ _ hF
      intro v' k'
      obtain ⟨mI, hI⟩ := ih v' k'
      refine ⟨20 + mI, fun w hF => ?_⟩
      refine goW0 (n := 20) (m := mI) ?_
      walk_nrm
      repeat w_nl Kn.rely
      u_c stepG_inLoop Kn.rely hF
      refine Goes.stop (fun _ r₁ => ?_)
      replace hF := Kn.rely hF r₁
      clear r₁
      exact hI _ _ _ _ _ _ _ _ hF
    · -- THE CHANNEL IS CLOSED
      replace hF := Kn.rely hF r
      clear r
      rw [served_G]
      unfold AfterW
      rw [if_neg (by simp)]
      refine ⟨40 + 60, ?_⟩
      refine goW0 (n := 40) (m := 60) ?_
      simp only [recvd, if_true]
      walk_nrm
      repeat w_go Kn.rely
      u_in Kn.rely hF
      rw [stepG_unwind_enter rfl Try.func24 nm24 rfl]
      simp only [goes_go]
      refine ⟨by u_nil, ?_⟩
      walk_nrmf Try.f24
      refine Goes.stop (fun _ r₁ => ?_)
      replace hF := Kn.rely hF r₁
      clear r₁
      exact goes_le (by omega) (doneGo rfl (quitsTail _ _) _ k _ hF)
end
end Go.Proofs.Ytapjmifhhbpikaa

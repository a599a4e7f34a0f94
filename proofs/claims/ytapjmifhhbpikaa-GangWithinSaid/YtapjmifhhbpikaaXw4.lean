/- Gangs within gangs: The gang: a worker's birth. -/
import Derived.Test.YtapjmifhhbpikaaXw3
set_option linter.unusedVariables false
set_option linter.unusedSimpArgs false
namespace Go.Proofs.Ytapjmifhhbpikaa
open Go.Conc Go.ConcN Go.ConcM Go.RowKit Go.Conc.Lib Go.ConcR.Gen
open Go.ConcR (KK wgBlock WgAt stA smA rd wr mk)
section
variable {K : Band} {W : World} {Q D F O : Nat} {fc : FuncId} {jf : Value} {fn : Func} {body : Code}
set_option maxRecDepth 100000 in
set_option maxHeartbeats 16000000 in
theorem bornGo (E : Env K W Q D F O fc jf) (hf : Try.prog.funcs[fc]? = some fn) (hname : (fn.name == "runtime.NumGoroutine") = false) (hb : fn.body = some body) (hnt : fn.ntmps = 14) (hjob : JobGo K W F O fc body) (k : Nat) (v : Array Value) (w : World) (hF : Kn K W w) :
    ∃ m, GoW Try.prog K { pc := .rc } (AtW Try.prog K k { pc := .rc } v) m (born Try.prog (call23 K.Wg Q D)) w := by
  rw [← AtM.le (K := K) (Nat.le_refl k)]
  obtain ⟨mI, hI⟩ := rangeGo E hf hname hb hnt hjob k v k
  refine ⟨(30 + (30 + mI + 1)) + 1, Goes.step rfl fun w₁ r => ?_⟩
  replace hF := Kn.rely hF r
  clear r
  rw [born_step]
  simp only [goes_go]
  refine ⟨db_none fun e he => by simp at he, ?_⟩
  refine goW0 (T := { pc := .rc }) (n := 30) (m := 30 + mI + 1) ?_
  rw [body23_eq]
  generalize h0 : P0 = X0
  generalize h1 : P1 = X1
  simp only [P0, P1, body23, firstC, rightC, Try.f23, Option.getD_some] at h0 h1
  subst h0; subst h1
  repeat w_go Kn.rely
  u_defer Kn.rely hF
  repeat w_go Kn.rely
  refine Goes.stop (fun _ r₁ => ?_)
  replace hF := Kn.rely hF r₁
  clear r₁
  refine goW_still (n := 30 + mI) rfl rfl (by k_ne) rfl (by simp) rfl loud23 rfl E.sQ E.nQ (hF.cell E.sQ E.cQ) fun _ r₁ => ?_
  replace hF := Kn.rely hF r₁
  clear r₁
  refine goW0 (n := 30) (m := mI) ?_
  walk_nrm
  repeat w_but "code.loop" Kn.rely
  u_c stepG_loop Kn.rely hF
  refine Goes.stop (fun _ r₁ => ?_)
  replace hF := Kn.rely hF r₁
  clear r₁
  exact hI _ _ _ _ _ _ _ _ hF
end
end Go.Proofs.Ytapjmifhhbpikaa

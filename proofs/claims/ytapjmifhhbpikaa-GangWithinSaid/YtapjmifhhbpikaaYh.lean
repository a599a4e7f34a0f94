/- Gangs within gangs: the gang, in a row: the laws' own code beside leavers: Sum. (Printed by hh.py.) -/
import Derived.Test.YtapjmifhhbpikaaYg
set_option linter.unusedVariables false
set_option linter.unusedSimpArgs false
namespace Go.Proofs.Ytapjmifhhbpikaa
open Go.Conc Go.ConcN Go.ConcM Go.RowKit Go.Conc.Lib Go.ConcR.Gen
open Go.ConcR (KK wgBlock WgAt stA smA rd wr mk)
/-- The sum of the first k results, as the machine adds. -/
def accD (A B : Int) : Nat → Int
  | 0 => 0
  | k + 1 => IntKind.i64.wrap (accD A B k + doV A B k)
noncomputable def body12 : Code := Try.f12.body.getD .skip
noncomputable def SA12 : Code := firstC body12
noncomputable def SB12 : Code := firstC (rightC body12)
noncomputable def T12 : Code := rightC (rightC body12)
noncomputable def SC12 : Code := firstC T12
noncomputable def SD12 : Code := firstC (firstC (rightC T12))
noncomputable def LL12 : Code := (findLoop T12).getD .skip
noncomputable def RR12 : Code := rightC (rightC T12)
set_option maxRecDepth 100000 in
theorem body12_eq : body12 = .seq SA12 (.seq SB12 T12) := by
  simp only [SA12, SB12, T12, body12, firstC, rightC, findLoop, Try.f12, Option.getD_some]
set_option maxRecDepth 100000 in
theorem T12_eq : T12 = .seq SC12 (.seq (.seq SD12 (.block 0 (.loop LL12))) RR12) := by
  simp only [SC12, SD12, LL12, RR12, T12, body12, firstC, rightC, findLoop, Try.f12, Option.getD_some]
theorem fb12 : Try.f12.body = some body12 := by simp only [body12, Try.f12, Option.getD_some]
theorem nt12 : Try.f12.ntmps = 32 := by kernel_rfl
theorem loud12 : (Try.prog.funcs[(base 12).fn]?).any (·.norace) = false := by kernel_rfl
section
variable {E : Event → Prop} {W : World} {R J N : Nat} {A B : Int} {fv : Value} {b₀ : Frame} {a₀ : Act} {ops₀ : Array Oper} {i₀ : Nat} {rest₀ : List Nat} {k₀ : List Item} {cs : List Frame} {Stop : Goroutine → World → Prop} {m : Nat}
set_option maxRecDepth 100000 in
set_option maxHeartbeats 16000000 in
/-- The rounds that are left of Sum's loop. -/
theorem sumLoop (hx : ∀ i, i < J → W.cell? ⟨R, i, none⟩ = some (.int .i64 (doV A B i))) (ex : ∀ i, i < J → E ⟨.cell ⟨R, i, none⟩, false, false⟩) (hn : J ≤ 1000)
    (hgo : ∀ w₁, AtRel W w₁ → Goes Try.prog true AtRel (DE E) Stop m (G (b₀.at (a₀.put ((ops₀[i₀]?).bind (·.dst)) (.tuple #[.int .i64 (accD A B J), .int .i64 0])) (.inRegion ops₀ rest₀ :: k₀)) cs) w₁) :
    ∀ (r i : Nat), i + r = J → ∀ (s11 s12 s13 s14 s15 s16 s17 s18 s19 s23 s24 s25 s26 s27 s28 s29 s30 s31 : Value) (w : World), AtRel W w →
      Goes Try.prog true AtRel (DE E) Stop (m + 40 + 60 * r) (G ((base 12).at ⟨#[.int .i64 (J : Int), .int .i64 (N : Int), fv, undef, undef, undef, .int .i64 0, .int .i64 0, .slice (some ⟨R, 0, none⟩) J J, .int .i64 0, .int .i64 (accD A B i), s11, s12, s13, s14, s15, s16, s17, s18, s19, .slice (some ⟨R, 0, none⟩) J J, .int .i64 (J : Int), .int .i64 (i : Int), s23, s24, s25, s26, s27, s28, s29, s30, s31], []⟩ [.code LL12, .inLoop LL12, .inBlock 0, .code RR12]) (b₀.at a₀ (.inRegion ops₀ (i₀ :: rest₀) :: k₀) :: cs)) w := by
  intro r
  induction r with
  | zero =>
    intro i hi s11 s12 s13 s14 s15 s16 s17 s18 s19 s23 s24 s25 s26 s27 s28 s29 s30 s31 w hF
    rw [show m + 40 + 60 * 0 = 40 + m by omega]
    obtain rfl : i = J := by omega
    refine goL0 (n := 40) (m := m) ?_
    generalize hX : Item.code LL12 = X
    simp only [LL12, T12, body12, firstC, rightC, findLoop, Try.f12, Option.getD_some] at hX
    subst hX
    have hlt : ¬ ((i : Int) < (i : Int)) := by omega
    repeat w_but "RR12" ar_rely
    generalize hX : Item.code RR12 = X
    simp only [RR12, T12, body12, firstC, rightC, findLoop, Try.f12, Option.getD_some] at hX
    subst hX
    repeat w_go ar_rely
    u_in ar_rely hF
    refine goes_leave2 rfl rfl Try.func12 rfl ⟨by u_nil, ?_⟩
    walk_nrm
    refine Goes.stop (fun _ r₁ => ?_)
    replace hF := ar_rely hF r₁
    clear r₁
    exact hgo _ hF
  | succ r ih =>
    intro i hi s11 s12 s13 s14 s15 s16 s17 s18 s19 s23 s24 s25 s26 s27 s28 s29 s30 s31 w hF
    have hin : i < J := by omega
    have hlt : ((i : Int) < (J : Int)) := by omega
    rw [show m + 40 + 60 * (r + 1) = 20 + ((39 + (m + 40 + 60 * r)) + 1) by omega]
    refine goL0 (n := 20) (m := (39 + (m + 40 + 60 * r)) + 1) ?_
    generalize hX : Item.code LL12 = X
    simp only [LL12, T12, body12, firstC, rightC, findLoop, Try.f12, Option.getD_some] at hX
    subst hX
    repeat w_go ar_rely
    refine Goes.stop (fun _ r₁ => ?_)
    replace hF := ar_rely hF r₁
    clear r₁
    refine goL_ld (n := 39 + (m + 40 + 60 * r)) (ad := ⟨R, i, none⟩) (v := .int .i64 (doV A B i)) hF rfl rfl (by k_ne) rfl (by simp) rfl loud12 (hx i hin) (ex i hin) fun _ hF => ?_
    refine goL0 (n := 39) (m := m + 40 + 60 * r) ?_
    have wi : IntKind.i64.wrap ((i : Int) + 1) = ((i + 1 : Nat) : Int) := by rw [IntKind.wrap_i64]; omega
    have wa : IntKind.i64.wrap (accD A B i + doV A B i) = accD A B (i + 1) := rfl
    walk_nrm
    repeat w_nl ar_rely
    u_c stepG_inLoop ar_rely hF
    refine Goes.stop (fun _ r₁ => ?_)
    replace hF := ar_rely hF r₁
    clear r₁
    exact ih (i + 1) (by omega) _ _ _ _ _ _ _ _ _ _ _ _ _ _ _ _ _ _ _ hF
set_option maxRecDepth 100000 in
set_option maxHeartbeats 16000000 in
/-- ████ Sum. ████ -/
theorem sumReach (hJ : J ≤ 256) (hN1 : 1 ≤ N) (hN : N ≤ 64) {Shun : Loc → Prop} {w : World} (hS : LowS Shun w.heap.size) {Post : (Loc → Prop) → Goroutine → World → Prop}
    (hk : ∀ S' w', Aft w w' 8 → LowS S' w'.heap.size → NewS Shun S' w.heap.size → Olds Shun w w' → Reach Try.prog S' (G (b₀.at (a₀.put ((ops₀[i₀]?).bind (·.dst)) (.tuple #[.int .i64 (accD A B J), .int .i64 0])) (.inRegion ops₀ rest₀ :: k₀)) cs) w' Post) :
    Reach Try.prog Shun (G ((base 12).at ⟨#[.int .i64 (J : Int), .int .i64 (N : Int), .func (.func 11) #[.agg #[.int .i64 A, .int .i64 B]] #[], undef, undef, undef, undef, undef, undef, undef, undef, undef, undef, undef, undef, undef, undef, undef, undef, undef, undef, undef, undef, undef, undef, undef, undef, undef, undef, undef, undef, undef], []⟩ [.code body12]) (b₀.at a₀ (.inRegion ops₀ (i₀ :: rest₀) :: k₀) :: cs)) w Post := by
  refine Reach.walk (B := w.heap.size) (n := 30) (Nat.le_refl _) (Stop := fun g w' => w.heap.size ≤ w'.heap.size ∧ Reach Try.prog Shun g w' Post) ?_ (fun _ _ h => h)
  have hF := atRel_refl w
  refine goL0 (n := 30) (m := 0) ?_
  rw [body12_eq]
  generalize q0 : SA12 = X0
  generalize q1 : SB12 = X1
  simp only [SA12, SB12, body12, firstC, rightC, Try.f12, Option.getD_some] at q0 q1
  subst q0; subst q1
  repeat w_go ar_rely
  u_in ar_rely hF
  refine goes_call (c := body10) rfl rfl (by k_ne) rfl Try.func10 nm10 fb10 ⟨by u_nil, ?_⟩
  simp only [nt10]
  walk_nrm
  refine Goes.stop (fun _ r₁ => ?_)
  replace hF := ar_rely hF r₁
  clear r₁
  refine Goes.stop (fun w₁ r₁ => ?_)
  replace hF := ar_rely hF r₁
  clear r₁
  have hs1 : w₁.heap.size = w.heap.size := at_size hF
  refine ⟨by omega, ?_⟩
  refine eachReach (f := doV A B) (J := J) (N := N) (nb := 1) (deep := false) hJ hN1 hN (by omega) (hS.mono (by omega)) (job21 Nat.one_pos (bandEnv (hS.mono (by omega)))) ?_
  intro S' w' hA hL hN hO hrow
  have hO0 : Olds Shun w w' := ((Olds.refl Shun w).at hF).trans hO NewS.refl (by omega)
  have hA0 : Aft w w' 8 := ((Aft.refl w).at hF).trans hA
  clear hF
  rw [hs1] at hN hrow
  have hsz := hA0.size
  refine Reach.walk (B := w'.heap.size) (n := 60 + (20 + 40 + 60 * J)) (Nat.le_refl _) (Stop := fun g w'' => w'.heap.size ≤ w''.heap.size ∧ Reach Try.prog S' g w'' Post) ?_ (fun _ _ h => h)
  have hF := atRel_refl w'
  refine goL0 (n := 60) (m := 20 + 40 + 60 * J) ?_
  walk_nrm
  repeat w_but "T12" ar_rely
  rw [T12_eq]
  generalize q2 : SC12 = X2
  generalize q3 : SD12 = X3
  simp only [SC12, SD12, T12, body12, firstC, rightC, Try.f12, Option.getD_some] at q2 q3
  subst q2; subst q3
  repeat w_but "code.loop" ar_rely
  u_c stepG_loop ar_rely hF
  refine Goes.stop (fun _ r₁ => ?_)
  replace hF := ar_rely hF r₁
  clear r₁
  refine sumLoop (R := w.heap.size + 1) (A := A) (B := B) (J := J) (N := N) (m := 20) (fun i hi => rowF_cell hrow hi) (fun i hi => ?_) (by omega) (fun w₂ hF => ?_) J 0 (by omega) _ _ _ _ _ _ _ _ _ _ _ _ _ _ _ _ _ _ _ hF
  · refine evP_cell (fun h => ?_) (fun h => h) (by simp; omega)
    rcases hN _ (ShB.of h) with h1 | h1 | h1 | h1
    · exact hS.notB (by omega) h1
    · omega
    · omega
    · omega
  · refine Goes.stop (fun w₃ r₁ => ?_)
    replace hF := ar_rely hF r₁
    clear r₁
    have hs3 : w₃.heap.size = w'.heap.size := at_size hF
    refine ⟨by omega, ?_⟩
    refine hk S' w₃ (hA0.at hF) (hL.mono (by omega)) (fun k hk' => ?_) (hO0.at hF)
    rcases hN _ hk' with h1 | h1 | h1 | h1
    · exact .inl h1
    · exact .inr (by omega)
    · exact .inr (by omega)
    · exact .inr (by omega)
end
end Go.Proofs.Ytapjmifhhbpikaa

/- Gangs within gangs: the gang, in a row: the laws' own code beside leavers: Same. -/
import Derived.Test.YtapjmifhhbpikaaYe
import Derived.Conc.CompanyMem
set_option linter.unusedVariables false
set_option linter.unusedSimpArgs false
namespace Go.Proofs.Ytapjmifhhbpikaa
open Go.Conc Go.ConcN Go.ConcM Go.RowKit Go.Conc.Lib Go.ConcR.Gen
open Go.ConcR (KK wgBlock WgAt stA smA rd wr mk)
theorem termsE (E : Event → Prop) : Terms AtRel (DE E) := ⟨fun _ _ _ h k => atRel_trans _ _ _ h k, fun _ e he => by simp at he⟩
theorem drawE (E : Event → Prop) : LetsDraw (DE E) := fun _ e he => by simp at he
theorem ownDrawR (w : World) : AtRel w { w with drawn := w.drawn + 1 } := ⟨w.drawn + 1, rfl⟩
noncomputable def body14 : Code := Try.f14.body.getD .skip
noncomputable def LL14 : Code := (findLoop body14).getD .skip
noncomputable def RR14 : Code := rightC (rightC (rightC body14))
noncomputable def SA14 : Code := firstC body14
noncomputable def SB14 : Code := firstC (rightC body14)
noncomputable def SC14 : Code := firstC (firstC (rightC (rightC body14)))
set_option maxRecDepth 100000 in
theorem body14_eq : body14 = .seq SA14 (.seq SB14 (.seq (.seq SC14 (.block 0 (.loop LL14))) RR14)) := by
  simp only [SA14, SB14, SC14, LL14, RR14, body14, firstC, rightC, findLoop, Try.f14, Option.getD_some]
theorem fb14 : Try.f14.body = some body14 := by simp only [body14, Try.f14, Option.getD_some]
theorem nt14 : Try.f14.ntmps = 26 := by kernel_rfl
theorem loud14 : (Try.prog.funcs[(base 14).fn]?).any (·.norace) = false := by kernel_rfl
section
variable {E : Event → Prop} {W : World} {x y n cx cy : Nat} {f : Nat → Int} {b₀ : Frame} {a₀ : Act} {ops₀ : Array Oper} {i₀ : Nat} {rest₀ : List Nat} {k₀ : List Item} {cs : List Frame} {Stop : Goroutine → World → Prop} {m : Nat}
set_option maxRecDepth 100000 in
set_option maxHeartbeats 16000000 in
/-- The rounds that are left of Same's loop. -/
theorem sameLoop (hx : ∀ i, i < n → W.cell? ⟨x, i, none⟩ = some (.int .i64 (f i))) (hy : ∀ i, i < n → W.cell? ⟨y, i, none⟩ = some (.int .i64 (f i))) (ex : ∀ i, i < n → E ⟨.cell ⟨x, i, none⟩, false, false⟩) (ey : ∀ i, i < n → E ⟨.cell ⟨y, i, none⟩, false, false⟩) (hn : n ≤ 1000)
    (hgo : ∀ w₁, AtRel W w₁ → Goes Try.prog true AtRel (DE E) Stop m (G (b₀.at (a₀.put ((ops₀[i₀]?).bind (·.dst)) (.bool true)) (.inRegion ops₀ rest₀ :: k₀)) cs) w₁) :
    ∀ (r i : Nat), i + r = n → ∀ (s4 s6 s7 s8 s9 s10 s11 s12 s13 s14 s15 s16 s17 s18 s19 s20 s21 s22 s23 s24 s25 : Value) (w : World), AtRel W w →
      Goes Try.prog true AtRel (DE E) Stop (m + 40 + 60 * r) (G ((base 14).at ⟨#[.slice (some ⟨x, 0, none⟩) n cx, .slice (some ⟨y, 0, none⟩) n cy, undef, undef, s4, .int .i64 (i : Int), s6, s7, s8, s9, s10, s11, s12, s13, s14, s15, s16, s17, s18, s19, s20, s21, s22, s23, s24, s25], []⟩ [.code LL14, .inLoop LL14, .inBlock 0, .code RR14]) (b₀.at a₀ (.inRegion ops₀ (i₀ :: rest₀) :: k₀) :: cs)) w := by
  intro r
  induction r with
  | zero =>
    intro i hi s4 s6 s7 s8 s9 s10 s11 s12 s13 s14 s15 s16 s17 s18 s19 s20 s21 s22 s23 s24 s25 w hF
    rw [show m + 40 + 60 * 0 = 40 + m by omega]
    refine goL0 (n := 40) (m := m) ?_
    generalize hX : Item.code LL14 = X
    simp only [LL14, body14, firstC, rightC, findLoop, Try.f14, Option.getD_some] at hX
    subst hX
    have hlt : ¬ ((i : Int) < (n : Int)) := by omega
    repeat w_but "RR14" ar_rely
    generalize hX : Item.code RR14 = X
    simp only [RR14, body14, firstC, rightC, findLoop, Try.f14, Option.getD_some] at hX
    subst hX
    repeat w_go ar_rely
    u_leave1 Try.func14 ar_rely hF
    refine Goes.stop (fun _ r₁ => ?_)
    replace hF := ar_rely hF r₁
    clear r₁
    exact hgo _ hF
  | succ r ih =>
    intro i hi s4 s6 s7 s8 s9 s10 s11 s12 s13 s14 s15 s16 s17 s18 s19 s20 s21 s22 s23 s24 s25 w hF
    have hin : i < n := by omega
    have hlt : ((i : Int) < (n : Int)) := by omega
    rw [show m + 40 + 60 * (r + 1) = 20 + ((20 + (m + 40 + 60 * r)) + 20) by omega]
    refine goL0 (n := 20) (m := (20 + (m + 40 + 60 * r)) + 20) ?_
    generalize hX : Item.code LL14 = X
    simp only [LL14, body14, firstC, rightC, findLoop, Try.f14, Option.getD_some] at hX
    subst hX
    repeat w_go ar_rely
    refine Goes.stop (fun _ r₁ => ?_)
    replace hF := ar_rely hF r₁
    clear r₁
    refine wpC_goes (n := 20) (m := 20 + (m + 40 + 60 * r)) (fn := 14) (Q := fun e a' w' => e = .normal ∧ AtRel W w' ∧ ∃ u17 u18 u19 u20 u21 u22 u23 u24 : Value, a' = ⟨#[.slice (some ⟨x, 0, none⟩) n cx, .slice (some ⟨y, 0, none⟩) n cy, undef, undef, s4, .int .i64 (i : Int), s6, s7, s8, s9, s10, .int .i64 (i : Int), .slice (some ⟨x, 0, none⟩) n cx, .int .i64 (n : Int), .bool true, s15, s16, u17, u18, u19, u20, u21, u22, u23, u24, .bool false], []⟩) ?_ rfl (by k_ne) ?_
    · have ci := hx i hin
      have cj := hy i hin
      have T := termsE E
      refine wpC_more (n := 11) ?_ (by omega)
      co_held (termsE E) (drawE E) ownDrawR (fun w => AtRel W w) ar_rely hF
      co_applyP anyCH_take (termsE E) (fun _ _ h r => ar_rely h r) (fun _ _ _ h r => ⟨h.1, ar_rely h.2.1 r, h.2.2⟩) (i := 0) rfl (by first | kernel_rfl | decide +kernel) (by first | kernel_rfl | decide +kernel) (by first | kernel_rfl | decide +kernel) (.inl ⟨by rfl, fun _ hw => ⟨run_eq_of ?run0, ?guar0⟩⟩) hF ?rest0
      case run0 =>
        intro K hK
        (skip)
        go_simp
        exact hK
      case guar0 =>
        (skip)
        (co_quiet (termsE E))
      try walk_nrm
      co_applyP anyCH_take (termsE E) (fun _ _ h r => ar_rely h r) (fun _ _ _ h r => ⟨h.1, ar_rely h.2.1 r, h.2.2⟩) (i := 1) rfl (by first | kernel_rfl | decide +kernel) (by first | kernel_rfl | decide +kernel) (by first | kernel_rfl | decide +kernel) (.inl ⟨by rfl, fun _ hw => ⟨run_eq_of ?run1, ?guar1⟩⟩) hF ?rest1
      case run1 =>
        intro K hK
        (skip)
        go_simp
        exact hK
      case guar1 =>
        (skip)
        (co_quiet (termsE E))
      try walk_nrm
      co_applyP anyCH_take (termsE E) (fun _ _ h r => ar_rely h r) (fun _ _ _ h r => ⟨h.1, ar_rely h.2.1 r, h.2.2⟩) (i := 2) rfl (by first | kernel_rfl | decide +kernel) (by first | kernel_rfl | decide +kernel) (by first | kernel_rfl | decide +kernel) (.inl ⟨by rfl, fun _ hw => ⟨run_eq_of ?run2, ?guar2⟩⟩) hF ?rest2
      case run2 =>
        intro K hK
        (skip)
        go_simp
        exact hK
      case guar2 =>
        (skip)
        (co_still (termsE E))
      try walk_nrm
      co_applyP anyCH_take (termsE E) (fun _ _ h r => ar_rely h r) (fun _ _ _ h r => ⟨h.1, ar_rely h.2.1 r, h.2.2⟩) (i := 3) rfl (by first | kernel_rfl | decide +kernel) (by first | kernel_rfl | decide +kernel) (by first | kernel_rfl | decide +kernel) (.inl ⟨by rfl, fun _ hw => ⟨run_eq_of ?run3, ?guar3⟩⟩) hF ?rest3
      case run3 =>
        intro K hK
        (obtain ⟨d, rfl⟩ := hw; have hc : (W.at d).cell? ⟨x, i, none⟩ = some (.int .i64 (f i)) := ci)
        go_simp
        exact hK
      case guar3 =>
        (obtain ⟨d, rfl⟩ := hw; have hc : (W.at d).cell? ⟨x, i, none⟩ = some (.int .i64 (f i)) := ci)
        (co_evs (exact ex i hin))
      try walk_nrm
      co_applyP anyCH_take (termsE E) (fun _ _ h r => ar_rely h r) (fun _ _ _ h r => ⟨h.1, ar_rely h.2.1 r, h.2.2⟩) (i := 4) rfl (by first | kernel_rfl | decide +kernel) (by first | kernel_rfl | decide +kernel) (by first | kernel_rfl | decide +kernel) (.inl ⟨by rfl, fun _ hw => ⟨run_eq_of ?run4, ?guar4⟩⟩) hF ?rest4
      case run4 =>
        intro K hK
        (skip)
        go_simp
        exact hK
      case guar4 =>
        (skip)
        (co_quiet (termsE E))
      try walk_nrm
      co_applyP anyCH_take (termsE E) (fun _ _ h r => ar_rely h r) (fun _ _ _ h r => ⟨h.1, ar_rely h.2.1 r, h.2.2⟩) (i := 5) rfl (by first | kernel_rfl | decide +kernel) (by first | kernel_rfl | decide +kernel) (by first | kernel_rfl | decide +kernel) (.inl ⟨by rfl, fun _ hw => ⟨run_eq_of ?run5, ?guar5⟩⟩) hF ?rest5
      case run5 =>
        intro K hK
        (skip)
        go_simp
        exact hK
      case guar5 =>
        (skip)
        (co_quiet (termsE E))
      try walk_nrm
      co_applyP anyCH_take (termsE E) (fun _ _ h r => ar_rely h r) (fun _ _ _ h r => ⟨h.1, ar_rely h.2.1 r, h.2.2⟩) (i := 6) rfl (by first | kernel_rfl | decide +kernel) (by first | kernel_rfl | decide +kernel) (by first | kernel_rfl | decide +kernel) (.inl ⟨by rfl, fun _ hw => ⟨run_eq_of ?run6, ?guar6⟩⟩) hF ?rest6
      case run6 =>
        intro K hK
        (skip)
        go_simp
        exact hK
      case guar6 =>
        (skip)
        (co_still (termsE E))
      try walk_nrm
      co_applyP anyCH_take (termsE E) (fun _ _ h r => ar_rely h r) (fun _ _ _ h r => ⟨h.1, ar_rely h.2.1 r, h.2.2⟩) (i := 7) rfl (by first | kernel_rfl | decide +kernel) (by first | kernel_rfl | decide +kernel) (by first | kernel_rfl | decide +kernel) (.inl ⟨by rfl, fun _ hw => ⟨run_eq_of ?run7, ?guar7⟩⟩) hF ?rest7
      case run7 =>
        intro K hK
        (obtain ⟨d, rfl⟩ := hw; have hc : (W.at d).cell? ⟨y, i, none⟩ = some (.int .i64 (f i)) := cj)
        go_simp
        exact hK
      case guar7 =>
        (obtain ⟨d, rfl⟩ := hw; have hc : (W.at d).cell? ⟨y, i, none⟩ = some (.int .i64 (f i)) := cj)
        (co_evs (exact ey i hin))
      try walk_nrm
      co_applyP anyCH_take (termsE E) (fun _ _ h r => ar_rely h r) (fun _ _ _ h r => ⟨h.1, ar_rely h.2.1 r, h.2.2⟩) (i := 8) rfl (by first | kernel_rfl | decide +kernel) (by first | kernel_rfl | decide +kernel) (by first | kernel_rfl | decide +kernel) (.inl ⟨by rfl, fun _ hw => ⟨run_eq_of ?run8, ?guar8⟩⟩) hF ?rest8
      case run8 =>
        intro K hK
        (skip)
        go_simp
        exact hK
      case guar8 =>
        (skip)
        (co_quiet (termsE E))
      try walk_nrm
      refine anyCH_done (by first | kernel_rfl | decide +kernel) ?_ _
      exact ⟨rfl, hF, _, _, _, _, _, _, _, _, rfl⟩
    · rintro e a' w' ⟨rfl, hF, u17, u18, u19, u20, u21, u22, u23, u24, rfl⟩
      show Goes Try.prog true AtRel (DE E) Stop (20 + (m + 40 + 60 * r)) _ _
      refine goL0 (n := 20) (m := m + 40 + 60 * r) ?_
      have wi : IntKind.i64.wrap ((i : Int) + 1) = ((i + 1 : Nat) : Int) := by rw [IntKind.wrap_i64]; omega
      repeat w_nl ar_rely
      u_c stepG_inLoop ar_rely hF
      refine Goes.stop (fun _ r₁ => ?_)
      replace hF := ar_rely hF r₁
      clear r₁
      exact ih (i + 1) (by omega) _ _ _ _ _ _ _ _ _ _ _ _ _ _ _ _ _ _ _ _ _ _ hF
set_option maxRecDepth 100000 in
set_option maxHeartbeats 16000000 in
/-- ████ Same, FROM ITS ENTRY TO ITS RETURN. ████ -/
theorem sameGo (hx : ∀ i, i < n → W.cell? ⟨x, i, none⟩ = some (.int .i64 (f i))) (hy : ∀ i, i < n → W.cell? ⟨y, i, none⟩ = some (.int .i64 (f i))) (ex : ∀ i, i < n → E ⟨.cell ⟨x, i, none⟩, false, false⟩) (ey : ∀ i, i < n → E ⟨.cell ⟨y, i, none⟩, false, false⟩) (hn : n ≤ 1000)
    (hgo : ∀ w₁, AtRel W w₁ → Goes Try.prog true AtRel (DE E) Stop m (G (b₀.at (a₀.put ((ops₀[i₀]?).bind (·.dst)) (.bool true)) (.inRegion ops₀ rest₀ :: k₀)) cs) w₁) {w : World} (hF : AtRel W w) :
    Goes Try.prog true AtRel (DE E) Stop (m + 100 + 60 * n) (G ((base 14).at ⟨#[.slice (some ⟨x, 0, none⟩) n cx, .slice (some ⟨y, 0, none⟩) n cy, undef, undef, undef, undef, undef, undef, undef, undef, undef, undef, undef, undef, undef, undef, undef, undef, undef, undef, undef, undef, undef, undef, undef, undef], []⟩ [.code body14]) (b₀.at a₀ (.inRegion ops₀ (i₀ :: rest₀) :: k₀) :: cs)) w := by
  rw [show m + 100 + 60 * n = 60 + (m + 40 + 60 * n) by omega]
  refine goL0 (n := 60) (m := m + 40 + 60 * n) ?_
  rw [body14_eq]
  generalize q0 : SA14 = X0
  generalize q1 : SB14 = X1
  generalize q2 : SC14 = X2
  simp only [SA14, SB14, SC14, body14, firstC, rightC, Try.f14, Option.getD_some] at q0 q1 q2
  subst q0; subst q1; subst q2
  repeat w_but "code.loop" ar_rely
  u_c stepG_loop ar_rely hF
  refine Goes.stop (fun _ r₁ => ?_)
  replace hF := ar_rely hF r₁
  clear r₁
  exact sameLoop hx hy ex ey hn hgo n 0 (by omega) _ _ _ _ _ _ _ _ _ _ _ _ _ _ _ _ _ _ _ _ _ _ hF
end
end Go.Proofs.Ytapjmifhhbpikaa

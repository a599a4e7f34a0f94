/- Gangs within gangs: gang.Sum, by a worker: he begins a gang of his own. (Printed by zs.py.) -/
import Derived.Test.YtapjmifhhbpikaaZb
import Derived.Test.YtapjmifhhbpikaaYh
set_option linter.unusedVariables false
set_option linter.unusedSimpArgs false
namespace Go.Proofs.Ytapjmifhhbpikaa
open Go.Conc Go.ConcN Go.ConcM Go.RowKit Go.Conc.Lib Go.ConcR.Gen
open Go.ConcR (KK wgBlock WgAt stA smA rd wr mk)
section
variable {K : Band} {W : World} {T : Th} {Nx : Goroutine → World → Prop} {l : List (Nat × Obj)} {R J N : Nat} {A B : Int} {fv : Value} {b₀ : Frame} {a₀ : Act} {ops₀ : Array Oper} {i₀ : Nat} {rest₀ : List Nat} {k₀ : List Item} {cs : List Frame} {m : Nat}
set_option maxRecDepth 100000 in
set_option maxHeartbeats 16000000 in
/-- The rounds that are left of Sum's loop, by a worker. -/
theorem sumLoopW (hm : T.mute = false) (hl : ∀ x ∈ l, x.1 ∈ T.blk) (hC : (R, (.cells (rowF (doV A B) J fun _ => true) 3 : Obj)) ∈ l) (hn : J ≤ 1000)
    (hgo : ∀ w₁, KO K W l w₁ → GoW Try.prog K T Nx m (G (b₀.at (a₀.put ((ops₀[i₀]?).bind (·.dst)) (.tuple #[.int .i64 (accD A B J), .int .i64 0])) (.inRegion ops₀ rest₀ :: k₀)) cs) w₁) :
    ∀ (r i : Nat), i + r = J → ∀ (s11 s12 s13 s14 s15 s16 s17 s18 s19 s23 s24 s25 s26 s27 s28 s29 s30 s31 : Value) (w : World), KO K W l w →
      GoW Try.prog K T Nx (m + 40 + 60 * r) (G ((base 12).at ⟨#[.int .i64 (J : Int), .int .i64 (N : Int), fv, undef, undef, undef, .int .i64 0, .int .i64 0, .slice (some ⟨R, 0, none⟩) J J, .int .i64 0, .int .i64 (accD A B i), s11, s12, s13, s14, s15, s16, s17, s18, s19, .slice (some ⟨R, 0, none⟩) J J, .int .i64 (J : Int), .int .i64 (i : Int), s23, s24, s25, s26, s27, s28, s29, s30, s31], []⟩ [.code LL12, .inLoop LL12, .inBlock 0, .code RR12]) (b₀.at a₀ (.inRegion ops₀ (i₀ :: rest₀) :: k₀) :: cs)) w := by
  intro r
  induction r with
  | zero =>
    intro i hi s11 s12 s13 s14 s15 s16 s17 s18 s19 s23 s24 s25 s26 s27 s28 s29 s30 s31 w hF
    rw [show m + 40 + 60 * 0 = 40 + m by omega]
    obtain rfl : i = J := by omega
    refine goW0 (n := 40) (m := m) ?_
    generalize hX : Item.code LL12 = X
    simp only [LL12, T12, body12, firstC, rightC, findLoop, Try.f12, Option.getD_some] at hX
    subst hX
    have hlt : ¬ ((i : Int) < (i : Int)) := by omega
    repeat w_but "RR12" (kj_rely hl)
    generalize hX : Item.code RR12 = X
    simp only [RR12, T12, body12, firstC, rightC, findLoop, Try.f12, Option.getD_some] at hX
    subst hX
    repeat w_go (kj_rely hl)
    u_in (kj_rely hl) hF
    refine goes_leave2 rfl rfl Try.func12 rfl ⟨by u_nil, ?_⟩
    walk_nrm
    refine Goes.stop (fun _ r₁ => ?_)
    replace hF := kj_rely hl hF r₁
    clear r₁
    exact hgo _ hF
  | succ r ih =>
    intro i hi s11 s12 s13 s14 s15 s16 s17 s18 s19 s23 s24 s25 s26 s27 s28 s29 s30 s31 w hF
    have hin : i < J := by omega
    have hlt : ((i : Int) < (J : Int)) := by omega
    rw [show m + 40 + 60 * (r + 1) = 20 + ((39 + (m + 40 + 60 * r)) + 1) by omega]
    refine goW0 (n := 20) (m := (39 + (m + 40 + 60 * r)) + 1) ?_
    generalize hX : Item.code LL12 = X
    simp only [LL12, T12, body12, firstC, rightC, findLoop, Try.f12, Option.getD_some] at hX
    subst hX
    repeat w_go (kj_rely hl)
    refine Goes.stop (fun _ r₁ => ?_)
    replace hF := kj_rely hl hF r₁
    clear r₁
    refine goW_mine (n := 39 + (m + 40 + 60 * r)) (ad := ⟨R, i, none⟩) (v := .int .i64 (doV A B i)) rfl rfl (by k_ne) rfl (by simp) rfl loud12 hm (hl _ hC) (rowF_cell (hF.own _ hC).1 hin) fun _ r₁ => ?_
    replace hF := kj_rely hl hF r₁
    clear r₁
    refine goW0 (n := 39) (m := m + 40 + 60 * r) ?_
    have wi : IntKind.i64.wrap ((i : Int) + 1) = ((i + 1 : Nat) : Int) := by rw [IntKind.wrap_i64]; omega
    have wa : IntKind.i64.wrap (accD A B i + doV A B i) = accD A B (i + 1) := rfl
    walk_nrm
    repeat w_nl (kj_rely hl)
    u_c stepG_inLoop (kj_rely hl) hF
    refine Goes.stop (fun _ r₁ => ?_)
    replace hF := kj_rely hl hF r₁
    clear r₁
    exact ih (i + 1) (by omega) _ _ _ _ _ _ _ _ _ _ _ _ _ _ _ _ _ _ _ hF
end
section
variable {Fa : Nat → Th → Array Value → Goroutine → World → Prop} {K : Band} [Fam K Fa] {W : World} {b₁ : Frame} {a₁ : Act} {ops₁ : Array Oper} {i₁ : Nat} {rest₁ : List Nat} {k₁ : List Item} {cs₁ : List Frame}
set_option maxRecDepth 100000 in
set_option maxHeartbeats 64000000 in
/-- ████ gang.Sum, BY A WORKER. ████ -/
theorem sumWGo {A B : Int} {M N j : Nat} (hdeep : K.deep = true) (hM : M ≤ 256) (hN1 : 1 ≤ N) (hN : N ≤ 64) (k : Nat) (v : Array Value)
    (hT : ∀ k' bl, ∃ m, ∀ w, Kn K W w → GoW Try.prog K { pc := .ld, job := j, blk := bl } (Fa k' { pc := .ld, job := j, blk := bl } v) m (G (b₁.at (a₁.put ((ops₁[i₁]?).bind (·.dst)) (.tuple #[.int .i64 (accD A B M), .int .i64 0])) (.inRegion ops₁ rest₁ :: k₁)) cs₁) w) (w : World) (hF0 : Kn K W w) :
    GoW Try.prog K { pc := .bx, job := j, it := 9 } (Fa k { pc := .bx, job := j, it := 9 } v) 60 (G ((base 12).at ⟨#[.int .i64 (M : Int), .int .i64 (N : Int), .func (.func 11) #[.agg #[.int .i64 A, .int .i64 B]] #[], undef, undef, undef, undef, undef, undef, undef, undef, undef, undef, undef, undef, undef, undef, undef, undef, undef, undef, undef, undef, undef, undef, undef, undef, undef, undef, undef, undef, undef], []⟩ [.code body12]) (b₁.at a₁ (.inRegion ops₁ (i₁ :: rest₁) :: k₁) :: cs₁)) w := by
  have hF : KO K W [] w := ⟨hF0, fun x hx => by cases hx⟩
  have hl0 : ∀ x ∈ ([] : List (Nat × Obj)), x.1 ∈ ([] : List Nat) := fun x hx => by cases hx
  have g1 : ¬ ((M : Int) < 0) := by omega
  have g2 : ¬ ((256 : Int) < (M : Int)) := by omega
  have g3 : ¬ ((N : Int) < 1) := by omega
  have g4 : ¬ ((64 : Int) < (N : Int)) := by omega
  refine goW0 (n := 60) (m := 0) ?_
  rw [body12_eq]
  generalize q0 : SA12 = X0
  generalize q1 : SB12 = X1
  simp only [SA12, SB12, body12, firstC, rightC, Try.f12, Option.getD_some] at q0 q1
  subst q0; subst q1
  repeat w_go (kj_rely hl0)
  u_in (kj_rely hl0) hF
  refine goes_call (c := body10) rfl rfl (by k_ne) rfl Try.func10 nm10 fb10 ⟨by u_nil, ?_⟩
  simp only [nt10]
  walk_nrm
  simp only [body10, Try.f10, Option.getD_some]
  repeat w_go (kj_rely hl0)
  refine Goes.stop (fun _ r₁ => ?_)
  replace hF := kj_rely hl0 hF r₁
  clear r₁
  refine goW_newB (n := 8) rfl (show 8 < 9 by omega) hl0 hF rfl rfl (by k_ne) (v' := fun s => .pointer (some ⟨s, 0, none⟩)) (run_box rfl rfl (.inl ⟨.inl rfl, _, _, _, rfl⟩)) ?_
  clear hF
  intro k F1 hneF1
  refine ⟨100 + 0, fun w hF => ?_⟩
  have hl1 : ∀ x ∈ ([(F1, (.cells #[.func (.func 11) #[.agg #[.int .i64 A, .int .i64 B]] #[]] 36 : Obj))] : List (Nat × Obj)), x.1 ∈ ([F1] : List Nat) := by simp
  refine goW0 (n := 100) (m := 0) ?_
  walk_nrm
  repeat w_go (kj_rely hl1)
  u_call Try.func16 nm16 Try.f16 (kj_rely hl1) hF
  repeat w_go (kj_rely hl1)
  u_leave1 Try.func16 (kj_rely hl1) hF
  repeat w_go (kj_rely hl1)
  refine Goes.stop (fun _ r₁ => ?_)
  replace hF := kj_rely hl1 hF r₁
  clear r₁
  refine goW_newB (n := 7) rfl (show 7 < 8 by omega) hl1 hF rfl rfl (by k_ne) (v' := fun s => .slice (some ⟨s, 0, none⟩) M M) (run_mkSlice rfl (by omega) rfl rfl) ?_
  clear hF
  intro k C1 hneC1
  refine ⟨20 + 0, fun w hF => ?_⟩
  have hl2 : ∀ x ∈ ([(C1, (.cells (Array.replicate M (.int .i64 0)) 3 : Obj)), (F1, (.cells #[.func (.func 11) #[.agg #[.int .i64 A, .int .i64 B]] #[]] 36 : Obj))] : List (Nat × Obj)), x.1 ∈ ([C1, F1] : List Nat) := by simp
  refine goW0 (n := 20) (m := 0) ?_
  walk_nrm
  repeat w_go (kj_rely hl2)
  refine Goes.stop (fun _ r₁ => ?_)
  replace hF := kj_rely hl2 hF r₁
  clear r₁
  refine goW_newB (n := 6) rfl (show 6 < 7 by omega) hl2 hF rfl rfl (by k_ne) (v' := fun s => .pointer (some ⟨s, 0, none⟩)) (run_alloc33 rfl) ?_
  clear hF
  intro k O1 hneO1
  refine ⟨20 + (20 + 0 + 1), fun w hF => ?_⟩
  have hl3 : ∀ x ∈ ([(O1, (.cells #[.slice none 0 0] 33 : Obj)), (C1, (.cells (Array.replicate M (.int .i64 0)) 3 : Obj)), (F1, (.cells #[.func (.func 11) #[.agg #[.int .i64 A, .int .i64 B]] #[]] 36 : Obj))] : List (Nat × Obj)), x.1 ∈ ([O1, C1, F1] : List Nat) := by simp
  simp only [List.mem_cons, List.not_mem_nil, or_false, forall_eq_or_imp, forall_eq] at hneF1 hneC1 hneO1
  refine goW0 (n := 20) (m := 20 + 0 + 1) ?_
  walk_nrm
  repeat w_go (kj_rely hl3)
  refine Goes.stop (fun _ r₁ => ?_)
  replace hF := kj_rely hl3 hF r₁
  clear r₁
  refine goW_st1 (n := 20) (t := 33) (bk := O1) (X := .slice (some ⟨C1, 0, none⟩) M M) (l' := [(O1, (.cells #[.slice (some ⟨C1, 0, none⟩) M M] 33 : Obj)), (C1, (.cells (Array.replicate M (.int .i64 0)) 3 : Obj)), (F1, (.cells #[.func (.func 11) #[.agg #[.int .i64 A, .int .i64 B]] #[]] 36 : Obj))]) hl3 hF rfl rfl (by k_ne) rfl rfl rfl (.inl ⟨rfl, _, _, _, rfl⟩) loud10 rfl rfl List.mem_cons_self (fun x hx => ?_) fun w hF => ?_
  · simp only [List.mem_cons, List.not_mem_nil, or_false] at hx ⊢
    rcases hx with rfl | rfl | rfl
    · exact .inl rfl
    · exact .inr ⟨hneO1.1, by simp⟩
    · exact .inr ⟨hneO1.2, by simp⟩
  have hl4 : ∀ x ∈ ([(O1, (.cells #[.slice (some ⟨C1, 0, none⟩) M M] 33 : Obj)), (C1, (.cells (Array.replicate M (.int .i64 0)) 3 : Obj)), (F1, (.cells #[.func (.func 11) #[.agg #[.int .i64 A, .int .i64 B]] #[]] 36 : Obj))] : List (Nat × Obj)), x.1 ∈ ([O1, C1, F1] : List Nat) := by simp
  refine goW0 (n := 20) (m := 0) ?_
  walk_nrm
  repeat w_go (kj_rely hl4)
  refine Goes.stop (fun _ r₁ => ?_)
  replace hF := kj_rely hl4 hF r₁
  clear r₁
  refine goW_newB (n := 5) rfl (show 5 < 6 by omega) hl4 hF rfl rfl (by k_ne) (v' := fun s => .pointer (some ⟨s, 0, none⟩)) (run_alloc50 rfl) ?_
  clear hF
  intro k Mu1 hneMu1
  refine ⟨80 + 0, fun w hF => ?_⟩
  have hl5 : ∀ x ∈ ([(Mu1, (muBlock 50 0 0 : Obj)), (O1, (.cells #[.slice (some ⟨C1, 0, none⟩) M M] 33 : Obj)), (C1, (.cells (Array.replicate M (.int .i64 0)) 3 : Obj)), (F1, (.cells #[.func (.func 11) #[.agg #[.int .i64 A, .int .i64 B]] #[]] 36 : Obj))] : List (Nat × Obj)), x.1 ∈ ([Mu1, O1, C1, F1] : List Nat) := by simp
  refine goW0 (n := 80) (m := 0) ?_
  walk_nrm
  repeat w_go (kj_rely hl5)
  u_in (kj_rely hl5) hF
  refine goes_call (c := body17) rfl rfl (by k_ne) rfl Try.func17 nm17 fb17 ⟨by u_nil, ?_⟩
  simp only [nt17]
  walk_nrm
  rw [body17_eq]
  generalize q0 : C0 = X0
  generalize q1 : Go.Proofs.Ytapjmifhhbpikaa.C1 = X1
  generalize q2 : C2 = X2
  generalize q3 : C3 = X3
  simp only [C0, Go.Proofs.Ytapjmifhhbpikaa.C1, C2, C3, body17, firstC, rightC, Try.f17, Option.getD_some] at q0 q1 q2 q3
  subst q0; subst q1; subst q2; subst q3
  repeat w_go (kj_rely hl5)
  refine Goes.stop (fun _ r₁ => ?_)
  replace hF := kj_rely hl5 hF r₁
  clear r₁
  refine goW_newB (n := 4) rfl (show 4 < 5 by omega) hl5 hF rfl rfl (by k_ne) (v' := fun s => .pointer (some ⟨s, 0, none⟩)) (run_box rfl rfl (.inl ⟨.inr (.inl rfl), _, _, _, rfl⟩)) ?_
  clear hF
  intro k D1 hneD1
  refine ⟨20 + 0, fun w hF => ?_⟩
  have hl6 : ∀ x ∈ ([(D1, (.cells #[.func (.func 21) #[] #[.pointer (some ⟨F1, 0, none⟩), .pointer (some ⟨Mu1, 0, none⟩), .pointer (some ⟨O1, 0, none⟩)]] 52 : Obj)), (Mu1, (muBlock 50 0 0 : Obj)), (O1, (.cells #[.slice (some ⟨C1, 0, none⟩) M M] 33 : Obj)), (C1, (.cells (Array.replicate M (.int .i64 0)) 3 : Obj)), (F1, (.cells #[.func (.func 11) #[.agg #[.int .i64 A, .int .i64 B]] #[]] 36 : Obj))] : List (Nat × Obj)), x.1 ∈ ([D1, Mu1, O1, C1, F1] : List Nat) := by simp
  refine goW0 (n := 20) (m := 0) ?_
  walk_nrm
  repeat w_go (kj_rely hl6)
  refine Goes.stop (fun _ r₁ => ?_)
  replace hF := kj_rely hl6 hF r₁
  clear r₁
  refine goW_newB (n := 3) rfl (show 3 < 4 by omega) hl6 hF rfl rfl (by k_ne) (v' := fun s => .chan (some s)) (run_mkChan rfl) ?_
  clear hF
  intro k Ch1 hneCh1
  refine ⟨20 + 0, fun w hF => ?_⟩
  have hl7 : ∀ x ∈ ([(Ch1, (.chan 0 #[] false 0 0 false : Obj)), (D1, (.cells #[.func (.func 21) #[] #[.pointer (some ⟨F1, 0, none⟩), .pointer (some ⟨Mu1, 0, none⟩), .pointer (some ⟨O1, 0, none⟩)]] 52 : Obj)), (Mu1, (muBlock 50 0 0 : Obj)), (O1, (.cells #[.slice (some ⟨C1, 0, none⟩) M M] 33 : Obj)), (C1, (.cells (Array.replicate M (.int .i64 0)) 3 : Obj)), (F1, (.cells #[.func (.func 11) #[.agg #[.int .i64 A, .int .i64 B]] #[]] 36 : Obj))] : List (Nat × Obj)), x.1 ∈ ([Ch1, D1, Mu1, O1, C1, F1] : List Nat) := by simp
  refine goW0 (n := 20) (m := 0) ?_
  walk_nrm
  repeat w_go (kj_rely hl7)
  refine Goes.stop (fun _ r₁ => ?_)
  replace hF := kj_rely hl7 hF r₁
  clear r₁
  refine goW_newB (n := 2) rfl (show 2 < 3 by omega) hl7 hF rfl rfl (by k_ne) (v' := fun s => .pointer (some ⟨s, 0, none⟩)) (run_alloc53 rfl) ?_
  clear hF
  intro k Q1 hneQ1
  refine ⟨20 + (20 + 0 + 1), fun w hF => ?_⟩
  have hl8 : ∀ x ∈ ([(Q1, (.cells #[.chan none] 53 : Obj)), (Ch1, (.chan 0 #[] false 0 0 false : Obj)), (D1, (.cells #[.func (.func 21) #[] #[.pointer (some ⟨F1, 0, none⟩), .pointer (some ⟨Mu1, 0, none⟩), .pointer (some ⟨O1, 0, none⟩)]] 52 : Obj)), (Mu1, (muBlock 50 0 0 : Obj)), (O1, (.cells #[.slice (some ⟨C1, 0, none⟩) M M] 33 : Obj)), (C1, (.cells (Array.replicate M (.int .i64 0)) 3 : Obj)), (F1, (.cells #[.func (.func 11) #[.agg #[.int .i64 A, .int .i64 B]] #[]] 36 : Obj))] : List (Nat × Obj)), x.1 ∈ ([Q1, Ch1, D1, Mu1, O1, C1, F1] : List Nat) := by simp
  simp only [List.mem_cons, List.not_mem_nil, or_false, forall_eq_or_imp, forall_eq] at hneMu1 hneD1 hneCh1 hneQ1
  refine goW0 (n := 20) (m := 20 + 0 + 1) ?_
  walk_nrm
  repeat w_go (kj_rely hl8)
  refine Goes.stop (fun _ r₁ => ?_)
  replace hF := kj_rely hl8 hF r₁
  clear r₁
  refine goW_st1 (n := 20) (t := 53) (bk := Q1) (X := .chan (some Ch1)) (l' := [(Q1, (.cells #[.chan (some Ch1)] 53 : Obj)), (Ch1, (.chan 0 #[] false 0 0 false : Obj)), (D1, (.cells #[.func (.func 21) #[] #[.pointer (some ⟨F1, 0, none⟩), .pointer (some ⟨Mu1, 0, none⟩), .pointer (some ⟨O1, 0, none⟩)]] 52 : Obj)), (Mu1, (muBlock 50 0 0 : Obj)), (O1, (.cells #[.slice (some ⟨C1, 0, none⟩) M M] 33 : Obj)), (C1, (.cells (Array.replicate M (.int .i64 0)) 3 : Obj)), (F1, (.cells #[.func (.func 11) #[.agg #[.int .i64 A, .int .i64 B]] #[]] 36 : Obj))]) hl8 hF rfl rfl (by k_ne) rfl rfl rfl (.inr (.inl ⟨rfl, _, rfl⟩)) loud17 rfl rfl List.mem_cons_self (fun x hx => ?_) fun w hF => ?_
  · simp only [List.mem_cons, List.not_mem_nil, or_false] at hx ⊢
    rcases hx with rfl | rfl | rfl | rfl | rfl | rfl | rfl
    · exact .inl rfl
    · exact .inr ⟨hneQ1.1, by simp⟩
    · exact .inr ⟨hneQ1.2.1, by simp⟩
    · exact .inr ⟨hneQ1.2.2.1, by simp⟩
    · exact .inr ⟨hneQ1.2.2.2.1, by simp⟩
    · exact .inr ⟨hneQ1.2.2.2.2.1, by simp⟩
    · exact .inr ⟨hneQ1.2.2.2.2.2, by simp⟩
  have hl9 : ∀ x ∈ ([(Q1, (.cells #[.chan (some Ch1)] 53 : Obj)), (Ch1, (.chan 0 #[] false 0 0 false : Obj)), (D1, (.cells #[.func (.func 21) #[] #[.pointer (some ⟨F1, 0, none⟩), .pointer (some ⟨Mu1, 0, none⟩), .pointer (some ⟨O1, 0, none⟩)]] 52 : Obj)), (Mu1, (muBlock 50 0 0 : Obj)), (O1, (.cells #[.slice (some ⟨C1, 0, none⟩) M M] 33 : Obj)), (C1, (.cells (Array.replicate M (.int .i64 0)) 3 : Obj)), (F1, (.cells #[.func (.func 11) #[.agg #[.int .i64 A, .int .i64 B]] #[]] 36 : Obj))] : List (Nat × Obj)), x.1 ∈ ([Q1, Ch1, D1, Mu1, O1, C1, F1] : List Nat) := by simp
  refine goW0 (n := 20) (m := 0) ?_
  walk_nrm
  repeat w_go (kj_rely hl9)
  refine Goes.stop (fun _ r₁ => ?_)
  replace hF := kj_rely hl9 hF r₁
  clear r₁
  refine goW_newB (n := 1) rfl (show 1 < 2 by omega) hl9 hF rfl rfl (by k_ne) (v' := fun s => .pointer (some ⟨s, 0, none⟩)) (run_alloc60 rfl) ?_
  clear hF
  intro k Wg1 hneWg1
  refine ⟨40 + 0, fun w hF => ?_⟩
  have hl10 : ∀ x ∈ ([(Wg1, (wgBlock 60 0 0 : Obj)), (Q1, (.cells #[.chan (some Ch1)] 53 : Obj)), (Ch1, (.chan 0 #[] false 0 0 false : Obj)), (D1, (.cells #[.func (.func 21) #[] #[.pointer (some ⟨F1, 0, none⟩), .pointer (some ⟨Mu1, 0, none⟩), .pointer (some ⟨O1, 0, none⟩)]] 52 : Obj)), (Mu1, (muBlock 50 0 0 : Obj)), (O1, (.cells #[.slice (some ⟨C1, 0, none⟩) M M] 33 : Obj)), (C1, (.cells (Array.replicate M (.int .i64 0)) 3 : Obj)), (F1, (.cells #[.func (.func 11) #[.agg #[.int .i64 A, .int .i64 B]] #[]] 36 : Obj))] : List (Nat × Obj)), x.1 ∈ ([Wg1, Q1, Ch1, D1, Mu1, O1, C1, F1] : List Nat) := by simp
  simp only [List.mem_cons, List.not_mem_nil, or_false, forall_eq_or_imp, forall_eq] at hneWg1
  refine goW0 (n := 40) (m := 0) ?_
  walk_nrm
  repeat w_but "code.loop" (kj_rely hl10)
  u_c stepG_loop (kj_rely hl10) hF
  refine Goes.stop (fun _ r₁ => ?_)
  replace hF := kj_rely hl10 hF r₁
  clear r₁
  -- HERE HIS GANG BEGINS
  refine Goes.stop (fun wx r₁ => ?_)
  replace hF := kj_rely hl10 hF r₁
  clear r₁
  rcases k with _ | k
  · exact Fam.zero (K := K) _ _ _ _
  refine Fam.succ' (K := K) (A := Fa) (.inr ⟨rfl, hdeep, ?_⟩)
  obtain ⟨mT, hT'⟩ := hT k [Q1, D1, O1, C1, F1]
  refine beginGo (m0 := 20 + ((60 + (mT + 40 + 60 * M)) + 1)) hM hN1 hN Nat.one_pos ?_ rfl hF fun w hF => ?_
  · simp only [List.nodup_cons, List.mem_cons, List.not_mem_nil, or_false, not_or, not_false_eq_true, List.nodup_nil, and_true]
    exact ⟨⟨Ne.symm hneWg1.1, Ne.symm hneWg1.2.1, Ne.symm hneWg1.2.2.1, Ne.symm hneWg1.2.2.2.1, Ne.symm hneWg1.2.2.2.2.1, Ne.symm hneWg1.2.2.2.2.2.1, Ne.symm hneWg1.2.2.2.2.2.2⟩, ⟨Ne.symm hneQ1.1, Ne.symm hneQ1.2.1, Ne.symm hneQ1.2.2.1, Ne.symm hneQ1.2.2.2.1, Ne.symm hneQ1.2.2.2.2.1, Ne.symm hneQ1.2.2.2.2.2⟩, ⟨Ne.symm hneCh1.1, Ne.symm hneCh1.2.1, Ne.symm hneCh1.2.2.1, Ne.symm hneCh1.2.2.2.1, Ne.symm hneCh1.2.2.2.2⟩, ⟨Ne.symm hneD1.1, Ne.symm hneD1.2.1, Ne.symm hneD1.2.2.1, Ne.symm hneD1.2.2.2⟩, ⟨Ne.symm hneMu1.1, Ne.symm hneMu1.2.1, Ne.symm hneMu1.2.2⟩, ⟨Ne.symm hneO1.1, Ne.symm hneO1.2⟩, Ne.symm hneC1⟩
  clear hT
  have hl' : ∀ x ∈ ([(O1, (.cells #[.slice (some ⟨C1, 0, none⟩) M M] 33 : Obj)), (C1, (.cells (rowF (doV A B) M fun _ => true) 3 : Obj))] : List (Nat × Obj)), x.1 ∈ ([Q1, D1, O1, C1, F1] : List Nat) := by simp
  have mO : (O1, (.cells #[.slice (some ⟨C1, 0, none⟩) M M] 33 : Obj)) ∈ ([(O1, (.cells #[.slice (some ⟨C1, 0, none⟩) M M] 33 : Obj)), (C1, (.cells (rowF (doV A B) M fun _ => true) 3 : Obj))] : List (Nat × Obj)) := by simp
  have mC : (C1, (.cells (rowF (doV A B) M fun _ => true) 3 : Obj)) ∈ ([(O1, (.cells #[.slice (some ⟨C1, 0, none⟩) M M] 33 : Obj)), (C1, (.cells (rowF (doV A B) M fun _ => true) 3 : Obj))] : List (Nat × Obj)) := by simp
  refine goW0 (n := 20) (m := (60 + (mT + 40 + 60 * M)) + 1) ?_
  walk_nrm
  repeat w_go (kj_rely hl')
  refine Goes.stop (fun _ r₁ => ?_)
  replace hF := kj_rely hl' hF r₁
  clear r₁
  refine goW_mine (n := 60 + (mT + 40 + 60 * M)) (ad := ⟨O1, 0, none⟩) (v := .slice (some ⟨C1, 0, none⟩) M M) rfl rfl (by k_ne) rfl (by simp) rfl loud10 rfl (hl' _ mO) (hF.cell1 mO).1 fun _ r₁ => ?_
  replace hF := kj_rely hl' hF r₁
  clear r₁
  refine goW0 (n := 60) (m := mT + 40 + 60 * M) ?_
  walk_nrm
  repeat w_go (kj_rely hl')
  u_in (kj_rely hl') hF
  refine goes_leave2 rfl rfl Try.func10 rfl ⟨by u_nil, ?_⟩
  walk_nrm
  repeat w_but "T12" (kj_rely hl')
  rw [T12_eq]
  generalize q2 : SC12 = X2
  generalize q3 : SD12 = X3
  simp only [SC12, SD12, T12, body12, firstC, rightC, Try.f12, Option.getD_some] at q2 q3
  subst q2; subst q3
  repeat w_but "code.loop" (kj_rely hl')
  u_c stepG_loop (kj_rely hl') hF
  refine Goes.stop (fun _ r₁ => ?_)
  replace hF := kj_rely hl' hF r₁
  clear r₁
  exact sumLoopW (A := A) (B := B) (J := M) (N := N) (R := C1) (m := mT) rfl hl' mC (by omega) (fun w₁ h => hT' w₁ h.kn) M 0 (by omega) _ _ _ _ _ _ _ _ _ _ _ _ _ _ _ _ _ _ _ hF
end
end Go.Proofs.Ytapjmifhhbpikaa

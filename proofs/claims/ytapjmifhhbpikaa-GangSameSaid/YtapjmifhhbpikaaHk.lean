/- The gang, in a row: the laws' own code beside leavers: Each refused; Sum refused; Do by goroutine 0. -/
import Derived.Test.YtapjmifhhbpikaaHh
set_option linter.unusedVariables false
set_option linter.unusedSimpArgs false
namespace Go.Proofs.Ytapjmifhhbpikaa
open Go.Conc Go.ConcN Go.ConcM Go.RowKit Go.Conc.Lib Go.ConcR.Gen
open Go.ConcR (KK wgBlock WgAt stA smA rd wr mk)
/-- Refused. -/
def OddI (x y : Int) : Prop := x < 0 ∨ (¬ x < 0 ∧ 256 < x) ∨ (¬ x < 0 ∧ ¬ 256 < x ∧ y < 1) ∨ (¬ x < 0 ∧ ¬ 256 < x ∧ ¬ y < 1 ∧ 64 < y)
section
variable {E : Event → Prop} {W : World} {A B x y : Int} {b₀ : Frame} {a₀ : Act} {ops₀ : Array Oper} {i₀ : Nat} {rest₀ : List Nat} {k₀ : List Item} {cs : List Frame} {Stop : Goroutine → World → Prop} {m : Nat}
set_option maxRecDepth 100000 in
set_option maxHeartbeats 16000000 in
/-- ████ Each, REFUSED. ████ -/
theorem eachOdd (ho : OddI x y) {w : World} (hF : AtRel W w)
    (hgo : ∀ w₁, AtRel (W.alloc (.cells #[.func (.func 11) #[.agg #[.int .i64 A, .int .i64 B]] #[]] 36)) w₁ → Goes Try.prog true AtRel (DE E) Stop m (G (b₀.at (a₀.put ((ops₀[i₀]?).bind (·.dst)) (.tuple #[.slice none 0 0, .int .i64 5])) (.inRegion ops₀ rest₀ :: k₀)) cs) w₁) :
    Goes Try.prog true AtRel (DE E) Stop (20 + ((120 + m) + 1)) (G ((base 10).at ⟨#[.int .i64 x, .int .i64 y, .func (.func 11) #[.agg #[.int .i64 A, .int .i64 B]] #[], undef, undef, undef, undef, undef, undef, undef, undef, undef, undef, undef, undef, undef, undef, undef, undef, undef], []⟩ [.code body10]) (b₀.at a₀ (.inRegion ops₀ (i₀ :: rest₀) :: k₀) :: cs)) w := by
  refine goL0 (n := 20) (m := (120 + m) + 1) ?_
  simp only [body10, Try.f10, Option.getD_some]
  repeat w_go ar_rely
  refine Goes.stop (fun _ r₁ => ?_)
  replace hF := ar_rely hF r₁
  clear r₁
  refine goL_new (n := 120 + m) (v := fun s => .pointer (some ⟨s, 0, none⟩)) hF rfl rfl (by k_ne) (run_box rfl rfl (.inl ⟨.inl rfl, _, _, _, rfl⟩)) fun _ hF => ?_
  refine goL0 (n := 120) (m := m) ?_
  walk_nrm
  repeat w_go ar_rely
  u_call Try.func16 nm16 Try.f16 ar_rely hF
  rcases ho with h1 | ⟨h1, h2⟩ | ⟨h1, h2, h3⟩ | ⟨h1, h2, h3, h4⟩
  all_goals
    repeat w_go ar_rely
    u_leave1 Try.func16 ar_rely hF
    repeat w_go ar_rely
    u_in ar_rely hF
    refine goes_leave2 rfl rfl Try.func10 rfl ⟨by u_nil, ?_⟩
    walk_nrm
    refine Goes.stop (fun _ r₁ => ?_)
    replace hF := ar_rely hF r₁
    clear r₁
    exact hgo _ hF
set_option maxRecDepth 100000 in
set_option maxHeartbeats 16000000 in
/-- ████ Sum, REFUSED. ████ -/
theorem sumOdd (ho : OddI x y) {w : World} (hF : AtRel W w)
    (hgo : ∀ w₁, AtRel (W.alloc (.cells #[.func (.func 11) #[.agg #[.int .i64 A, .int .i64 B]] #[]] 36)) w₁ → Goes Try.prog true AtRel (DE E) Stop m (G (b₀.at (a₀.put ((ops₀[i₀]?).bind (·.dst)) (.tuple #[.int .i64 0, .int .i64 5])) (.inRegion ops₀ rest₀ :: k₀)) cs) w₁) :
    Goes Try.prog true AtRel (DE E) Stop (30 + (20 + ((120 + (100 + m)) + 1))) (G ((base 12).at ⟨#[.int .i64 x, .int .i64 y, .func (.func 11) #[.agg #[.int .i64 A, .int .i64 B]] #[], undef, undef, undef, undef, undef, undef, undef, undef, undef, undef, undef, undef, undef, undef, undef, undef, undef, undef, undef, undef, undef, undef, undef, undef, undef, undef, undef, undef, undef], []⟩ [.code body12]) (b₀.at a₀ (.inRegion ops₀ (i₀ :: rest₀) :: k₀) :: cs)) w := by
  refine goL0 (n := 30) (m := 20 + ((120 + (100 + m)) + 1)) ?_
  rw [body12_eq]
  generalize q0 : SA12 = X0
  generalize q1 : SB12 = X1
  simp only [SA12, SB12, body12, firstC, rightC, Try.f12, Option.getD_some] at q0 q1
  subst q0; subst q1
  repeat w_go ar_rely
  u_in ar_rely hF
  refine goes_call (c := body10) rfl rfl (by k_ne) rfl Try.func10 nm10 fb10 ⟨by u_nil, ?_⟩
  simp only [nt10]
  walk_nrm
  refine Goes.stop (fun _ r₁ => ?_)
  replace hF := ar_rely hF r₁
  clear r₁
  refine eachOdd ho hF fun _ hF => ?_
  refine goL0 (n := 100) (m := m) ?_
  walk_nrm
  repeat w_but "T12" ar_rely
  rw [T12_eq]
  generalize q2 : SC12 = X2
  generalize q3 : SD12 = X3
  generalize q4 : LL12 = X4
  simp only [SC12, SD12, LL12, T12, body12, firstC, rightC, findLoop, Try.f12, Option.getD_some] at q2 q3 q4
  subst q2; subst q3; subst q4
  repeat w_but "RR12" ar_rely
  generalize hX : Item.code RR12 = X
  simp only [RR12, T12, body12, firstC, rightC, findLoop, Try.f12, Option.getD_some] at hX
  subst hX
  repeat w_go ar_rely
  u_in ar_rely hF
  refine goes_leave2 rfl rfl Try.func12 rfl ⟨by u_nil, ?_⟩
  walk_nrm
  refine Goes.stop (fun _ r₁ => ?_)
  replace hF := ar_rely hF r₁
  clear r₁
  exact hgo _ hF
set_option maxRecDepth 100000 in
set_option maxHeartbeats 16000000 in
/-- ████ Same, OF TWO EMPTY ROWS. ████ -/
theorem same0 {p0 p1 : Option Addr} {cx cy : Nat} {w : World} (hF : AtRel W w)
    (hgo : ∀ w₁, AtRel W w₁ → Goes Try.prog true AtRel (DE E) Stop m (G (b₀.at (a₀.put ((ops₀[i₀]?).bind (·.dst)) (.bool true)) (.inRegion ops₀ rest₀ :: k₀)) cs) w₁) :
    Goes Try.prog true AtRel (DE E) Stop (100 + m) (G ((base 14).at ⟨#[.slice p0 0 cx, .slice p1 0 cy, undef, undef, undef, undef, undef, undef, undef, undef, undef, undef, undef, undef, undef, undef, undef, undef, undef, undef, undef, undef, undef, undef, undef, undef], []⟩ [.code body14]) (b₀.at a₀ (.inRegion ops₀ (i₀ :: rest₀) :: k₀) :: cs)) w := by
  refine goL0 (n := 100) (m := m) ?_
  rw [body14_eq]
  generalize q0 : SA14 = X0
  generalize q1 : SB14 = X1
  generalize q2 : SC14 = X2
  generalize q3 : LL14 = X3
  simp only [SA14, SB14, SC14, LL14, body14, firstC, rightC, findLoop, Try.f14, Option.getD_some] at q0 q1 q2 q3
  subst q0; subst q1; subst q2; subst q3
  repeat w_but "RR14" ar_rely
  generalize hX : Item.code RR14 = X
  simp only [RR14, body14, firstC, rightC, findLoop, Try.f14, Option.getD_some] at hX
  subst hX
  repeat w_go ar_rely
  u_leave1 Try.func14 ar_rely hF
  refine Goes.stop (fun _ r₁ => ?_)
  replace hF := ar_rely hF r₁
  clear r₁
  exact hgo _ hF
theorem loud11' : (Try.prog.funcs[(base 11).fn]?).any (·.norace) = false := by kernel_rfl
theorem fb11 : Try.f11.body = some body11 := by simp only [body11, Try.f11, Option.getD_some]
theorem nt11 : Try.f11.ntmps = 16 := by kernel_rfl
set_option maxRecDepth 100000 in
set_option maxHeartbeats 16000000 in
/-- ████ Do, BY GOROUTINE 0. ████ -/
theorem doL {j : Nat} {w : World} (hF : AtRel W w) (e0 : E ⟨.cell ⟨W.heap.size, 0, none⟩, false, false⟩) (e1 : E ⟨.cell ⟨W.heap.size, 1, none⟩, false, false⟩)
    (hgo : ∀ w₁, AtRel (W.alloc (.cells #[.int .i64 A, .int .i64 B] 23)) w₁ → Goes Try.prog true AtRel (DE E) Stop m (G (b₀.at (a₀.put ((ops₀[i₀]?).bind (·.dst)) (.int .i64 (doV A B j))) (.inRegion ops₀ rest₀ :: k₀)) cs) w₁) :
    Goes Try.prog true AtRel (DE E) Stop (10 + ((20 + ((20 + ((30 + m) + 1)) + 1)) + 1)) (G ((base 11).at ⟨#[.agg #[.int .i64 A, .int .i64 B], .int .i64 (j : Int), undef, undef, undef, undef, undef, undef, undef, undef, undef, undef, undef, undef, undef, undef], []⟩ [.code body11]) (b₀.at a₀ (.inRegion ops₀ (i₀ :: rest₀) :: k₀) :: cs)) w := by
  refine goL0 (n := 10) (m := (20 + ((20 + ((30 + m) + 1)) + 1)) + 1) ?_
  simp only [body11, Try.f11, Option.getD_some]
  repeat w_go ar_rely
  refine Goes.stop (fun _ r₁ => ?_)
  replace hF := ar_rely hF r₁
  clear r₁
  refine goL_new (n := 20 + ((20 + ((30 + m) + 1)) + 1)) (v := fun s => .pointer (some ⟨s, 0, none⟩)) hF rfl rfl (by k_ne) (run_box23 rfl rfl) fun _ hF => ?_
  have c0 : (W.alloc (.cells #[.int .i64 A, .int .i64 B] 23)).cell? ⟨W.heap.size, 0, none⟩ = some (.int .i64 A) := by simp only [World.cell?, alloc_at_new]; rfl
  have c1 : (W.alloc (.cells #[.int .i64 A, .int .i64 B] 23)).cell? ⟨W.heap.size, 1, none⟩ = some (.int .i64 B) := by simp only [World.cell?, alloc_at_new]; rfl
  refine goL0 (n := 20) (m := (20 + ((30 + m) + 1)) + 1) ?_
  walk_nrm
  repeat w_go ar_rely
  refine Goes.stop (fun _ r₁ => ?_)
  replace hF := ar_rely hF r₁
  clear r₁
  refine goL_ld (n := 20 + ((30 + m) + 1)) (ad := ⟨W.heap.size, 0, none⟩) (v := .int .i64 A) hF rfl rfl (by k_ne) rfl (by simp) rfl loud11' c0 e0 fun _ hF => ?_
  refine goL0 (n := 20) (m := (30 + m) + 1) ?_
  walk_nrm
  repeat w_go ar_rely
  refine Goes.stop (fun _ r₁ => ?_)
  replace hF := ar_rely hF r₁
  clear r₁
  refine goL_ld (n := 30 + m) (ad := ⟨W.heap.size, 1, none⟩) (v := .int .i64 B) hF rfl rfl (by k_ne) rfl (by simp) rfl loud11' c1 e1 fun _ hF => ?_
  refine goL0 (n := 30) (m := m) ?_
  walk_nrm
  repeat w_go ar_rely
  u_leave1 Try.func11 ar_rely hF
  refine Goes.stop (fun _ r₁ => ?_)
  replace hF := ar_rely hF r₁
  clear r₁
  exact hgo _ hF
end
end Go.Proofs.Ytapjmifhhbpikaa

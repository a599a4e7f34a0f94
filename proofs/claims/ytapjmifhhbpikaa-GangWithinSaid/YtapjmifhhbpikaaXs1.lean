/- Gangs within gangs: The gang: the starter's wg.Add(1): gk, ga, ge. -/
import Derived.Test.YtapjmifhhbpikaaXw4
set_option linter.unusedVariables false
set_option linter.unusedSimpArgs false
namespace Go.Proofs.Ytapjmifhhbpikaa
open Go.Conc Go.ConcN Go.ConcM Go.RowKit Go.Conc.Lib Go.ConcR.Gen
open Go.ConcR (KK wgBlock WgAt stA smA rd wr mk)
theorem u70 : Try.prog.underlying 70 = some (.pointer 46) := Try.underlying70
theorem wg_add (n : Nat) (hn : n ≤ 1000) : IntKind.u64.wrap ((n : Int) * KK + (false.toNat : Int) + 4294967296) = ((n + 1 : Nat) : Int) * KK + (false.toNat : Int) := by
  rw [IntKind.wrap_u64, kk_val]
  simp only [Bool.toNat_false]
  omega
noncomputable def body22 : Code := Try.f22.body.getD .skip
theorem db_said {K : Band} {w : World} (x : Addr → Mark) (hx : ∀ a, (MemAct.ofEvent ⟨.mark (x a), false, true⟩) = .mark (x a)) {a : Addr} (h : x = .read ∨ x = .write) (ha : a.block = K.Wg) (hB : K.B0 ≤ w.heap.size) : DB K true [] false false w w #[⟨.mark (x a), false, true⟩] := by
  refine ⟨rfl, rfl, rfl, rfl, fun _ _ _ => rfl, fun _ h => h, fun e he => ?_, fun h => by cases h⟩
  simp at he; subst he
  have hb := K.bW
  rcases h with rfl | rfl
  · refine ⟨by simp, by simp, by simp, ?_, fun y hy => ?_⟩
    · rw [hx]; show a.block < w.heap.size; omega
    · rw [hx] at hy
      simp only [MemAct.touch?, Option.some.injEq] at hy
      subst hy
      exact ⟨rfl, .inl ⟨K.sW a ha, by simp, fun h => by cases h⟩⟩
  · refine ⟨by simp, by simp, by simp, ?_, fun y hy => ?_⟩
    · rw [hx]; show a.block < w.heap.size; omega
    · rw [hx] at hy
      simp only [MemAct.touch?, Option.some.injEq] at hy
      subst hy
      exact ⟨rfl, .inl ⟨K.sW a ha, by simp, fun h => by cases h⟩⟩
section
variable {K : Band} {W : World} {b₀ : Frame} {a₀ : Act} {ops₀ : Array Oper} {i₀ : Nat} {rest₀ : List Nat} {k₀ : List Item} {cs : List Frame} {Fin : Goroutine → World → Prop}
set_option maxRecDepth 100000 in
set_option maxHeartbeats 32000000 in
/-- ████ wg.Add(1), BY THE STARTER. ████ -/
theorem addGo (n sent : Nat) (hT : ∀ k', ∃ m, ∀ w, Kn K W w → GoS Try.prog K (AtS Try.prog K Fin k' ⟨.go, n, sent⟩) m (G (b₀.at (a₀.put ((ops₀[i₀]?).bind (·.dst)) (.tuple #[])) (.inRegion ops₀ rest₀ :: k₀)) cs) w) (k : Nat) (w : World) (hF : Kn K W w) :
    GoS Try.prog K (AtS Try.prog K Fin k ⟨.gk, n, sent⟩) 40 (G ((base 22).at ⟨#[.pointer (some ⟨K.Wg, 0, none⟩), .int .i64 1, undef, undef, undef, undef, undef, undef, undef, undef, undef, undef, undef, undef, undef, undef, undef, undef, undef, undef, undef, undef, undef, undef, undef, undef, undef, undef, undef, undef, undef, undef, undef, undef, undef, undef, undef, undef, undef, undef, undef, undef, undef, undef, undef, undef, undef, undef, undef, undef, undef, undef, undef, undef, undef, undef, undef, undef, undef, undef, undef, undef, undef, undef, undef, undef, undef, undef, undef, undef, undef, undef, undef, undef, undef, undef, undef, undef, undef, undef, undef, undef, undef, undef, undef, undef, undef, undef, undef, undef, undef, undef, undef, undef, undef, undef, undef, undef, undef, undef, undef, undef, undef, undef, undef, undef, undef, undef, undef, undef, undef, undef, undef, undef, undef, undef, undef], []⟩ [.code body22]) (b₀.at a₀ (.inRegion ops₀ (i₀ :: rest₀) :: k₀) :: cs)) w := by
  refine goS0 (n := 40) (m := 0) ?_
  simp only [body22, Try.f22, Option.getD_some]
  repeat w_go Kn.rely
  -- STOP gk
  refine Goes.stop (fun _ r₁ => ?_)
  replace hF := Kn.rely hF r₁
  clear r₁
  refine Goes.stop (fun _ r₁ => ?_)
  replace hF := Kn.rely hF r₁
  clear r₁
  rcases k with _ | k
  · trivial
  refine ⟨rfl, rfl, by simp, by simp, by simp, by simp, fun _ _ _ _ s hs hfit _ => ⟨.ga, s, .gk rfl, _, _, _, stepG_mark0 .disable (by simp) rfl rfl (by k_ne) rfl Try.func29 x29_n x29_b x29_x x29_f, hs, EffB.of (Eff.refl _), evs_book (by simp) rfl rfl (book_dis 0), ?_⟩⟩
  refine afterS_go (by simp) (60 + 0) ?_
  refine goS0 (n := 60) (m := 0) ?_
  walk_nrm
  repeat w_go Kn.rely
  u_defer Kn.rely hF
  repeat w_go Kn.rely
  u_in Kn.rely hF
  rw [stepG_entry_pure (.bool false) rfl rfl (by k_ne) rfl Try.func31 x31_n x31_b x31_x x31_f]
  simp only [goes_go]
  refine ⟨by u_nil, ?_⟩
  walk_nrm
  repeat w_go Kn.rely
  u_call Try.func35 nm35 Try.f35 Kn.rely hF
  repeat w_go Kn.rely
  m_num
  -- STOP ga
  refine Goes.stop (fun _ r₁ => ?_)
  replace hF := Kn.rely hF r₁
  clear r₁
  refine Goes.stop (fun _ r₁ => ?_)
  replace hF := Kn.rely hF r₁
  clear r₁
  rcases k with _ | k
  · trivial
  refine ⟨rfl, rfl, by simp, by simp, by simp, by simp, fun _ _ _ _ s hs hfit _ => ?_⟩
  obtain ⟨mu, ms, v, wt, ws⟩ := s
  obtain ⟨hwt, hws⟩ := hfit.op rfl
  have hv : v < 1000 := hfit.v
  simp only at hwt hws
  subst hwt; subst hws
  have e1 := wg_add v (by omega)
  refine ⟨.ge, _, .ga rfl, _, _, _, stepG_add_atomic rfl rfl (by k_ne) rfl Try.func51 x51_n x51_b x51_x .u64 x51_f rfl rfl hs.2.cellSt (hs.2.thaw 0), (by rw [e1]; exact hs.setWg (v + 1) false), EffB.of (Eff.set _ _ (.inr rfl)), evs_book (by simp) rfl rfl (book_rw 0 (stA K.Wg) (.inr rfl)), ?_⟩
  simp only [e1]
  replace hF := hF.eff (EffB.of (Eff.set (stA K.Wg) (.int .u64 (((v + 1 : Nat) : Int) * KK + (false.toNat : Int))) (.inr rfl))) (hs.setWg (v + 1) false)
  have f1 := wg_and_hi (v + 1) 0 (by omega) (by omega)
  have f2 := wg_and_lo (v + 1) 0 (by omega) (by omega)
  have f3 := wg_shr (v + 1) 0 (by omega)
  have f4 := i32_small (v + 1) (by omega)
  simp only [Bool.toNat_false] at hF ⊢
  generalize (((v + 1 : Nat) : Int) * KK + ((0 : Nat) : Int)) = X at f1 f2 f3 hF ⊢
  have g1 : ¬ (((v + 1 : Nat) : Int) < 0) := by omega
  have g2 : (0 : Int) < ((v + 1 : Nat) : Int) := by omega
  simp only [Int.natCast_zero] at f2
  clear e1 hs hfit
  generalize hY : ((v + 1 : Nat) : Int) = Y at f3 f4 g1 g2
  by_cases hv0 : v = 0
  · obtain rfl : Y = 1 := by omega
    clear hY
    refine afterS_go (by simp) (120 + (120 + 0 + 1)) ?_
    refine goS0 (n := 120) (m := 121) ?_
    walk_nrm
    repeat w_go Kn.rely
    u_leave1 Try.func35 Kn.rely hF
    repeat w_go Kn.rely
    m_convG Try.prog u64_ u70 z46 hF.ws.choose_spec Kn.rely hF
    repeat w_go Kn.rely
    refine Goes.stop (fun _ r₁ => ?_)
    replace hF := Kn.rely hF r₁
    clear r₁
    refine Goes.step (n := 120) rfl (fun _ r₁ => ?_)
    replace hF := Kn.rely hF r₁
    clear r₁
    rw [stepG_markAt .read (by simp) rfl rfl (by k_ne) rfl Try.func36 x36_n x36_b x36_x x36_f (ad := ⟨K.Wg, 1, none⟩) (by simp [Act.eval])]
    simp only [goes_go]
    refine ⟨db_said .read (fun _ => rfl) (.inl rfl) rfl hF.B, ?_⟩
    refine goS0 (n := 120) (m := 0) ?_
    walk_nrm
    repeat w_go Kn.rely
    -- STOP ge
    refine Goes.stop (fun _ r₁ => ?_)
    replace hF := Kn.rely hF r₁
    clear r₁
    refine Goes.stop (fun _ r₁ => ?_)
    replace hF := Kn.rely hF r₁
    clear r₁
    rcases k with _ | k
    · trivial
    obtain ⟨mT, hT'⟩ := hT k
    refine ⟨rfl, rfl, by simp, by simp, by simp, by simp, fun _ _ _ _ s hs hfit _ => ⟨.go, s, .ge rfl, _, _, _, stepG_unwind_entry (f := 30) (args := #[]) (ds := []) (v := .tuple #[]) (evs := #[mk .enable]) rfl Try.func30 x30_n x30_b x30_x x30_f (by simp [Extern.Race.none_]) (by simp [mk]) (by intro x hx; simp [mk] at hx; subst hx; exact ⟨rfl, fun g h => by cases h⟩), hs, EffB.of (Eff.refl _), evs_book (by simp) rfl rfl (book_en 0), ?_⟩⟩
    refine afterS_go (by simp) (10 + mT) ?_
    refine goS0 (n := 10) (m := mT) ?_
    u_leave0 Try.func22 Kn.rely hF
    refine Goes.stop (fun _ r₁ => ?_)
    replace hF := Kn.rely hF r₁
    clear r₁
    exact hT' _ hF
  · have g3 : Y ≠ 1 := by omega
    have g4 : (Y == 1) = false := by simpa using g3
    clear hY
    refine afterS_go (by simp) (200 + 0) ?_
    refine goS0 (n := 200) (m := 0) ?_
    walk_nrm
    repeat w_go Kn.rely
    u_leave1 Try.func35 Kn.rely hF
    repeat w_go Kn.rely
    -- STOP ge
    refine Goes.stop (fun _ r₁ => ?_)
    replace hF := Kn.rely hF r₁
    clear r₁
    refine Goes.stop (fun _ r₁ => ?_)
    replace hF := Kn.rely hF r₁
    clear r₁
    rcases k with _ | k
    · trivial
    obtain ⟨mT, hT'⟩ := hT k
    refine ⟨rfl, rfl, by simp, by simp, by simp, by simp, fun _ _ _ _ s hs hfit _ => ⟨.go, s, .ge rfl, _, _, _, stepG_unwind_entry (f := 30) (args := #[]) (ds := []) (v := .tuple #[]) (evs := #[mk .enable]) rfl Try.func30 x30_n x30_b x30_x x30_f (by simp [Extern.Race.none_]) (by simp [mk]) (by intro x hx; simp [mk] at hx; subst hx; exact ⟨rfl, fun g h => by cases h⟩), hs, EffB.of (Eff.refl _), evs_book (by simp) rfl rfl (book_en 0), ?_⟩⟩
    refine afterS_go (by simp) (10 + mT) ?_
    refine goS0 (n := 10) (m := mT) ?_
    u_leave0 Try.func22 Kn.rely hF
    refine Goes.stop (fun _ r₁ => ?_)
    replace hF := Kn.rely hF r₁
    clear r₁
    exact hT' _ hF
end
end Go.Proofs.Ytapjmifhhbpikaa

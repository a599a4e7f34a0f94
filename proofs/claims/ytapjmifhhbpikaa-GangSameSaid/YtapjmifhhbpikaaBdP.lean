/- The gang in the machine: the starter's moves, the join. -/
import Derived.Test.YtapjmifhhbpikaaBdO
set_option linter.unusedVariables false
set_option linter.unusedSimpArgs false
namespace Go.Proofs.Ytapjmifhhbpikaa
open Go.Conc Go.ConcN Go.ConcM
open Go.ConcR (KK wgBlock WgAt stA smA rd wr g_of_ofEvents ofEvent_loc_mark ofEvent_cell ofEvent_mk loc_of_ofEvent again_blocked)
/-- THE GANG HAS ENDED: all others only leave. -/
structure Ended (P : Program) (K : Band) (Fin : Goroutine → World → Prop) (m : Machine) (t : Trace) : Prop where
  it : ∃ (gs : Array Goroutine) (a : Goroutine) (w : World) (sl : Option (Nat × Nat)) (q : Nat → Nat), m = crowd gs w sl ∧ gs.size = K.base + 1 + K.N ∧ gs[0]? = some a ∧ Fin a w ∧ CAt K (full K) w ∧ Leavers P t gs q ∧ Past K.Shun w.heap.size t ∧ Quiet K.Shun t ∧
    (∀ q x, touchAt t q = some x → x.loc.isMemory = true ∨ t.g? q = some 0) ∧ (∀ a, NoRelease a t) ∧ ∀ op ∈ t, op.g ≤ K.base + K.N
section
variable {P : Program} {K : Band} {Fin : Goroutine → World → Prop} {G G' : GS} {gs : Array Goroutine} {gf : Nat → Goroutine} {w w' w₁ : World} {sl : Option (Nat × Nat)} {vs : Nat → Array Value} {ks φ : Nat → Nat} {o : Option Nat} {ob : Nat → Option Nat} {t : Trace} {g' : Goroutine} {es : Array Event}
theorem ms_ws {p p' : Ps} {s s' : Sh} (h : Ms p s p' s') : s'.ms = s.ms ∧ (p' = .ret → p = .aq) ∧ p ≠ .ret ∧ (p' = .sn → False) ∧ p'.shut = p.shut := by
  cases h <;> simp_all [Ps.shut]
/-- At the join all have left. -/
theorem all_quit {N J : Nat} {G : GS} (h : Ok N J G) (hp : G.p.fin = true) : ∀ i, i < G.n → (G.D i).pc = .quit := by
  intro i hi
  have hw := h.wg.2.2 hp
  have lC := le_sumTo (f := fun x => isC (G.D x)) hi
  have lL := le_sumTo (f := fun x => isL (G.D x)) hi
  have e1 : isC (G.D i) = 0 := by omega
  have e2 : isL (G.D i) = 0 := by omega
  cases hpc : (G.D i).pc <;> simp [isC, isL, hpc] at e1 e2 ⊢
theorem all_done {N J : Nat} {G : GS} (h : Ok N J G) (hp : G.p.fin = true) : ∀ j, j < J → G.dn j = true := by
  intro j hj
  have hsh : G.p.shut = true := by cases hq : G.p <;> simp [hq, Ps.fin, Ps.shut] at hp ⊢
  have hs := h.snt.2.2.1 (.inr hsh)
  rcases h.dn j (by omega) with hd | ⟨i, hi, hh, _⟩
  · exact hd
  · rw [all_quit h hp i hi] at hh; cases hh
/-- What follows the starter's own move, for the others. -/
theorem startOthers (c : Cx P K Fin G gf w vs ks φ o ob t) {p' : Ps} {s' : Sh} (hm : Ms G.p G.s p' s') (hsh' : SAt K s' w') (heff : EffB K false w w') : 
    HAt K G.closed w' ∧ w'.heap.size = w.heap.size ∧ w'.heap[K.C]? = w.heap[K.C]? ∧ ∃ φ' : Nat → Nat, (∀ k, k < G.n → SitW P K (G.start p' s') (G.D k) (vs k) (ks (idW K k)) (φ' (idW K k)) (Deaf t (idW K k)) (woken P (gf 0) g' w' (gf (idW K k))) w' ∧ ((woken P (gf 0) g' w' (gf (idW K k))).status = .blocked → (gf (idW K k)).status = .blocked)) ∧
      (∀ j, 1 ≤ j → j ≤ K.base → φ' j = φ j ∧ woken P (gf 0) g' w' (gf j) = gf j) := by
  have hB := c.mt.B
  have hch : HAt K G.closed w' := by
    obtain ⟨s, r, h⟩ := c.ch
    exact ⟨s, r, (heff.block _ (by have := K.bH; omega) K.hMH.symm K.hWH.symm).trans h⟩
  have hw := ms_ws hm
  obtain ⟨φ', h1, h2, h3, h4, h5⟩ := c.others (G' := G.start p' s') (x := gf 0) (x' := g') (w₁ := w') 0 rfl hch (fun k hk hne => RB.of_eff heff hsh' hB (c.blk hk)) (fun h => absurd rfl h) (fun h => absurd rfl h)
    (fun h => .inl (by show s'.ms = 0; rw [hw.1]; exact h)) (.inl rfl) (fun h => absurd rfl h) (fun h => absurd rfl h)
  exact ⟨hch, by have := heff.size; simpa using this, heff.block _ (by have := K.bC; omega) K.hMC.symm K.hWC.symm, φ', fun k hk => h4 k hk (by have := idW_pos K k; omega), h5⟩
/-- (7) ████ THE STARTER's MOVE. ████ -/
theorem stepMoveS (A : Arr K G gs gf) (c : Cx P K Fin G gf w vs ks φ o ob t) (hS : StpS P K Fin (AtS P K Fin (ks 0)) (AtW P K (ks 0)) G.st (gf 0) w) (h1 : G.p ≠ .go) (h2 : G.p ≠ .sn) (h3 : G.p ≠ .cl) (hws : G.p = .w3 → G.s.ws ≠ 0) :
    Goes1 P K Fin G φ gs w sl t 0 ∨ ∃ m₁ ops, runT P (crowd gs w sl) 0 = (.next m₁, ops) ∧ Ended P K Fin m₁ (t ++ ops) := by
  have hy : 0 < K.base + 1 + G.n := by omega
  obtain ⟨p', s', hm, g', w', es, hs, hsh', heff, hev, haft⟩ := hS.go h1 h2 h3 c.nr G.s c.sh (fitS_of c.ok K.hNb) hws
  obtain ⟨hok', hrk⟩ := ok_start c.ok hm
  have hw := ms_ws hm
  obtain ⟨hch, hsz, hC, φ', h4, h5⟩ := startOthers (g' := g') c hm hsh' heff
  have hrun := run_own (sl := sl) A hy hs
  have hArr := A.step (P := P) (G' := G.start p' s') rfl hy (gf 0) g' w'
  by_cases hr : p' = .ret
  · right
    have haq : G.p = .aq := hw.2.1 hr
    have hes : es = #[Go.ConcR.mk (.acquire (stA K.Wg))] := by
      have e : (G.st).p = .aq := haq
      rw [e] at hev; exact hev
    subst hes
    have hfin : G.p.fin = true := by rw [haq]; rfl
    have hq := all_quit c.ok hfin
    have hn : G.n = K.N := c.ok.all (.inr (.inr (by rw [haq]; rfl)))
    have ho : o = none := by
      cases e : o with
      | none => rfl
      | some y =>
        obtain ⟨k, hk, hk1, _⟩ := c.ow' y e
        have hu := (owns_iff _).1 hk1
        rw [hq k hk] at hu; cases hu
    have hd0 : Deaf t 0 = 0 := by rw [c.d0, haq]; rfl
    obtain ⟨j1, j2, j3, j4, j5⟩ := c.mt.join (fun i hi => by simp [Th.mute, hq i hi]) hd0 (gf 0).frame.fn (gf 0).frame.place
    have hrow : CAt K (full K) w' := by
      rw [show full K = K.row G.dn from (K.hfull _ (all_done c.ok hfin)).symm]
      exact hC.trans (c.row ho)
    have hF : Fin g' w' := by
      unfold AfterS at haft
      rw [if_pos hr] at haft
      exact haft hrow
    refine ⟨_, _, hrun, ⟨_, g', w', sl, fun y => φ' y / (K.N + 3), rfl, by rw [hArr.size]; show K.base + 1 + G.n = _; rw [hn], ?_, hF, hrow, ⟨fun y x hy0 hx => ?_, fun y hyb => ?_⟩, by rw [hsz]; exact j1, j2, j3, j4, fun op hop => by have := j5 op hop; rw [hn] at this; exact this⟩⟩
    · have := hArr.at_ 0 hy
      simpa using this
    · have hlt : y < K.base + 1 + G.n := by
        have := (Array.getElem?_eq_some_iff.1 hx).1
        rw [hArr.size] at this; exact this
      have hx' := hArr.at_ y hlt
      rw [hx] at hx'
      have hyne : y ≠ 0 := by omega
      simp only [if_neg hyne, Option.some.injEq] at hx'
      subst hx'
      rw [deaf_others hyne]
      by_cases hyb : y ≤ K.base
      · obtain ⟨q, e1, e2⟩ := c.lv y hy0 hyb
        obtain ⟨e3, e4⟩ := h5 y hy0 hyb
        rw [e3, e1, Nat.mul_div_cancel_left _ (by omega)]
        rw [e4]; exact e2
      · obtain ⟨k, hk, rfl⟩ : ∃ k, k < G.n ∧ y = idW K k := ⟨y - (K.base + 1), by omega, by unfold idW; omega⟩
        rcases (h4 k hk).1 with ⟨a, _⟩ | ⟨a, _⟩ | ⟨a, _⟩ | ⟨a, _⟩ | ⟨_, q, e1, e2⟩
        · exact absurd (hq k hk) a
        · rw [hq k hk] at a; cases a
        · rw [hq k hk] at a; cases a
        · rw [hq k hk] at a; cases a
        · rw [e1, Nat.mul_div_cancel_left _ (by omega)]; exact e2
    · have hyb' : K.base + 1 + G.n ≤ y := by rw [hArr.size] at hyb; exact hyb
      rw [deaf_others (by omega)]
      exact deaf_new c.mt (by omega)
  · left
    have hbook : Book K G.p.deaf p'.deaf es := by
      have hne : G.p ≠ .aq := fun e => by
        have hm' : Ms G.p G.s p' s' := hm
        rw [e] at hm'
        cases hm' <;> simp_all
      have hev' : EvS K G.p p' es := hev
      unfold EvS at hev'
      split at hev'
      · contradiction
      · exact hev'
    obtain ⟨k', hk'⟩ : ∃ k', ks 0 = k' + 1 := ⟨ks 0 - 1, by have := c.hk 0; omega⟩
    rw [hk'] at haft
    obtain ⟨m1, m2⟩ := c.mt.book (mu' := fun k => (G.D k).mute) (.inl rfl) c.d0 (fn := (gf 0).frame.fn) (pos := (gf 0).frame.place) hbook (fun _ _ h => h)
    have hAft : ∃ m, GoS P K (AtS P K Fin (k' + 1) { G.st with p := p' }) m g' w' := by
      unfold AfterS at haft
      rw [if_neg hr] at haft
      exact haft
    obtain ⟨m, hgo⟩ := hAft
    have hσ : ({ G.st with p := p' } : St) = (G.start p' s').st := rfl
    rw [hσ] at hgo
    refine ⟨_, _, _, hrun, .left _ _ hrk, _, w', sl, G.start p' s', _, vs, upd ks 0 k', upd φ' 0 ((K.N + 3) * m + 1), o, ob, rfl, hArr, ?_, rfl⟩
    refine ⟨hok', hr, fun y => ?_, hsh', hch, fun ho => hC.trans (c.row ho), ?_, c.ur, ?_, m2, fun k hk => ?_, fun j j1 j2 => ?_, fun k hk hp hb => ?_, c.bk, c.ow, c.ow', by rw [hsz]; exact m1⟩
    · by_cases e : y = 0
      · subst e; rw [upd_same]; have := c.hk 0; omega
      · rw [upd_ne _ _ e]; have := c.hk y; omega
    · obtain ⟨cs, hc, hs⟩ := c.rowJ
      exact ⟨cs, hC.trans hc, hs⟩
    · simp only [if_true, upd_same]
      exact .inl ⟨m, rfl, hgo⟩
    · have hne : idW K k ≠ 0 := by have := idW_pos K k; omega
      simp only [if_neg hne, upd_ne _ _ hne]
      rw [deaf_others hne]
      exact (h4 k hk).1
    · have hne : j ≠ 0 := by omega
      obtain ⟨q, hq1, hq2⟩ := c.lv j j1 j2
      simp only [if_neg hne, upd_ne _ _ hne]
      rw [deaf_others hne, (h5 j j1 j2).1, (h5 j j1 j2).2]
      exact ⟨q, hq1, hq2⟩
    · exact (hw.2.2.2.1 hp).elim
end
end Go.Proofs.Ytapjmifhhbpikaa

/- Gangs within gangs: the starter's moves, a gang's end. -/
import Derived.Test.YtapjmifhhbpikaaVo
set_option linter.unusedVariables false
set_option linter.unusedSimpArgs false
namespace Go.Proofs.Ytapjmifhhbpikaa
open Go.Conc Go.ConcN Go.ConcM
open Go.ConcR (KK wgBlock WgAt stA smA rd wr g_of_ofEvents ofEvent_loc_mark ofEvent_cell ofEvent_mk loc_of_ofEvent again_blocked)
/-- ████ THE GANG HAS ENDED: its workers only leave; its starter knows all that they did. ████ -/
def Over (P : Program) (K : Band) (c : Nat) (id : Nat → Nat) (Fin : Goroutine → World → Prop) (S : TG) (G : GS) (gf : Nat → Goroutine) (w : World) (M : Nat → Nat) (t : Trace) (ng : Nat) (gs : Array Goroutine) (sl : Option (Nat × Nat)) : Prop :=
  ∃ gs' w' ops gf' M', runT P (crowd gs w sl) c = (.next (crowd gs' w' sl), ops) ∧ Arr ng gs' gf' ∧ TR S (t ++ ops) ng ∧ Frm P c c S S gf gf' w w' M M' t (t ++ ops) ng ng ∧ RB K false [] w w' ∧ Fin (gf' c) w' ∧ CAt K (full K) w' ∧ S.sz = w'.heap.size ∧ Deaf (t ++ ops) c = 0 ∧
    ∀ i, i < G.n → ¬ S.act (id i) ∧ QuitsD P (M' (id i)) (Deaf (t ++ ops) (id i)) (gf' (id i)) ∧ S.mute (id i) ∧ Knows (t ++ ops) c (S.rl (id i))
section
variable {P : Program} {K : Band} {c : Nat} {id : Nat → Nat} {Fin : Goroutine → World → Prop} {S S' : TG} {G G' : GS} {gs : Array Goroutine} {gf gf' : Nat → Goroutine} {w w' w₁ : World} {sl : Option (Nat × Nat)} {vs : Nat → Array Value} {ks M M' : Nat → Nat} {kb : Nat} {t t' u : Trace} {ng ng' : Nat} {g' : Goroutine} {es : Array Event}
theorem ms_ws {p p' : Ps} {s s' : Sh} (h : Ms p s p' s') : s'.ms = s.ms ∧ (p' = .ret → p = .aq) ∧ p ≠ .ret ∧ (p' = .sn → False) ∧ p'.shut = p.shut := by
  cases h <;> simp_all [Ps.shut]
/-- At the join all have left. -/
theorem all_quit {N J : Nat} {G : GS} (h : Ok N J G) (hp : G.p.fin = true) : ∀ i, i < G.n → (G.D i).pc = .quit := by
  intro i hi
  have hw := h.wg.2.2 hp
  have lC := le_sumTo (f := fun x => isC (G.D x)) hi
  have lL := le_sumTo (f := fun x => isL (G.D x)) hi
  have e1 : isC (G.D i) = 0 := by omega
  have e2 : isL (G.D i) = 0 := by omega
  cases hpc : (G.D i).pc <;> simp [isC, isL, hpc] at e1 e2 ⊢
theorem all_done {N J : Nat} {G : GS} (h : Ok N J G) (hp : G.p.fin = true) : ∀ j, j < J → G.dn j = true := by
  intro j hj
  have hsh : G.p.shut = true := by cases hq : G.p <;> simp [hq, Ps.fin, Ps.shut] at hp ⊢
  have hs := h.snt.2.2.1 (.inr hsh)
  rcases h.dn j (by omega) with hd | ⟨i, hi, hh, _⟩
  · exact hd
  · rw [all_quit h hp i hi] at hh; cases hh
/-- (7) ████ THE STARTER's MOVE. ████ -/
theorem stepMoveS (A : Arr ng gs gf) (R : TR S t ng) (h : Cx P K c id Fin S G gf w vs ks kb M t ng) (hS : StpS P K Fin (AtS P K Fin kb) (AtW P K kb) G.st (gf c) w) (h1 : G.p ≠ .go) (h2 : G.p ≠ .sn) (h3 : G.p ≠ .cl) (hws : G.p = .w3 → G.s.ws ≠ 0) :
    Ran P K c id Fin S G gf w vs ks M t ng c gs sl ∨ Over P K c id Fin S G gf w M t ng gs sl := by
  have hy := h.idc.1
  have hK := h.bl
  have hB := h.B
  obtain ⟨p', s', hm, g', w', es, hs, hsh', heff, hev, haft⟩ := hS.go h1 h2 h3 h.nr G.s h.sh (fitS_of h.ok K.hNb) hws
  obtain ⟨hok', hrk⟩ := ok_start h.ok hm
  have hw := ms_ws hm
  have hch : HAt K G.closed w' := by
    obtain ⟨s, r, e⟩ := h.ch
    exact ⟨s, r, (heff.block _ (by have := K.bH; omega) K.hMH.symm K.hWH.symm).trans e⟩
  have hC : w'.heap[K.C]? = w.heap[K.C]? := heff.block _ (by have := K.bC; omega) K.hMC.symm K.hWC.symm
  have hsz : w'.heap.size = w.heap.size := by have := heff.size; simpa using this
  obtain ⟨_, h4⟩ := h.others (G' := G.start p' s') (x := gf c) (x' := g') (w₁ := w') c rfl hch (fun k hk ha hne => RB.of_eff heff hsh' hB fun b hb => have h1 := h.mine hk ha b hb; ⟨(hK.ne h1.1).1, (hK.ne h1.1).2.1, h1.2⟩) (fun h => absurd rfl h) (fun h => absurd rfl h)
    (fun h => .inl (by show s'.ms = 0; rw [hw.1]; exact h)) (.inl rfl) (fun h => absurd rfl h) (fun h => absurd rfl h)
  have hrun := run_own (sl := sl) A hy h.mn.symm hs
  have hArr := A.step (P := P) hy (gf c) g' w'
  have hmc : S.mem c c := .inl rfl
  have hmf : S.free c c := .inl rfl
  have hnc : ∀ {k}, k < G.n → id k ≠ c := fun hk => (h.idc.2 _ hk).2.1
  have frm : ∀ (m : Nat) (t' : Trace), (∀ z, z ≠ c → Deaf t' z = Deaf t z) → Frm P c c S S gf (fun z => if z = c then g' else woken P (gf c) g' w' (gf z)) w w' M (upd M c m) t t' ng ng := fun m t' hd =>
    ⟨heff.far hK, fun _ _ => rfl, fun _ => .rfl, fun _ _ _ => .rfl, fun z => by simp, fun _ _ => .rfl, fun _ _ => rfl, ⟨rfl, rfl⟩, fun z _ hz => upd_ne _ _ (TG.ne_free hz hmf), fun z _ hz => .inr ⟨_, _, if_neg (TG.ne_free hz hmf)⟩, fun z _ hz => hd z (TG.ne_free hz hmf), ⟨Nat.le_refl _, Nat.le_succ _⟩⟩
  by_cases hr : p' = .ret
  · right
    have haq : G.p = .aq := hw.2.1 hr
    have hes : es = #[Go.ConcR.mk (.acquire (stA K.Wg))] := by
      have e : (G.st).p = .aq := haq
      rw [e] at hev; exact hev
    subst hes
    have hfin : G.p.fin = true := by rw [haq]; rfl
    have hq := all_quit h.ok hfin
    have ho : S.tok c = none := by
      cases e : S.tok c with
      | none => rfl
      | some y =>
        obtain ⟨k, hk, hk1, _⟩ := h.ow' y e
        have hu := (owns_iff _).1 hk1
        rw [hq k hk] at hu; cases hu
    have hd0 : Deaf t c = 0 := by rw [h.d0, haq]; rfl
    have hrow : CAt K (full K) w' := by
      rw [show full K = K.row G.dn from (K.hfull _ (all_done h.ok hfin)).symm]
      exact hC.trans (h.row ho)
    have hF : Fin g' w' := by
      unfold AfterS at haft
      rw [if_pos hr] at haft
      exact haft hrow
    have eO : MemOp.ofEvents c (gf c).frame.fn (gf c).frame.place #[Go.ConcR.mk (.acquire (stA K.Wg))] = #[{ g := c, fn := (gf c).frame.fn, pos := (gf c).frame.place, act := .mark (.acquire (stA K.Wg)) }] := ofEvents_mk _ _ _ _
    refine ⟨_, w', _, _, upd M c 0, hrun, hArr, ?_, frm 0 _ fun z hz => deaf_others hz _ _ _, RB.of_eff heff hsh' hB (fun b hb => by cases hb), ?_, hrow, by rw [hsz]; exact h.sz, ?_, fun k hk => ?_⟩
    · rw [eO]
      exact R.stills1 (z := { g := c, fn := (gf c).frame.fn, pos := (gf c).frame.place, act := .mark (.acquire (stA K.Wg)) }) hy (by show K.Wg < S.sz; have := K.bW; have := h.sz; omega) (by simp) rfl
    · simpa using hF
    · rw [eO, deaf_word _ (by simp) (by simp)]; exact hd0
    · have hna : ¬ S.act (id k) := fun ha => by have := h.busy k hk ha; rw [hq k hk] at this; rcases this with e | e <;> cases e
      have hmu : S.mute (id k) := (h.mu k hk).2 (by simp [Th.mute, hq k hk])
      obtain ⟨r1, r2, r3⟩ := R.rel c (id k) (h.memI hk) hmu
      refine ⟨hna, ?_, hmu, ?_⟩
      · have hne := hnc hk
        simp only [if_neg hne, upd_ne _ _ hne]
        rw [deaf_others hne]
        rcases (h4 k hk hne).1.resolve_left hna with ⟨a, _⟩ | ⟨a, _⟩ | ⟨a, _⟩ | ⟨a, _⟩ | ⟨_, e2⟩
        · exact absurd (hq k hk) a
        · rw [hq k hk] at a; cases a
        · rw [hq k hk] at a; cases a
        · rw [hq k hk] at a; cases a
        · exact e2
      · rw [eO]
        exact know_acq (z := { g := c, fn := (gf c).frame.fn, pos := (gf c).frame.place, act := .mark (.acquire (stA K.Wg)) }) hd0 (by rw [h.adr.2]) (R.nrA _) r1 r3
  · left
    have hbook : Book K G.p.deaf p'.deaf es := by
      have hne : G.p ≠ .aq := fun e => by
        have hm' : Ms G.p G.s p' s' := hm
        rw [e] at hm'
        cases hm' <;> simp_all
      have hev' : EvS K G.p p' es := hev
      unfold EvS at hev'
      split at hev'
      · contradiction
      · exact hev'
    obtain ⟨k', hk'⟩ : ∃ k', kb = k' + 1 := ⟨kb - 1, by have := h.hk.2; omega⟩
    rw [hk'] at haft
    have hAft : ∃ m, GoS P K (AtS P K Fin (k' + 1) { G.st with p := p' }) m g' w' := by
      unfold AfterS at haft
      rw [if_neg hr] at haft
      exact haft
    obtain ⟨m, hgo⟩ := hAft
    have hσ : ({ G.st with p := p' } : St) = (G.start p' s').st := rfl
    rw [hσ] at hgo
    refine ⟨_, w', _, S, G.start p' s', _, vs, ks, k', upd M c m, id, ng, hrun, hArr, R.book hK (by rw [h.sz]; exact hB) h.act hy hmc h.d0 hbook _ _, frm m _ fun z hz => deaf_others hz _ _ _, RB.of_eff heff hsh' hB (fun b hb => by cases hb), .inl hrk, ?_, fun k hk => ⟨rfl, hk, fun _ => ⟨rfl, rfl, rfl⟩⟩⟩
    refine { h with ok := hok', nr := hr, hk := ⟨fun y => ?_, ?_⟩, sh := hsh', ch := hch, row := fun ho => hC.trans (h.row ho), rowJ := ?_, st := ?_, d0 := ?_, wk := fun k hk => ?_, px := fun k hk hp hb => ?_, bk := fun k hk b hb => ?_, B := by rw [hsz]; exact hB, sz := by rw [hsz]; exact h.sz }
    · have := h.hk.1 y; omega
    · have := h.hk.2; omega
    · obtain ⟨cs, hc, hs⟩ := h.rowJ
      exact ⟨cs, hC.trans hc, hs⟩
    · simp only [if_true, upd_same]
      exact .inl hgo
    · rw [Deaf_own, h.d0]; exact hbook.2.1
    · have hne := hnc hk
      simp only [if_neg hne, upd_ne _ _ hne]
      rw [deaf_others hne]
      exact (h4 k hk hne).1
    · exact (hw.2.2.2.1 hp).elim
    · have := h.bk k hk b hb
      rw [hsz]; exact this
end
end Go.Proofs.Ytapjmifhhbpikaa

/- Gangs within gangs: the forest: all gangs in one machine; what a step of one leaves of it. -/
import Derived.Test.YtapjmifhhbpikaaVr
set_option linter.unusedVariables false
set_option linter.unusedSimpArgs false
namespace Go.Proofs.Ytapjmifhhbpikaa
open Go.Conc Go.ConcN Go.ConcM
open Go.ConcR (KK wgBlock WgAt stA smA rd wr g_of_ofEvents ofEvent_loc_mark ofEvent_cell ofEvent_mk loc_of_ofEvent again_blocked)
/-- All gangs' books. -/
structure FD where
  Ks : Nat → Band
  ids : Nat → Nat → Nat
  Fs : Nat → Goroutine → World → Prop
  Gs : Nat → GS
  vs : Nat → Nat → Array Value
  ks : Nat → Nat → Nat
  kb : Nat → Nat
def FD.cx (P : Program) (F : FD) (S : TG) (gf : Nat → Goroutine) (w : World) (M : Nat → Nat) (t : Trace) (ng c : Nat) : Prop :=
  Cx P (F.Ks c) c (F.ids c) (F.Fs c) S (F.Gs c) gf w (F.vs c) (F.ks c) (F.kb c) M t ng
def FD.set (F : FD) (c : Nat) (G : GS) (id : Nat → Nat) (vs : Nat → Array Value) (ks : Nat → Nat) (kb : Nat) : FD :=
  { F with Gs := upd F.Gs c G, ids := upd F.ids c id, vs := upd F.vs c vs, ks := upd F.ks c ks, kb := upd F.kb c kb }
/-- What goroutine 0 comes to; what the blocks below s0 are, from first to last. -/
structure Aim where
  fin : Goroutine → World → Prop
  s0 : Nat
  c0 : Nat → Cls
/-- ████ THE FOREST. ████ Goroutine 0's gang; each other one is begun by a worker of it. -/
structure Forest (P : Program) (K0 : Band) (Fin0 : Aim) (F : FD) (S : TG) (gf : Nat → Goroutine) (w : World) (M : Nat → Nat) (t : Trace) (ng : Nat) : Prop where
  k0 : F.Ks 0 = K0 ∧ F.Fs 0 = Fin0.fin
  tr : TR S t ng
  gang : ∀ c, S.act c → F.cx P S gf w M t ng c
  a0 : S.act 0
  link : ∀ c, S.act c → c ≠ 0 → (F.Ks c).deep = false ∧ ∃ i wb, i < (F.Gs 0).n ∧ c = F.ids 0 i ∧ RB K0 false [] wb w ∧ F.Fs c = fun g w => RB K0 false [] wb w → AfterW P K0 (AtW P K0 (F.ks 0 i + 1)) ((F.Gs 0).D i) (F.vs 0 i) g w
  one : ∀ c c' z, S.wk c z → S.wk c' z → c = c'
  lv : ∀ z, z < ng → z ≠ 0 → (∀ c, ¬ S.wk c z) → QuitsD P (M z) (Deaf t z) (gf z)
  low : ∀ z, S.mute z → z < ng
  fix : Fin0.s0 ≤ S.sz ∧ ∀ b, b < Fin0.s0 → S.cl b = Fin0.c0 b
  fx0 : ∀ b, b < Fin0.s0 → Fin0.c0 b = .old ∨ Fin0.c0 b = .lent 0 ∨ Fin0.c0 b = .row 0 ∨ Fin0.c0 b = .sh 0 ∨ Fin0.c0 b = .chan 0
open Classical in
/-- What the inner gangs have yet to do. -/
noncomputable def rk1 (F : FD) (S : TG) (c : Nat) : Nat := if c ≠ 0 ∧ S.act c then (F.Gs c).rank (F.Ks c).N (F.Ks c).J + 1 else 0
def Lt4 : Nat × Nat × Nat × Nat → Nat × Nat × Nat × Nat → Prop := Prod.Lex (· < ·) (Prod.Lex (· < ·) (Prod.Lex (· < ·) (· < ·)))
theorem wf4 : WellFounded Lt4 := (Prod.lex Nat.lt_wfRel (Prod.lex Nat.lt_wfRel (Prod.lex Nat.lt_wfRel Nat.lt_wfRel))).wf
noncomputable def mu4 (K0 : Band) (F : FD) (S : TG) (gf : Nat → Goroutine) (M : Nat → Nat) (ng : Nat) : Nat × Nat × Nat × Nat := ((F.Gs 0).rank K0.N K0.J, sumTo ng (rk1 F S), sumTo ng M, nrun gf ng)
def FInv (P : Program) (K0 : Band) (Fin0 : Aim) (μ : Nat × Nat × Nat × Nat) (m : Machine) (t : Trace) : Prop :=
  ∃ F S gf w M ng gs sl, m = crowd gs w sl ∧ Arr ng gs gf ∧ Forest P K0 Fin0 F S gf w M t ng ∧ μ = mu4 K0 F S gf M ng
/-- It goes on, lower. -/
def Falls (P : Program) (K0 : Band) (Fin0 : Aim) (μ : Nat × Nat × Nat × Nat) (m : Machine) (t : Trace) : Prop := ∃ μ', Lt4 μ' μ ∧ FInv P K0 Fin0 μ' m t
section
variable {P : Program} {K0 : Band} {Fin0 : Aim} {F : FD} {S S' : TG} {gf gf' : Nat → Goroutine} {w w' : World} {M M' : Nat → Nat} {t t' : Trace} {ng ng' : Nat} {gs : Array Goroutine} {sl : Option (Nat × Nat)}
theorem sum_lt_of {f g : Nat → Nat} : ∀ {n : Nat}, (∀ i, i < n → f i ≤ g i) → (∃ i, i < n ∧ f i < g i) → sumTo n f < sumTo n g
  | 0, _, ⟨i, hi, _⟩ => absurd hi (Nat.not_lt_zero _)
  | n + 1, h, ⟨i, hi, hlt⟩ => by
    have hle : sumTo n f ≤ sumTo n g := by
      clear hlt hi
      have h' : ∀ i, i < n → f i ≤ g i := fun i hi => h i (by omega)
      clear h
      induction n with
      | zero => exact Nat.le_refl _
      | succ n ih => have := ih fun i hi => h' i (by omega); have := h' n (by omega); simp only [sumTo]; omega
    simp only [sumTo]
    have hn := h n (by omega)
    rcases Nat.lt_or_ge i n with h1 | h1
    · have := sum_lt_of (f := f) (g := g) (n := n) (fun i hi => h i (by omega)) ⟨i, h1, hlt⟩
      omega
    · obtain rfl : i = n := by omega
      omega
theorem Forest.wk_lt (Fo : Forest P K0 Fin0 F S gf w M t ng) {c z : Nat} (h : S.wk c z) : S.act c ∧ z < ng ∧ z ≠ c ∧ z ≠ 0 := by
  have ha : S.act c := by
    apply Classical.byContradiction
    exact fun hn => (Fo.tr.idle c hn).1 z h
  have cx := Fo.gang c ha
  obtain ⟨i, hi, rfl⟩ := (cx.wkS z).1 h
  exact ⟨ha, (cx.idc.2 i hi).1, (cx.idc.2 i hi).2⟩
theorem Forest.act_lt (Fo : Forest P K0 Fin0 F S gf w M t ng) {c : Nat} (h : S.act c) : c < ng := (Fo.gang c h).idc.1
/-- A starter other than goroutine 0 is a worker of its gang. -/
theorem Forest.inner (Fo : Forest P K0 Fin0 F S gf w M t ng) {c : Nat} (h : S.act c) (hc : c ≠ 0) : S.wk 0 c := by
  obtain ⟨_, i, _, hi, e, _⟩ := Fo.link c h hc
  exact ((Fo.gang 0 Fo.a0).wkS c).2 ⟨i, hi, e⟩
/-- Gangs of inner workers there are none. -/
theorem Forest.flat (Fo : Forest P K0 Fin0 F S gf w M t ng) {c z : Nat} (h : S.wk c z) (hc : c ≠ 0) : ¬ S.act z := fun ha => by
  have h0 := Fo.inner ha (Fo.wk_lt h).2.2.2
  exact hc (Fo.one _ _ _ h h0)
/-- The tape goes on. -/
theorem Cx.at' {K : Band} {c : Nat} {id : Nat → Nat} {Fin : Goroutine → World → Prop} {G : GS} {vs : Nat → Array Value} {ks : Nat → Nat} {kb : Nat} (h : Cx P K c id Fin S G gf w vs ks kb M t ng) (d : Nat) : Cx P K c id Fin S G gf (w.at d) vs ks kb M t ng :=
  { h with sh := h.sh, ch := h.ch, row := h.row, rowJ := h.rowJ, st := h.st.rely (RB.at _ _ _ _), wk := fun i hi => (h.wk i hi).imp _root_.id fun x => x.rely (RB.at _ _ _ _), bk := h.bk, B := h.B, sz := h.sz }
theorem Forest.at' (Fo : Forest P K0 Fin0 F S gf w M t ng) (d : Nat) : Forest P K0 Fin0 F S gf (w.at d) M t ng :=
  ⟨Fo.k0, Fo.tr, fun c hc => (Fo.gang c hc).at' d, Fo.a0, fun c hc hc0 => let ⟨h1, i, wb, h2, h3, h4, h5⟩ := Fo.link c hc hc0; ⟨h1, i, wb, h2, h3, h4.trans (RB.at _ _ _ _), h5⟩, Fo.one, Fo.lv, Fo.low, Fo.fix, Fo.fx0⟩
/-- THE BOOK IS WRITTEN ANEW where it isn't this gang's. -/
theorem Cx.reS {K : Band} {c : Nat} {id : Nat → Nat} {Fin : Goroutine → World → Prop} {G : GS} {vs : Nat → Array Value} {ks : Nat → Nat} {kb : Nat} (h : Cx P K c id Fin S G gf w vs ks kb M t ng)
    (hcl : ∀ b, (S.cl b = .sh c ∨ S.cl b = .chan c ∨ S.cl b = .row c ∨ S.cl b = .lent c ∨ ∃ i, i < G.n ∧ (S.cl b = .own (id i) ∨ S.cl b = .lent (id i) ∨ S.cl b = .row (id i) ∨ S.cl b = .chan (id i))) → S'.cl b = S.cl b)
    (hact : ∀ z, S.mem c z → (S'.act z ↔ S.act z)) (hwk : ∀ z, S'.wk c z ↔ S.wk c z) (hmute : ∀ z, S.wk c z → (S'.mute z ↔ S.mute z)) (htok : S'.tok c = S.tok c) (hadr : S'.mA c = S.mA c ∧ S'.wA c = S.wA c) (hsz : S'.sz = S.sz) : Cx P K c id Fin S' G gf w vs ks kb M t ng := by
  have ha : ∀ i, i < G.n → (S'.act (id i) ↔ S.act (id i)) := fun i hi => hact _ (.inr ((h.wkS _).2 ⟨i, hi, rfl⟩))
  refine { h with row := fun ht => h.row (by rw [← htok]; exact ht), wk := fun i hi => by rw [ha i hi]; exact h.wk i hi, busy := fun i hi hb => h.busy i hi ((ha i hi).1 hb), bk := fun i hi b hb => ?_, ow := fun i hi ho => by rw [htok]; exact h.ow i hi ho, ow' := fun z hz => h.ow' z (by rw [← htok]; exact hz), wkS := fun z => by rw [hwk]; exact h.wkS z, mu := fun i hi => by rw [hmute _ ((h.wkS _).2 ⟨_, hi, rfl⟩)]; exact h.mu i hi, act := (hact c (.inl rfl)).2 h.act, adr := by rw [hadr.1, hadr.2]; exact h.adr, bl := ⟨?_, ?_, ?_, ?_, fun k hk => ?_⟩, sz := by rw [hsz]; exact h.sz }
  · obtain ⟨h1, h2⟩ := h.bk i hi b hb
    have e : S'.cl b = S.cl b := hcl b (.inr (.inr (.inr (.inr ⟨i, hi, by rcases h2 with h2 | ⟨_, h2 | h2 | h2⟩ <;> simp [h2]⟩))))
    rw [e, ha i hi]
    exact ⟨h1, h2⟩
  · rw [hcl _ (.inl h.bl.M)]; exact h.bl.M
  · rw [hcl _ (.inl h.bl.W)]; exact h.bl.W
  · rw [hcl _ (.inr (.inl h.bl.H))]; exact h.bl.H
  · rw [hcl _ (.inr (.inr (.inl h.bl.C)))]; exact h.bl.C
  · rw [hcl _ (.inr (.inr (.inr (.inl (h.bl.s k hk)))))]; exact h.bl.s k hk
/-- ANOTHER GANG, while y steps in c. -/
theorem Forest.far (Fo : Forest P K0 Fin0 F S gf w M t ng) {c y : Nat} (hc : S.act c) (hy : y = c ∨ (S.wk c y ∧ ¬ S.act y)) (fr : Frm P c y S S' gf gf' w w' M M' t t' ng ng') (hsz : S'.sz = w'.heap.size) {c'' : Nat} (ha : S.act c'') (hne : c'' ≠ c) (M'' : Nat → Nat) (hM'' : ∀ z, z ≠ c → M'' z = M' z) : F.cx P S' gf' w' M'' t' ng' c'' := by
  have cx := Fo.gang c'' ha
  have hnf : ∀ z, S.mem c'' z → (z = c'' ∨ ¬ S.act z) → z < ng ∧ ¬ S.free c z := fun z hz hf => by
    refine ⟨?_, ?_⟩
    · rcases hz with rfl | hz
      · exact Fo.act_lt ha
      · exact (Fo.wk_lt hz).2.1
    · rintro (rfl | ⟨h1, h2⟩)
      · rcases hf with e | e
        · exact hne e.symm
        · exact e hc
      · rcases hz with rfl | hz
        · exact h2 ha
        · exact hne (Fo.one _ _ _ hz h1)
  refine cx.far (c₁ := c) (y := y) hne fr.far ?_ (fun i hi e => ?_) fr.cl fr.act (fun z => fr.wk c'' z hne) (fun z hz => fr.mute z fun h => hne (Fo.one _ _ _ hz h)) (fr.tok c'' hne) (by rw [fr.adr.1, fr.adr.2]; exact ⟨rfl, rfl⟩) hsz fr.ng.1 (fun z hz hf => ?_) (fun z hz hf => ?_) (fun z hz hf => ?_)
  · rintro rfl
    rcases hy with e | ⟨_, h2⟩
    · exact hne e
    · exact h2 ha
  · rcases hy with e' | ⟨h1, h2⟩
    · rw [e']; exact hc
    · exact absurd (Fo.one _ _ _ ((cx.wkS _).2 ⟨i, hi, e⟩) h1) hne
  · obtain ⟨h1, h2⟩ := hnf z hz hf
    rw [hM'' z fun e => h2 (.inl e)]
    exact fr.M z h1 h2
  · obtain ⟨h1, h2⟩ := hnf z hz hf
    exact fr.gf z h1 h2
  · obtain ⟨h1, h2⟩ := hnf z hz hf
    exact fr.deaf z h1 h2
/-- Who only leaves, while y steps in c. -/
theorem Forest.lvs (Fo : Forest P K0 Fin0 F S gf w M t ng) {c y : Nat} (hc : S.act c) (fr : Frm P c y S S' gf gf' w w' M M' t t' ng ng') {z : Nat} (hz : z < ng) (hz0 : z ≠ 0) (hw : ∀ c, ¬ S.wk c z) : QuitsD P (M' z) (Deaf t' z) (gf' z) := by
  have hq := Fo.lv z hz hz0 hw
  have hnf : ¬ S.free c z := by
    rintro (rfl | ⟨h1, _⟩)
    · exact hw 0 (Fo.inner hc hz0)
    · exact hw c h1
  rw [fr.M z hz hnf, fr.deaf z hz hnf]
  rcases fr.gf z hz hnf with e | ⟨x, x', e⟩
  · rw [e]; exact hq
  · rw [e, woken_quitsD hq]; exact hq
theorem rk1_pos {c : Nat} (hc : c ≠ 0) (ha : S.act c) : rk1 F S c = (F.Gs c).rank (F.Ks c).N (F.Ks c).J + 1 := by unfold rk1; rw [if_pos ⟨hc, ha⟩]
theorem rk1_zero {c : Nat} (h : c = 0 ∨ ¬ S.act c) : rk1 F S c = 0 := by
  unfold rk1; rw [if_neg]
  rintro ⟨h1, h2⟩
  exact h.elim h1 fun h => h h2
/-- What a worker of goroutine 0's gang suffers, whoever steps. -/
theorem Forest.rb (Fo : Forest P K0 Fin0 F S gf w M t ng) {c y : Nat} (hc : S.act c) (fr : Frm P c y S S' gf gf' w w' M M' t t' ng ng') (rb : RB (F.Ks c) false [] w w') : RB K0 false [] w w' := by
  by_cases e : c = 0
  · subst e; rw [← Fo.k0.1]; exact rb
  · have cx0 := Fo.gang 0 Fo.a0
    rw [← Fo.k0.1]
    exact RB.of_far fr.far cx0.bl cx0.B (Ne.symm e) (z := y + 1) (by omega) (fun b hb => by cases hb)
/-- ████ A STEP WITHIN A GANG. ████ -/
theorem Forest.ran (Fo : Forest P K0 Fin0 F S gf w M t ng) {c y : Nat} (hc : S.act c) (hy : y = c ∨ (S.wk c y ∧ ¬ S.act y)) (h : Ran P (F.Ks c) c (F.ids c) (F.Fs c) S (F.Gs c) gf w (F.vs c) (F.ks c) M t ng y gs sl) :
    ∃ m₁ ops, runT P (crowd gs w sl) y = (.next m₁, ops) ∧ Falls P K0 Fin0 (mu4 K0 F S gf M ng) m₁ (t ++ ops) := by
  obtain ⟨gs', w', ops, S', G', gf', vs', ks', kb', M', id', ng', hrun, A', R', fr, rb, lo, cx', same⟩ := h
  have hback : ∀ c' z, S'.wk c' z → S.wk c' z ∨ (c' = c ∧ z = ng ∧ ng' = ng + 1) := fun c' z hz => by
    by_cases e : c' = c
    · subst e; exact ((fr.wkc z).1 hz).imp _root_.id fun h => ⟨rfl, h⟩
    · exact .inl ((fr.wk c' z e).1 hz)
  have hfwd : ∀ c' z, S.wk c' z → S'.wk c' z := fun c' z hz => by
    by_cases e : c' = c
    · subst e; exact (fr.wkc z).2 (.inl hz)
    · exact (fr.wk c' z e).2 hz
  have hrk : ∀ c'', c'' ≠ c → rk1 (F.set c G' id' vs' ks' kb') S' c'' = rk1 F S c'' := fun c'' hne => by
    by_cases h : c'' ≠ 0 ∧ S.act c''
    · rw [rk1_pos h.1 h.2, rk1_pos h.1 ((fr.act _).2 h.2)]
      show (upd F.Gs c G' c'').rank _ _ + 1 = _
      rw [upd_ne _ _ hne]; rfl
    · have h1 : c'' = 0 ∨ ¬ S.act c'' := by
        by_cases e : c'' = 0
        · exact .inl e
        · exact .inr fun ha => h ⟨e, ha⟩
      rw [rk1_zero h1, rk1_zero (h1.imp _root_.id fun h2 h3 => h2 ((fr.act _).1 h3))]
  refine ⟨_, ops, hrun, mu4 K0 (F.set c G' id' vs' ks' kb') S' gf' M' ng', ?_, F.set c G' id' vs' ks' kb', S', gf', w', M', ng', gs', sl, rfl, A', ⟨Fo.k0, R', fun c'' ha => ?_, (fr.act 0).2 Fo.a0, fun c'' ha hc0 => ?_, fun c1 c2 z h1 h2 => ?_, fun z hz hz0 hw => ?_, fun z hz => ?_, ⟨?_, fun b hb => ?_⟩, Fo.fx0⟩, rfl⟩
  · -- the measure
    unfold mu4
    by_cases e0 : c = 0
    · subst e0
      have eK : F.Ks 0 = K0 := Fo.k0.1
      have eG : (F.set 0 G' id' vs' ks' kb').Gs 0 = G' := by
        show upd F.Gs 0 G' 0 = G'
        exact upd_same _ _ _
      rw [eG]
      unfold Low at lo
      rw [eK] at lo
      rcases lo with lo | ⟨l1, rfl, l2⟩
      · exact .left _ _ lo
      · rw [l1]
        refine .right _ ?_
        have er : sumTo ng' (rk1 (F.set 0 G' id' vs' ks' kb') S') = sumTo ng' (rk1 F S) := sumTo_congr fun i _ => by
          by_cases e : i = 0
          · rw [rk1_zero (.inl e), rk1_zero (.inl e)]
          · exact hrk i e
        rw [er]
        refine .right _ ?_
        rcases l2 with l2 | ⟨l2, l3⟩
        · exact .left _ _ l2
        · rcases Nat.lt_or_ge (sumTo ng' M') (sumTo ng' M) with h | h
          · exact .left _ _ h
          · rw [Nat.le_antisymm l2 h]; exact .right _ l3
    · have eG : (F.set c G' id' vs' ks' kb').Gs 0 = F.Gs 0 := upd_ne _ _ (Ne.symm e0)
      rw [eG]
      refine .right _ ?_
      have hcn := Fo.act_lt hc
      have ec : rk1 (F.set c G' id' vs' ks' kb') S' c = G'.rank (F.Ks c).N (F.Ks c).J + 1 := by
        rw [rk1_pos e0 ((fr.act c).2 hc)]
        show (upd F.Gs c G' c).rank _ _ + 1 = _
        rw [upd_same]; rfl
      have ec' := rk1_pos (F := F) e0 hc
      have en : rk1 (F.set c G' id' vs' ks' kb') S' ng = 0 := rk1_zero (.inr fun h => by have := Fo.act_lt ((fr.act ng).1 h); omega)
      rcases lo with lo | ⟨l1, rfl, l2⟩
      · refine .left _ _ ?_
        have hlt : sumTo ng (rk1 (F.set c G' id' vs' ks' kb') S') < sumTo ng (rk1 F S) := sum_lt_of (fun i _ => by
          by_cases e : i = c
          · subst e; rw [ec, ec']; omega
          · rw [hrk i e]; exact Nat.le_refl _) ⟨c, hcn, by rw [ec, ec']; omega⟩
        rcases Nat.lt_or_ge ng ng' with h | h
        · have e1 : ng' = ng + 1 := by have := fr.ng; omega
          rw [e1]
          simp only [sumTo]
          rw [en]; exact hlt
        · have e1 : ng' = ng := by have := fr.ng; omega
          rw [e1]; exact hlt
      · have er : sumTo ng' (rk1 (F.set c G' id' vs' ks' kb') S') = sumTo ng' (rk1 F S) := sumTo_congr fun i _ => by
          by_cases e : i = c
          · subst e; rw [ec, ec', l1]
          · exact hrk i e
        rw [er]
        refine .right _ ?_
        rcases l2 with l2 | ⟨l2, l3⟩
        · exact .left _ _ l2
        · rcases Nat.lt_or_ge (sumTo ng' M') (sumTo ng' M) with h | h
          · exact .left _ _ h
          · rw [Nat.le_antisymm l2 h]; exact .right _ l3
  · have ha' := (fr.act c'').1 ha
    by_cases e : c'' = c
    · subst e
      unfold FD.cx FD.set
      simp only [upd_same]
      exact cx'
    · have := Fo.far hc hy fr cx'.sz ha' e M' (fun _ _ => rfl)
      unfold FD.cx FD.set
      simp only [upd_ne _ _ e]
      exact this
  · obtain ⟨h1, i, wb, hi, e1, e3, e2⟩ := Fo.link c'' ((fr.act c'').1 ha) hc0
    refine ⟨h1, i, wb, ?_⟩
    have e4 := e3.trans (Fo.rb hc fr rb)
    by_cases e : c = 0
    · subst e
      obtain ⟨s1, s2, s3⟩ := same i hi
      obtain ⟨s4, s5, s6⟩ := s3 (e1 ▸ (fr.act c'').1 ha)
      simp only [FD.set, upd_same]
      exact ⟨s2, by rw [s1]; exact e1, e4, by rw [s4, s5, s6]; exact e2⟩
    · simp only [FD.set, upd_ne _ _ (Ne.symm e)]
      exact ⟨hi, e1, e4, e2⟩
  · rcases hback _ _ h1 with a | ⟨a, b, b'⟩
    · rcases hback _ _ h2 with a' | ⟨_, b', _⟩
      · exact Fo.one _ _ _ a a'
      · have := (Fo.wk_lt a).2.1; omega
    · rcases hback _ _ h2 with a' | ⟨a', _, _⟩
      · have := (Fo.wk_lt a').2.1; omega
      · rw [a, a']
  · have hlt : z < ng := by
      rcases Nat.lt_or_ge z ng with h | h
      · exact h
      · have e1 : z = ng ∧ ng' = ng + 1 := by have := fr.ng; omega
        exact absurd ((fr.wkc z).2 (.inr e1)) (hw c)
    exact Fo.lvs hc fr hlt hz0 fun c' h => hw c' (hfwd c' z h)
  · by_cases h : S.wk c z
    · exact Nat.lt_of_lt_of_le (Fo.wk_lt h).2.1 fr.ng.1
    · exact Nat.lt_of_lt_of_le (Fo.low z ((fr.mute z h).1 hz)) fr.ng.1
  · have h1 := cx'.sz; have h2 := fr.far.size; have h3 := (Fo.gang c hc).sz; have h4 := Fo.fix.1
    omega
  · have h4 := Fo.fix.1
    rw [fr.cl b (by omega)]; exact Fo.fix.2 b hb
end
end Go.Proofs.Ytapjmifhhbpikaa

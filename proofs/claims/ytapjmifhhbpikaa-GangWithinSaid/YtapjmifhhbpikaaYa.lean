/- Gangs within gangs: in a row: goroutine 0 beside goroutines that only leave; what is held of the trace between two gangs. -/
import Derived.Test.YtapjmifhhbpikaaVu
import Derived.DuoClaim
set_option linter.unusedVariables false
set_option linter.unusedSimpArgs false
namespace Go.Proofs.Ytapjmifhhbpikaa
open Go.Conc Go.ConcN Go.ConcM
open Go.ConcR (deafBehind_cons deafBehind_one g_of_ofEvents loc_of_ofEvent)
/-- What goroutine 0 may list between two gangs. -/
def EvP (Shun Fresh : Loc → Prop) (B : Nat) (e : Event) : Prop :=
  (∀ x, (MemAct.ofEvent e).touch? = some x → (Shun x.loc → x.kind ≠ .plain) ∧ ¬ Fresh x.loc) ∧ e.loc ≠ .mark .disable ∧ e.loc ≠ .mark .enable ∧ (∀ a, e.loc ≠ .mark (.release a)) ∧ (MemAct.ofEvent e).low B
theorem EvP.evL {Shun Fresh : Loc → Prop} {B : Nat} {e : Event} (h : EvP Shun Fresh B e) : EvL Shun B e := ⟨fun x hx hs => (h.1 x hx).1 hs, h.2.1, h.2.2.1, h.2.2.2.2⟩
/-- .. of the trace. -/
structure Pq (Shun Fresh : Loc → Prop) (B : Nat) (t : Trace) : Prop where
  past : Past Shun B t
  nrA : ∀ a, NoRelease a t
/-- WHAT IS HELD OF THE TRACE. -/
structure FrB (P : Program) (Shun Fresh : Loc → Prop) (B : Nat) (gs : Array Goroutine) (t : Trace) (q : Nat → Nat) : Prop where
  lv : Leavers P t gs q
  pq : Pq Shun Fresh B t
  gs : ∀ op ∈ t, op.g < gs.size
section
variable {P : Program} {Shun Fresh : Loc → Prop} {B : Nat} {t u : Trace} {gs : Array Goroutine} {q : Nat → Nat}
theorem Pq.own (h : Pq Shun Fresh B t) {fn : FuncId} {pos : String} {es : Array Event} (hes : ∀ e ∈ es, EvP Shun Fresh B e) : Pq Shun Fresh B (t ++ MemOp.ofEvents 0 fn pos es) := by
  refine ⟨h.past.own fun e he => (hes e he).evL, fun a => (h.nrA a).app fun op hop hm => ?_⟩
  obtain ⟨e, he, rfl⟩ := Go.Conc.mem_ofEvents hop
  exact (hes e he).2.2.2.1 a (loc_of_ofEvent hm)
theorem Pq.mute (h : Pq Shun Fresh B t) {g : Nat} (hg : g ≠ 0) {fn : FuncId} {pos : String} {es : Array Event} (hm : ∀ e ∈ es, e.mute = true) : Pq Shun Fresh B (t ++ MemOp.ofEvents g fn pos es) := by
  refine ⟨h.past.mute hg hm, fun a => (h.nrA a).app fun op hop ha => ?_⟩
  obtain ⟨e, he, rfl⟩ := Go.Conc.mem_ofEvents hop
  have h1 := loc_of_ofEvent ha
  have h2 := hm e he
  obtain ⟨l, x, s⟩ := e
  simp only at h1
  subst h1
  simp [Event.mute] at h2
theorem Pq.mono {B' : Nat} (h : Pq Shun Fresh B t) (hB : B ≤ B') : Pq Shun Fresh B' t := ⟨h.past.mono hB, h.nrA⟩
theorem FrB.mono {B' : Nat} (h : FrB P Shun Fresh B gs t q) (hB : B ≤ B') : FrB P Shun Fresh B' gs t q := ⟨h.lv, h.pq.mono hB, h.gs⟩
/-- ████ GOROUTINE 0 WALKS, BESIDE LEAVERS, ON WHATEVER TAPE. ████ -/
theorem walkF {Stop : Goroutine → World → Prop} :
    ∀ (M n : Nat) (gs : Array Goroutine) (a : Goroutine) (w : World) (sl : Option (Nat × Nat)) (t : Trace) (q : Nat → Nat), n + sumTo gs.size q ≤ M → gs[0]? = some a → FrB P Shun Fresh B gs t q →
      Goes P true AtRel (DE (EvP Shun Fresh B)) Stop n a w →
      ∃ (N : Nat) (gs' : Array Goroutine) (a' : Goroutine) (w' : World) (sl' : Option (Nat × Nat)) (t' : Trace) (q' : Nat → Nat),
        runNT P N (crowd gs w sl) t = (.next (crowd gs' w' sl'), t') ∧ gs'.size = gs.size ∧ gs'[0]? = some a' ∧ Stop a' w' ∧ FrB P Shun Fresh B gs' t' q' := by
  intro M
  induction M with
  | zero =>
    intro n gs a w sl t q hM h0 hF hG
    obtain rfl : n = 0 := by omega
    exact ⟨0, gs, a, w, sl, t, q, rfl, rfl, h0, hG w (atRel_refl w), hF⟩
  | succ M ih =>
    intro n gs a w sl t q hM h0 hF hG
    have hL := hF.lv
    cases n with
    | zero => exact ⟨0, gs, a, w, sl, t, q, rfl, rfl, h0, hG w (atRel_refl w), hF⟩
    | succ n =>
      rcases hG with hstop | ⟨hrun, hstep⟩
      · exact ⟨0, gs, a, w, sl, t, q, rfl, rfl, h0, hstop w (atRel_refl w), hF⟩
      have haw : ∀ g ∈ gs, awake g := by
        intro g hg
        obtain ⟨i, hi, rfl⟩ := Array.mem_iff_getElem.1 hg
        rcases Nat.eq_zero_or_pos i with rfl | hpos
        · have : gs[0] = a := by simpa [Array.getElem?_eq_getElem hi] using h0
          rw [this]; exact awake_of (.inl hrun)
        · exact awake_of ((hL.old i _ hpos (Array.getElem?_eq_getElem hi)).status.elim .inl fun x => .inr (.inr x))
      have hlt0 : 0 < gs.size := (Array.getElem?_eq_some_iff.1 h0).1
      obtain ⟨i, g, d, sl', hi, hg, hst⟩ := crowd_pick (P := P) (w := w) (sl := sl) haw ⟨0, a, h0, hrun⟩
      rcases Nat.eq_zero_or_pos i with rfl | hpos
      · -- goroutine 0 takes a step of its walk
        obtain rfl : g = a := by rw [h0] at hi; exact (Option.some.inj hi).symm
        have hs := hstep (w.at d) ⟨d, rfl⟩
        cases hgo : stepG P true g (w.at d) with
        | go a' w' es =>
          rw [hgo, goes_go] at hs
          obtain ⟨hd, hG'⟩ := hs
          have hrunT := runT_crowd_go (P := P) (sl := sl') (i := 0) hi (show stepG P (0 == 0) g (w.at d) = _ from hgo)
          have hsz : ((gs.map (woken P g a' w')).setIfInBounds 0 a').size = gs.size := by simp
          obtain ⟨N, gs', a'', w'', sl'', t', q', hr, hs', h0', hS, hF'⟩ := ih n ((gs.map (woken P g a' w')).setIfInBounds 0 a') a' w' sl' (t ++ MemOp.ofEvents 0 g.frame.fn g.frame.place es) q (by rw [hsz]; omega) (by simp [hlt0])
            ⟨⟨fun j x hj hx => by
              have hne : 0 ≠ j := by omega
              rw [Array.getElem?_setIfInBounds_ne hne, Array.getElem?_map] at hx
              obtain ⟨y, hy, rfl⟩ := Option.map_eq_some_iff.1 hx
              have hq := hL.old j y hj hy
              rw [woken_quitsD hq, Deaf_other t (by omega) _ (fun op hop => by obtain ⟨e, _, rfl⟩ := Go.Conc.mem_ofEvents hop; rfl)]
              exact hq, fun j hj => by
              rw [Deaf_other t (g' := 0) (by simp at hj; omega) _ (fun op hop => by obtain ⟨e, _, rfl⟩ := Go.Conc.mem_ofEvents hop; rfl)]
              exact hL.above j (by simpa using hj)⟩, hF.pq.own hd, fun op hop => by
              rw [hsz]
              rcases Array.mem_append.1 hop with h1 | h1
              · exact hF.gs op h1
              · obtain ⟨e, _, rfl⟩ := Go.Conc.mem_ofEvents h1; exact hlt0⟩ hG'
          exact ⟨N + 1, gs', a'', w'', sl'', t', q', by simp only [runNT, hst, hrunT]; exact hr, hs'.trans hsz, h0', hS, hF'⟩
        | _ => rw [hgo] at hs; exact hs.elim
      · -- a leaver slips
        have hq := hL.old i g hpos hi
        have hi0 : (i == 0) = false := by simp; omega
        have hlt : i < gs.size := (Array.getElem?_eq_some_iff.1 hi).1
        cases hqi : q i with
        | zero => rw [hqi] at hq; rw [hq.1] at hg; cases hg
        | succ k =>
          rw [hqi] at hq
          rcases hq with ⟨hf, _⟩ | ⟨_, g', es, hm, hstp, hq'⟩
          · rw [hf] at hg; cases hg
          have hrunT := runT_crowd_go (P := P) (sl := sl') (i := i) hi (by rw [hi0]; exact hstp (w.at d))
          have hsz : ((gs.map (woken P g g' (w.at d))).setIfInBounds i g').size = gs.size := by simp
          have hsum : sumTo gs.size (upd q i k) + (k + 1) = sumTo gs.size q + k := by
            have := sumTo_upd q k id hlt
            simpa [hqi] using this
          obtain ⟨N, gs', a'', w'', sl'', t', q', hr, hs', h0', hS, hF'⟩ := ih (n + 1) ((gs.map (woken P g g' (w.at d))).setIfInBounds i g') a (w.at d) sl' (t ++ MemOp.ofEvents i g.frame.fn g.frame.place es) (upd q i k) (by rw [hsz]; omega)
            (by
              have hne : i ≠ 0 := by omega
              rw [Array.getElem?_setIfInBounds_ne hne, Array.getElem?_map, h0]
              simp [woken_run hrun])
            ⟨⟨fun j x hj hx => by
              by_cases hji : i = j
              · subst hji
                rw [Array.getElem?_setIfInBounds_self_of_lt (by simpa using hlt)] at hx
                obtain rfl := Option.some.inj hx
                rw [upd_same, Deaf_own]
                exact hq'
              · rw [Array.getElem?_setIfInBounds_ne hji, Array.getElem?_map] at hx
                obtain ⟨y, hy, rfl⟩ := Option.map_eq_some_iff.1 hx
                have hqj := hL.old j y hj hy
                rw [woken_quitsD hqj, upd_ne q k (Ne.symm hji), Deaf_other t hji _ (fun op hop => by obtain ⟨e, _, rfl⟩ := Go.Conc.mem_ofEvents hop; rfl)]
                exact hqj, fun j hj => by
              rw [Deaf_other t (g' := i) (by simp at hj; omega) _ (fun op hop => by obtain ⟨e, _, rfl⟩ := Go.Conc.mem_ofEvents hop; rfl)]
              exact hL.above j (by simpa using hj)⟩, hF.pq.mute (by omega) hm, fun op hop => by
              rw [hsz]
              rcases Array.mem_append.1 hop with h1 | h1
              · exact hF.gs op h1
              · obtain ⟨e, _, rfl⟩ := Go.Conc.mem_ofEvents h1; exact hlt⟩ (Goes.rely atRel_trans (.inr ⟨hrun, hstep⟩) ⟨d, rfl⟩)
          exact ⟨N + 1, gs', a'', w'', sl'', t', q', by simp only [runNT, hst, hrunT]; exact hr, hs'.trans hsz, h0', hS, hF'⟩
end
theorem runNT_trans' {P : Program} {m m' m'' : Machine} {t t' t'' : Trace} {N K : Nat} (h : runNT P N m t = (.next m', t')) (hk : runNT P K m' t' = (.next m'', t'')) : runNT P (N + K) m t = (.next m'', t'') := by
  rw [runNT_add, h]; exact hk
/-! ### from here to there -/
/-- Nothing is fresh. -/
def NoF : Loc → Prop := fun _ => False
/-- GOROUTINE 0 STANDS AT a IN WORLD w, beside leavers: IT COMES TO WHAT Post SAYS. -/
def Reach (P : Program) (Shun : Loc → Prop) (a : Goroutine) (w : World) (Post : (Loc → Prop) → Goroutine → World → Prop) : Prop :=
  ∀ (gs : Array Goroutine) (sl : Option (Nat × Nat)) (t : Trace) (q : Nat → Nat), gs[0]? = some a → FrB P Shun NoF w.heap.size gs t q →
    ∃ (N : Nat) (gs' : Array Goroutine) (a' : Goroutine) (w' : World) (sl' : Option (Nat × Nat)) (t' : Trace) (q' : Nat → Nat) (Shun' : Loc → Prop),
      runNT P N (crowd gs w sl) t = (.next (crowd gs' w' sl'), t') ∧ gs'[0]? = some a' ∧ FrB P Shun' NoF w'.heap.size gs' t' q' ∧ Post Shun' a' w'
section
variable {P : Program} {Shun : Loc → Prop} {a : Goroutine} {w : World} {Post Mid : (Loc → Prop) → Goroutine → World → Prop}
theorem Reach.done (h : Post Shun a w) : Reach P Shun a w Post := fun gs sl t q h0 hF => ⟨0, gs, a, w, sl, t, q, Shun, rfl, h0, hF, h⟩
theorem Reach.seq (h : Reach P Shun a w Mid) (k : ∀ S a w, Mid S a w → Reach P S a w Post) : Reach P Shun a w Post := by
  intro gs sl t q h0 hF
  obtain ⟨N, gs1, a1, w1, sl1, t1, q1, S1, r1, h1, f1, m1⟩ := h gs sl t q h0 hF
  obtain ⟨N2, gs2, a2, w2, sl2, t2, q2, S2, r2, h2, f2, m2⟩ := k S1 a1 w1 m1 gs1 sl1 t1 q1 h1 f1
  exact ⟨N + N2, gs2, a2, w2, sl2, t2, q2, S2, runNT_trans' r1 r2, h2, f2, m2⟩
/-- A walk of goroutine 0's own. B: how far it makes memory. -/
theorem Reach.walk {B n : Nat} {Stop : Goroutine → World → Prop} (hB : w.heap.size ≤ B) (h : Goes P true AtRel (DE (EvP Shun NoF B)) Stop n a w) (k : ∀ a w, Stop a w → B ≤ w.heap.size ∧ Reach P Shun a w Post) : Reach P Shun a w Post := by
  intro gs sl t q h0 hF
  obtain ⟨N, gs1, a1, w1, sl1, t1, q1, r1, _, h1, hs, f1⟩ := walkF _ n gs a w sl t q (Nat.le_refl _) h0 (hF.mono hB) h
  obtain ⟨hb, hr⟩ := k a1 w1 hs
  obtain ⟨N2, gs2, a2, w2, sl2, t2, q2, S2, r2, h2, f2, m2⟩ := hr gs1 sl1 t1 q1 h1 (f1.mono hb)
  exact ⟨N + N2, gs2, a2, w2, sl2, t2, q2, S2, runNT_trans' r1 r2, h2, f2, m2⟩
end
end Go.Proofs.Ytapjmifhhbpikaa

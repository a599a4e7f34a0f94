/- Gangs within gangs: in a row: a gang's whole phase, from a frame to a frame. -/
import Derived.Test.YtapjmifhhbpikaaYa
set_option linter.unusedVariables false
set_option linter.unusedSimpArgs false
namespace Go.Proofs.Ytapjmifhhbpikaa
open Go.Conc Go.ConcN Go.ConcM
open Go.ConcR (KK wgBlock WgAt stA smA)
open Classical in
/-- The blocks, as goroutine 0's gang begins. -/
noncomputable def cl₀ (K : Band) (Shun : Loc → Prop) (b : Nat) : Cls :=
  if b = K.Mu ∨ b = K.Wg then .sh 0 else if b = K.Ch then .chan 0 else if b = K.C then .row 0 else if ∃ l, locB l = some b ∧ Shun l then .old else .lent 0
section
variable {P : Program} {K : Band} {Fin : Goroutine → World → Prop} {Shun : Loc → Prop} {B : Nat} {gs : Array Goroutine} {a : Goroutine} {w : World} {sl : Option (Nat × Nat)} {t : Trace} {q : Nat → Nat}
/-- ████ A GANG's PHASE. ████ -/
theorem gang_phase (h0 : gs[0]? = some a) (hF : FrB P Shun NoF B gs t q) (hB : B ≤ w.heap.size) (hB0 : K.B0 ≤ w.heap.size) (hmn : K.mn = true) (hS : ∀ l b, locB l = some b → Shun l → b ≠ K.Mu ∧ b ≠ K.Wg ∧ b ≠ K.Ch ∧ b ≠ K.C) (hSt : ∀ k, K.St k → ∀ l, locB l = some k → ¬ Shun l)
    (hsh : SAt K ⟨.zero, 0, 0, false, 0⟩ w) (hch : HAt K false w) (hrow : CAt K (K.row fun _ => false) w) (hst : ∀ k, ∃ m, GoS P K (AtS P K Fin k ⟨.gk, 0, 0⟩) m a w) :
    ∃ (N : Nat) (gs' : Array Goroutine) (a' : Goroutine) (w' : World) (sl' : Option (Nat × Nat)) (t' : Trace) (q' : Nat → Nat) (Shun' : Loc → Prop),
      runNT P N (crowd gs w sl) t = (.next (crowd gs' w' sl'), t') ∧ gs'[0]? = some a' ∧ FrB P Shun' NoF w'.heap.size gs' t' q' ∧ Fin a' w' ∧ CAt K (full K) w' ∧ ∀ l, Shun' l → ∃ b, locB l = some b ∧ b < w'.heap.size ∧ (w.heap.size ≤ b ∨ b = K.Mu ∨ b = K.Wg ∨ ∃ l', locB l' = some b ∧ Shun l') := by
  obtain ⟨m, hm⟩ := hst (G₀.rank K.N K.J + 1)
  have hL := hF.lv
  have hng : 0 < gs.size := (Array.getElem?_eq_some_iff.1 h0).1
  have hMW := K.hMW; have hMH := K.hMH; have hMC := K.hMC; have hWH := K.hWH; have hWC := K.hWC; have hCH := K.hCH
  obtain ⟨S, hSd⟩ : ∃ S : TG, S = { sz := w.heap.size, cl := cl₀ K Shun, act := fun c => c = 0, wk := fun _ _ => False, mute := fun _ => False, rl := fun _ => 0, tok := fun _ => none, mA := fun _ => muA K.Mu, wA := fun _ => stA K.Wg } := ⟨_, rfl⟩
  have hcx : Cx P K 0 (fun _ => 0) Fin S G₀ (fun j => (gs[j]?).getD a) w (fun _ => #[]) (fun _ => G₀.rank K.N K.J) (G₀.rank K.N K.J) (fun j => if j = 0 then m else q j) t gs.size := by
    subst hSd
    refine { ok := ok_G₀ K.hN, nr := by simp [G₀], hk := ⟨fun _ => Nat.le_refl _, Nat.le_refl _⟩, sh := hsh, ch := hch, row := fun _ => hrow, rowJ := ⟨_, hrow, K.hrow _⟩, ur := fun k hk => absurd hk (Nat.not_lt_zero _), st := .inl ?_, d0 := hF.pq.past.hears, wk := fun k hk => absurd hk (Nat.not_lt_zero _), busy := fun k hk => absurd hk (Nat.not_lt_zero _), px := fun k hk => absurd hk (Nat.not_lt_zero _), bk := fun k hk => absurd hk (Nat.not_lt_zero _), ow := fun k hk => absurd hk (Nat.not_lt_zero _), ow' := fun z hz => (by cases hz), idc := ⟨hng, fun k hk => absurd hk (Nat.not_lt_zero _)⟩, idJ := fun k _ hk => absurd hk (Nat.not_lt_zero _), wkS := fun z => ⟨fun h => h.elim, fun ⟨k, hk, _⟩ => absurd hk (Nat.not_lt_zero _)⟩, mu := fun k hk => absurd hk (Nat.not_lt_zero _), act := rfl, adr := ⟨rfl, rfl⟩, mn := by rw [hmn]; rfl, bl := ⟨?_, ?_, ?_, ?_, fun k hk => ?_⟩, B := hB0, sz := rfl }
    · rw [if_pos rfl, h0]; exact hm
    · show cl₀ _ _ _ = _; unfold cl₀; rw [if_pos (.inl rfl)]
    · show cl₀ _ _ _ = _; unfold cl₀; rw [if_pos (.inr rfl)]
    · show cl₀ _ _ _ = _; unfold cl₀; rw [if_neg (fun h => h.elim (Ne.symm hMH) (Ne.symm hWH)), if_pos rfl]
    · show cl₀ _ _ _ = _; unfold cl₀; rw [if_neg (fun h => h.elim (Ne.symm hMC) (Ne.symm hWC)), if_neg hCH, if_pos rfl]
    · show cl₀ _ _ _ = _; unfold cl₀
      obtain ⟨_, k1, k2, k3, k4, k5⟩ := hk
      rw [if_neg (fun h => h.elim k1 k2), if_neg k3, if_neg k4, if_neg]
      rintro ⟨l, hl, hs⟩
      exact hSt k k5 l hl hs
  have hTR : TR S t gs.size := by
    subst hSd
    refine TR.first (Shun := Shun) (B := B) hF.pq.past hF.pq.nrA hF.gs hB (fun c => .rfl) (fun c z h => h) rfl fun b => ?_
    show cl₀ K Shun b = _ ∨ ((cl₀ K Shun b = _ ∨ cl₀ K Shun b = _ ∨ cl₀ K Shun b = _ ∨ cl₀ K Shun b = _) ∧ _)
    unfold cl₀
    by_cases h1 : b = K.Mu ∨ b = K.Wg
    · rw [if_pos h1]
      exact .inr ⟨.inr (.inr (.inl rfl)), fun l hl hs => by have := hS l b hl hs; exact h1.elim this.1 this.2.1⟩
    · rw [if_neg h1]
      by_cases h2 : b = K.Ch
      · rw [if_pos h2]
        exact .inr ⟨.inr (.inr (.inr rfl)), fun l hl hs => (hS l b hl hs).2.2.1 h2⟩
      · rw [if_neg h2]
        by_cases h3 : b = K.C
        · rw [if_pos h3]
          exact .inr ⟨.inr (.inl rfl), fun l hl hs => (hS l b hl hs).2.2.2 h3⟩
        · rw [if_neg h3]
          by_cases h4 : ∃ l, locB l = some b ∧ Shun l
          · rw [if_pos h4]; exact .inl rfl
          · rw [if_neg h4]
            exact .inr ⟨.inl rfl, fun l hl hs => h4 ⟨l, hl, hs⟩⟩
  have hFo : Forest P K ⟨Fin, w.heap.size, cl₀ K Shun⟩ { Ks := fun _ => K, ids := fun _ _ => 0, Fs := fun _ => Fin, Gs := fun _ => G₀, vs := fun _ _ => #[], ks := fun _ _ => G₀.rank K.N K.J, kb := fun _ => G₀.rank K.N K.J } S (fun j => (gs[j]?).getD a) w (fun j => if j = 0 then m else q j) t gs.size := by
    have ha : ∀ c, S.act c → c = 0 := fun c hc => by subst hSd; exact hc
    have hw : ∀ c z, ¬ S.wk c z := fun c z hz => by subst hSd; exact hz
    refine ⟨⟨rfl, rfl⟩, hTR, fun c hc => ?_, by subst hSd; rfl, fun c hc hc0 => absurd (ha c hc) hc0, fun c c' z hz => absurd hz (hw _ _), fun z hz hz0 _ => ?_, fun z hz => by subst hSd; exact hz.elim, by subst hSd; exact ⟨Nat.le_refl _, fun _ _ => rfl⟩, fun b _ => ?_⟩
    · obtain rfl := ha c hc
      exact hcx
    · simp only [if_neg hz0]
      rw [Array.getElem?_eq_getElem hz]
      exact hL.old z _ (by omega) (Array.getElem?_eq_getElem hz)
    · show cl₀ K Shun b = _ ∨ cl₀ K Shun b = _ ∨ cl₀ K Shun b = _ ∨ cl₀ K Shun b = _ ∨ cl₀ K Shun b = _
      unfold cl₀
      split
      · simp
      · split
        · simp
        · split
          · simp
          · split <;> simp
  have hA : Arr gs.size gs (fun j => (gs[j]?).getD a) := ⟨rfl, fun y hy => by rw [Array.getElem?_eq_getElem hy]; rfl⟩
  obtain ⟨n, m', t', hr, gs', a', w', sl', q', Shun', rfl, h0', hFin, hfull, hlv, hpast, hnr, hg, hlow⟩ := forest_run ⟨_, S, _, w, _, _, gs, sl, rfl, hA, hFo, rfl⟩
  refine ⟨n, gs', a', w', sl', t', q', Shun', hr, h0', ⟨hlv, ⟨hpast, hnr⟩, hg⟩, hFin, hfull, fun l hl => ?_⟩
  obtain ⟨b, hb, hlt, hc⟩ := hlow l hl
  refine ⟨b, hb, hlt, ?_⟩
  rcases Nat.lt_or_ge b w.heap.size with h | h
  · right
    have hc' : cl₀ K Shun b = .old ∨ cl₀ K Shun b = .sh 0 := hc h
    unfold cl₀ at hc'
    by_cases h1 : b = K.Mu ∨ b = K.Wg
    · exact h1.elim .inl fun h => .inr (.inl h)
    · rw [if_neg h1] at hc'
      by_cases h2 : b = K.Ch
      · rw [if_pos h2] at hc'; simp at hc'
      · rw [if_neg h2] at hc'
        by_cases h3 : b = K.C
        · rw [if_pos h3] at hc'; simp at hc'
        · rw [if_neg h3] at hc'
          by_cases h4 : ∃ l, locB l = some b ∧ Shun l
          · exact .inr (.inr h4)
          · rw [if_neg h4] at hc'; simp at hc'
  · exact .inl h
end
end Go.Proofs.Ytapjmifhhbpikaa

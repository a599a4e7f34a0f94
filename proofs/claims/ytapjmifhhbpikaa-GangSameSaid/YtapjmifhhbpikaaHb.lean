/- The gang, in a row: a gang's whole phase, from a frame to a frame. -/
import Derived.Test.YtapjmifhhbpikaaHa
set_option linter.unusedVariables false
set_option linter.unusedSimpArgs false
namespace Go.Proofs.Ytapjmifhhbpikaa
open Go.Conc Go.ConcN Go.ConcM
open Go.ConcR (KK wgBlock WgAt stA smA)
/-- The beginning. -/
def G₀ : GS := { n := 0, D := fun _ => { pc := .quit }, p := .gk, s := ⟨.zero, 0, 0, false, 0⟩, sent := 0, closed := false, dn := fun _ => false }
theorem ok_G₀ {N J : Nat} (hN : 1 ≤ N) : Ok N J G₀ := by
  refine ⟨⟨fun _ => ?_, fun h => (by cases h), fun _ _ _ h => absurd rfl h, fun i hi => absurd hi (Nat.not_lt_zero _)⟩, ?_, by simp [G₀], rfl, Nat.zero_le _, fun _ => hN, by simp [G₀, Ps.shut], ⟨Nat.zero_le _, by simp [G₀], by simp [G₀, Ps.shut], fun _ => rfl⟩, fun i hi => absurd hi (Nat.not_lt_zero _), fun j hj => absurd hj (Nat.not_lt_zero _), fun j h => (by cases h), fun i hi => absurd hi (Nat.not_lt_zero _)⟩
  · simp [G₀, sumTo, Mx.zero]
  · simp [WNum, G₀, sumTo, Ps.open, Ps.fin, Ps.pend]
section
variable {P : Program} {K : Band} {Fin : Goroutine → World → Prop} {Shun : Loc → Prop} {B : Nat} {gs : Array Goroutine} {a : Goroutine} {w : World} {sl : Option (Nat × Nat)} {t : Trace} {q : Nat → Nat}
/-- ████ A GANG's PHASE. ████ -/
theorem gang_phase (h0 : gs[0]? = some a) (hF : FrB P Shun (fun l => ∃ ad, l = .cell ad ∧ (ad.block = K.Mu ∨ ad.block = K.Wg ∨ ad.block = K.C)) B gs t q) (hB : B ≤ w.heap.size) (hB0 : K.B0 ≤ w.heap.size) (hbase : gs.size = K.base + 1) (hS : ∀ l, K.Shun l ↔ (Shun l ∨ ∃ ad, l = .cell ad ∧ (ad.block = K.Mu ∨ ad.block = K.Wg)))
    (hsh : SAt K ⟨.zero, 0, 0, false, 0⟩ w) (hch : HAt K false w) (hrow : CAt K (K.row fun _ => false) w) (hst : ∀ k, ∃ m, GoS P K (AtS P K Fin k ⟨.gk, 0, 0⟩) m a w) :
    ∃ (N : Nat) (gs' : Array Goroutine) (a' : Goroutine) (w' : World) (sl' : Option (Nat × Nat)) (t' : Trace) (q' : Nat → Nat),
      runNT P N (crowd gs w sl) t = (.next (crowd gs' w' sl'), t') ∧ gs'[0]? = some a' ∧ FrB P K.Shun NoF w'.heap.size gs' t' q' ∧ Fin a' w' ∧ CAt K (full K) w' := by
  obtain ⟨m, hm⟩ := hst (G₀.rank K.N K.J + 1)
  have hL := hF.lv
  have hbi : BInv P K Fin (G₀.rank K.N K.J, sumTo (K.base + 1 + G₀.n) fun j => if j = 0 then (K.N + 3) * m + 1 else (K.N + 3) * q j) (crowd gs w sl) t := by
    refine ⟨gs, w, sl, G₀, fun j => (gs[j]?).getD a, fun _ => #[], fun _ => G₀.rank K.N K.J, _, none, fun _ => none, rfl, ⟨hbase, fun y hy => ?_⟩, ?_, rfl⟩
    · have hlt : y < gs.size := by rw [hbase]; exact hy
      rw [Array.getElem?_eq_getElem hlt]; rfl
    · refine ⟨ok_G₀ K.hN, by simp [G₀], fun _ => Nat.le_refl _, hsh, hch, fun _ => hrow, ⟨_, hrow, K.hrow _⟩, fun i hi => absurd hi (Nat.not_lt_zero _), ?_, hF.pq.past.hears, fun i hi => absurd hi (Nat.not_lt_zero _), fun j j1 j2 => ?_, fun i hi => absurd hi (Nat.not_lt_zero _), fun i hi => absurd hi (Nat.not_lt_zero _), fun i hi => absurd hi (Nat.not_lt_zero _), fun y h => (by cases h), ?_⟩
      · refine .inl ⟨m, by simp, ?_⟩
        rw [h0]; exact hm
      · have hlt : j < gs.size := by omega
        refine ⟨q j, by simp [show j ≠ 0 by omega], ?_⟩
        rw [Array.getElem?_eq_getElem hlt]
        exact hL.old j _ (by omega) (Array.getElem?_eq_getElem hlt)
      · exact MTr.start (Shun := Shun) (B := B) hF.pq hS hB hB0 (fun op hop => by have := hF.gs op hop; omega) _
  obtain ⟨n, m', t', hr, hE⟩ := band_run hbi
  obtain ⟨gs', a', w', sl', q', rfl, hsz, h0', hFin, hfull, hlv, hpast, hquiet, hmem, hnr, hg⟩ := hE.it
  exact ⟨n, gs', a', w', sl', t', q', hr, h0', ⟨hlv, ⟨hpast, hquiet, hmem, hnr, fun _ _ _ h => h⟩, fun op hop => by have := hg op hop; omega⟩, hFin, hfull⟩
end
end Go.Proofs.Ytapjmifhhbpikaa

/- Gangs within gangs: The gang: the walks' ground (2): what a goroutine knows; the words at a stop. -/
import Derived.Test.YtapjmifhhbpikaaXa
import Derived.Test.YtapjmifhhbpikaaVm
set_option linter.unusedVariables false
set_option linter.unusedSimpArgs false
namespace Go.Proofs.Ytapjmifhhbpikaa
open Go.Conc Go.ConcN Go.ConcM Go.RowKit Go.Conc.Lib Go.ConcR.Gen
open Go.ConcR (KK wgBlock WgAt stA smA rd wr mk)
/-- WHAT A GOROUTINE KNOWS, WHOEVER OWNS. -/
structure Kn (K : Band) (W w : World) : Prop where
  live : Live K w
  still : ∀ k, Still K k → w.heap[k]? = W.heap[k]?
  B : K.B0 ≤ w.heap.size
  tape : w.tape = W.tape
  output : w.output = W.output
  os : OsLater W.os w.os
section
variable {K : Band} {W w w₁ w' : World} {own : Bool} {mine : List Nat}
theorem Kn.rely (h : Kn K W w) (r : RB K own mine w w₁) : Kn K W w₁ :=
  ⟨r.live h.live, fun k hk => (r.still k hk).trans (h.still k hk), Nat.le_trans h.B r.size, r.tape.trans h.tape, r.output.trans h.output, h.os.trans r.os⟩
theorem EffB.of (e : Eff K.Mu K.Wg w w') : EffB K false w w' := ⟨e.tape, e.output, by rw [e.size]; simp, e.os, fun k _ h1 h2 => e.block k h1 h2⟩
theorem Kn.eff {new : Bool} {s' : Sh} (h : Kn K W w) (e : EffB K new w w') (hs : SAt K s' w') : Kn K W w' := h.rely (RB.of_eff (own := false) (mine := []) e hs h.B (fun b hb => by cases hb))
theorem Kn.mu (h : Kn K W w) : ∃ v : Value, w.cell? ⟨K.Mu, 0, none⟩ = some v := by
  obtain ⟨s, hs⟩ := h.live.sh
  exact ⟨_, hs.1.cellSt⟩
theorem Kn.muI (h : Kn K W w) : ∃ v : Int, w.cell? ⟨K.Mu, 0, none⟩ = some (.int .i32 v) := by
  obtain ⟨s, hs⟩ := h.live.sh
  exact ⟨_, hs.1.cellSt⟩
theorem Kn.wg (h : Kn K W w) : ∃ v : Value, w.cell? ⟨K.Wg, 0, none⟩ = some v := by
  obtain ⟨s, hs⟩ := h.live.sh
  exact ⟨_, hs.2.cellSt⟩
theorem Kn.ws (h : Kn K W w) : ∃ v : Value, w.cell? ⟨K.Wg, 1, none⟩ = some v := by
  obtain ⟨s, hs⟩ := h.live.sh
  exact ⟨_, hs.2.cellSm⟩
/-- WHAT THE OWNER KNOWS. -/
theorem ko_rely {cs : Array Value} (h : Kn K W w ∧ CAt K cs w) (r : RB K true mine w w₁) : Kn K W w₁ ∧ CAt K cs w₁ := ⟨h.1.rely r, (r.keep rfl).trans h.2⟩
theorem SAt.setMu {s : Sh} (h : SAt K s w) (m : Mx) : SAt K { s with mu := m } (w.setCell (muA K.Mu) (.int .i32 m.num)) := ⟨h.1.setSt _, h.2.of_block ((aside_setCell w (muA K.Mu) _).block K.Wg K.hMW.symm)⟩
theorem SAt.setMs {s : Sh} (h : SAt K s w) (n : Nat) : SAt K { s with ms := n } (w.setCell (msA K.Mu) (.int .u32 n)) := ⟨h.1.setSm _, h.2.of_block ((aside_setCell w (msA K.Mu) _).block K.Wg K.hMW.symm)⟩
theorem SAt.setWg {s : Sh} (h : SAt K s w) (v : Nat) (wt : Bool) : SAt K { s with v := v, wt := wt } (w.setCell (stA K.Wg) (.int .u64 ((v : Int) * KK + (wt.toNat : Int)))) := ⟨((aside_setCell w (stA K.Wg) _).block K.Mu K.hMW).trans h.1, h.2.setSt _⟩
theorem SAt.setWs {s : Sh} (h : SAt K s w) (n : Nat) : SAt K { s with ws := n } (w.setCell (smA K.Wg) (.int .u32 n)) := ⟨((aside_setCell w (smA K.Wg) _).block K.Mu K.hMW).trans h.1, h.2.setSm _⟩
theorem SAt.later {s : Sh} (h : SAt K s w) : SAt K s w.later := h
theorem SAt.asked {s : Sh} (h : SAt K s w) : SAt K s w.asked := h
theorem db_none {boss own mute : Bool} {es : Array Event} (h : ∀ e ∈ es, False) : DB K boss mine own mute w w es :=
  ⟨rfl, rfl, rfl, rfl, fun _ _ _ => rfl, fun _ h => h, fun e he => (h e he).elim, fun _ => Array.eq_empty_iff_forall_not_mem.2 h⟩
theorem evw_book {T T' : Th} {es : Array Event} {d d' : Nat} (h1 : T.pc ≠ .la) (h2 : T.pc ≠ .ur) (h3 : T.pc ≠ .wr) (h4 : T.pc ≠ .bx) (hd : T.deaf = d) (hd' : (if T'.pc = .quit then 1 else T'.deaf) = d') (h : BookOK K.Mu K.Wg d d' es) : EvW K T T' w es := by
  subst hd; subst hd'
  unfold EvW
  split <;> first | contradiction | exact h
theorem evs_book {p p' : Ps} {es : Array Event} {d d' : Nat} (h1 : p ≠ .aq) (hd : p.deaf = d) (hd' : p'.deaf = d') (h : BookOK K.Mu K.Wg d d' es) : EvS K p p' es := by
  subst hd; subst hd'
  unfold EvS
  split <;> first | contradiction | exact h
theorem hd_deaf (T : Th) : (hd T).pc ≠ .quit ∧ (hd T).deaf = 1 ∧ (if (hd T).pc = .quit then 1 else (hd T).deaf) = 1 := by
  rcases hd_pc T with ⟨hp, -⟩ | ⟨hp, -⟩ <;> simp [Th.deaf, hp]
theorem afterW_go {P : Program} {Nx : Th → Array Value → Goroutine → World → Prop} {T T' : Th} {v x : Array Value} {g' : Goroutine} (h1 : T.pc ≠ .la) (h : T'.pc ≠ .quit) (m : Nat) (hg : GoW P K T' (Nx T' v) m g' w') : AfterW P K Nx T' (if T.pc = .la then x else v) g' w' := by
  rw [if_neg h1]
  unfold AfterW
  rw [if_neg h]
  exact ⟨m, hg⟩
theorem afterS_go {P : Program} {Fin : Goroutine → World → Prop} {Nx : St → Goroutine → World → Prop} {σ : St} {g' : Goroutine} (h : σ.p ≠ .ret) (m : Nat) (hg : GoS P K (Nx σ) m g' w') : AfterS P K Fin Nx σ g' w' := by
  unfold AfterS
  rw [if_neg h]
  exact ⟨m, hg⟩
end
/-- SILENT STEPS: the world stands, nothing is listed (the library's words know 'DC0'); then on as a worker. -/
theorem goW0 {P : Program} {K : Band} {T : Th} {Nx : Goroutine → World → Prop} {m : Nat} : ∀ {n : Nat} {g : Goroutine} {w : World}, Goes P false (RB K T.owns T.blk) Go.ConcR.DC0 (GoW P K T Nx m) n g w → GoW P K T Nx (n + m) g w
  | 0, g, w, h => by rw [Nat.zero_add]; exact h w (RB.refl _ _ _)
  | n + 1, g, w, h => by
    rcases h with h | ⟨hr, h⟩
    · have := h w (RB.refl _ _ _)
      rw [Nat.add_comm]
      exact goes_pad this _
    · rw [show n + 1 + m = (n + m) + 1 by omega]
      refine .inr ⟨hr, fun w₁ r => ?_⟩
      have := h w₁ r
      revert this
      cases stepG P false g w₁ <;> simp only [GStep.goes, imp_self]
      rintro ⟨⟨rfl, rfl⟩, x⟩
      exact ⟨db_none fun e he => by simp at he, goW0 x⟩
theorem goS0 {P : Program} {K : Band} {Nx : Goroutine → World → Prop} {m : Nat} : ∀ {n : Nat} {g : Goroutine} {w : World}, Goes P K.mn (RB K false []) Go.ConcR.DC0 (GoS P K Nx m) n g w → GoS P K Nx (n + m) g w
  | 0, g, w, h => by rw [Nat.zero_add]; exact h w (RB.refl _ _ _)
  | n + 1, g, w, h => by
    rcases h with h | ⟨hr, h⟩
    · have := h w (RB.refl _ _ _)
      rw [Nat.add_comm]
      exact goes_pad this _
    · rw [show n + 1 + m = (n + m) + 1 by omega]
      refine .inr ⟨hr, fun w₁ r => ?_⟩
      have := h w₁ r
      revert this
      cases stepG P K.mn g w₁ <;> simp only [GStep.goes, imp_self]
      rintro ⟨⟨rfl, rfl⟩, x⟩
      exact ⟨db_none fun e he => by simp at he, goS0 x⟩
/-- A family of laws by depth that a stop's law feeds. -/
class Fam (K : Band) (A : Nat → Th → Array Value → Goroutine → World → Prop) : Prop where
  zero : ∀ T v g w, A 0 T v g w
  succ' : ∀ {k T v g w}, (StpW Try.prog K (A k) T v g w ∨ (T.pc = .bx ∧ K.deep = true ∧ Begin Try.prog K (A k) T v g w)) → A (k + 1) T v g w
theorem Fam.succ {K : Band} {A : Nat → Th → Array Value → Goroutine → World → Prop} [F : Fam K A] {k : Nat} {T : Th} {v : Array Value} {g : Goroutine} {w : World} (h : StpW Try.prog K (A k) T v g w) : A (k + 1) T v g w := F.succ' (.inl h)
theorem AtW.less {P : Program} {K : Band} : ∀ {k : Nat} {T : Th} {v : Array Value} {g : Goroutine} {w : World}, AtW P K (k + 1) T v g w → AtW P K k T v g w
  | 0, _, _, _, _, _ => trivial
  | k + 1, _, _, _, _, x => x.imp (StpW.mono (Nx := AtW P K (k + 1)) (Ny := AtW P K k) fun _ _ _ _ y => AtW.less y) fun h => ⟨h.1, h.2.1, Begin.mono (Nx := AtW P K (k + 1)) (Ny := AtW P K k) (fun _ _ _ _ y => AtW.less y) h.2.2⟩
/-- At most b deep. -/
def AtM (K : Band) (b k : Nat) : Th → Array Value → Goroutine → World → Prop := AtW Try.prog K (min k b)
instance (K : Band) (b : Nat) : Fam K (AtM K b) where
  zero := fun T v g w => by unfold AtM; rw [Nat.zero_min]; trivial
  succ' := fun {k T v g w} x => by
    unfold AtM at x ⊢
    by_cases h : k + 1 ≤ b
    · rw [Nat.min_eq_left h]
      rw [Nat.min_eq_left (by omega)] at x
      exact x
    · rw [Nat.min_eq_right (by omega)]
      rw [Nat.min_eq_right (by omega)] at x
      cases b with
      | zero => trivial
      | succ b => exact x.imp (StpW.mono (Nx := AtW Try.prog K (b + 1)) (Ny := AtW Try.prog K b) fun _ _ _ _ y => AtW.less y) fun h => ⟨h.1, h.2.1, Begin.mono (Nx := AtW Try.prog K (b + 1)) (Ny := AtW Try.prog K b) (fun _ _ _ _ y => AtW.less y) h.2.2⟩
/-- One step down. -/
theorem AtM.step {K : Band} {b k : Nat} {T : Th} {v : Array Value} {g : Goroutine} {w : World} (x : StpW Try.prog K (AtM K b k) T v g w) : AtM K (b + 1) (k + 1) T v g w := by
  replace x : StpW Try.prog K (AtM K b k) T v g w ∨ (T.pc = .bx ∧ K.deep = true ∧ Begin Try.prog K (AtM K b k) T v g w) := .inl x
  unfold AtM at x ⊢
  have e : min (k + 1) (b + 1) = min k b + 1 := by omega
  rw [e]; exact x
theorem AtM.le {K : Band} {b k : Nat} (h : k ≤ b) : AtM K b k = AtW Try.prog K k := by unfold AtM; rw [Nat.min_eq_left h]
/-! ### the functions' texts -/
def findLoop : Code → Option Code
  | .loop c => some c
  | .seq x y => match findLoop x with | some c => some c | none => findLoop y
  | .block _ c => findLoop c
  | .cond _ x y => match findLoop x with | some c => some c | none => findLoop y
  | _ => none
def behindBlock : Code → Option Code
  | .seq (.block _ _) r => some r
  | .seq _ y => behindBlock y
  | _ => none
def behindFirst : Code → Option Code
  | .block _ (.seq _ r) => some r
  | _ => none
noncomputable def body47 : Code := Try.f47.body.getD .skip
noncomputable def LL47 : Code := (findLoop body47).getD .skip
noncomputable def REST47 : Code := (behindBlock body47).getD .skip
noncomputable def RESTB47 : Code := (behindFirst LL47).getD .skip
end Go.Proofs.Ytapjmifhhbpikaa

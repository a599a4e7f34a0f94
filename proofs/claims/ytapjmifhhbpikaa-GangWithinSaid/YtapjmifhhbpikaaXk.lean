/- Gangs within gangs: The gang: what a worker knows, with blocks of its own: as they stood in a world that it remembers. -/
import Derived.Test.YtapjmifhhbpikaaXb
set_option linter.unusedVariables false
namespace Go.Proofs.Ytapjmifhhbpikaa
open Go.Conc Go.ConcN Go.ConcM Go.RowKit Go.Conc.Lib Go.ConcR.Gen
open Go.ConcR (KK wgBlock WgAt stA smA rd wr mk)
/-- A world that is remembered; ob: blocks of one's own that stand as they stood in it. -/
structure Snap where
  W : World
  ob : List Nat
class Own (S : Snap) (blk : List Nat) : Prop where
  sub : ∀ b ∈ S.ob, b ∈ blk
structure KnS (K : Band) (S : Snap) (w : World) : Prop where
  kn : Kn K S.W w
  own : ∀ b ∈ S.ob, K.B0 ≤ b ∧ b < w.heap.size ∧ w.heap[b]? = S.W.heap[b]?
section
variable {K : Band} {S : Snap} {w w₁ w' : World} {own : Bool} {mine : List Nat}
theorem KnS.rely [h : Own S mine] (hk : KnS K S w) (r : RB K own mine w w₁) : KnS K S w₁ :=
  ⟨hk.kn.rely r, fun b hb => by
    obtain ⟨h1, h2, h3⟩ := hk.own b hb
    have h4 := r.mine b (h.sub b hb)
    exact ⟨h1, Nat.lt_of_lt_of_le h2 r.size, h4.trans h3⟩⟩
theorem KnS.eff {new : Bool} {s' : Sh} (h : KnS K S w) (e : EffB K new w w') (hs : SAt K s' w') : KnS K S w' :=
  ⟨h.kn.eff e hs, fun b hb => by
    obtain ⟨h1, h2, h3⟩ := h.own b hb
    have bM := K.bM
    have bW := K.bW
    exact ⟨h1, by rw [e.size]; omega, (e.block b h2 (by omega) (by omega)).trans h3⟩⟩
theorem KnS.mu (h : KnS K S w) : ∃ v : Value, w.cell? ⟨K.Mu, 0, none⟩ = some v := h.kn.mu
theorem KnS.muI (h : KnS K S w) : ∃ v : Int, w.cell? ⟨K.Mu, 0, none⟩ = some (.int .i32 v) := h.kn.muI
theorem koS_rely [Own S mine] {cs : Array Value} (h : KnS K S w ∧ CAt K cs w) (r : RB K true mine w w₁) : KnS K S w₁ ∧ CAt K cs w₁ := ⟨h.1.rely r, (r.keep rfl).trans h.2⟩
instance (W : World) (blk : List Nat) : Own ⟨W, []⟩ blk := ⟨fun b hb => by cases hb⟩
theorem hd_blk (T : Th) : (hd T).blk = T.blk := by unfold hd; split <;> rfl
instance (S : Snap) (T : Th) [h : Own S T.blk] : Own S (hd T).blk := ⟨by rw [hd_blk]; exact h.sub⟩
theorem Kn.snap {W : World} (h : Kn K W w) : KnS K ⟨W, []⟩ w := ⟨h, fun b hb => by cases hb⟩
end
end Go.Proofs.Ytapjmifhhbpikaa

/- Gangs within gangs: a worker's steps on blocks of its own. -/
import Derived.Test.YtapjmifhhbpikaaXw1
import Derived.Test.YtapjmifhhbpikaaYl
set_option linter.unusedVariables false
set_option linter.unusedSimpArgs false
namespace Go.Proofs.Ytapjmifhhbpikaa
open Go.Conc Go.ConcN Go.ConcM Go.RowKit Go.Conc.Lib Go.ConcR.Gen
open Go.ConcR (KK wgBlock WgAt stA smA rd wr mk)
/-- What a worker knows of blocks of its own. -/
structure KO (K : Band) (W : World) (l : List (Nat × Obj)) (w : World) : Prop where
  kn : Kn K W w
  own : ∀ x ∈ l, w.heap[x.1]? = some x.2 ∧ K.B0 ≤ x.1
theorem kj_rely {K : Band} {W w w₁ : World} {l : List (Nat × Obj)} {own : Bool} {mine : List Nat} (hm : ∀ x ∈ l, x.1 ∈ mine) (h : KO K W l w) (r : RB K own mine w w₁) : KO K W l w₁ :=
  ⟨h.kn.rely r, fun x hx => ⟨(r.mine _ (hm x hx)).trans (h.own x hx).1, (h.own x hx).2⟩⟩
theorem KO.less {K : Band} {W w : World} {l l' : List (Nat × Obj)} (h : KO K W l w) (hl : ∀ x ∈ l', x ∈ l) : KO K W l' w := ⟨h.kn, fun x hx => h.own x (hl x hx)⟩
theorem KO.cell1 {K : Band} {W w : World} {l : List (Nat × Obj)} {b : Nat} {X : Value} {t : TypeId} (h : KO K W l w) (hb : (b, .cells #[X] t) ∈ l) : w.cell? ⟨b, 0, none⟩ = some X ∧ w.frozen? ⟨b, 0, none⟩ = false ∧ b < w.heap.size := by
  obtain ⟨hh, _⟩ := h.own _ hb
  have hh : w.heap[b]? = some (.cells #[X] t) := hh
  refine ⟨?_, ?_, (Array.getElem?_eq_some_iff.1 hh).1⟩ <;> simp [World.cell?, World.frozen?, hh]
theorem set1_heap {w : World} {b : Nat} {X0 X : Value} {t : TypeId} (h : w.heap[b]? = some (.cells #[X0] t)) : (w.setCell ⟨b, 0, none⟩ X).heap[b]? = some (.cells #[X] t) := by
  rw [setCell_eq_setRow w b 0 _ t (0, 0) _ h, setRow_heap w b _ _ t _ h]
  rfl
theorem KO.st1 {K : Band} {W w : World} {l l' : List (Nat × Obj)} {b : Nat} {X0 X : Value} {t : TypeId} (h : KO K W l w) (hb : (b, .cells #[X0] t) ∈ l) (hl : ∀ x ∈ l', x = (b, .cells #[X] t) ∨ (x.1 ≠ b ∧ x ∈ l)) : KO K W l' (w.setCell ⟨b, 0, none⟩ X) := by
  have A0 := aside_setCell w ⟨b, 0, none⟩ X
  obtain ⟨hh, hB⟩ := h.own _ hb
  have bl : ∀ k, k ≠ b → (w.setCell ⟨b, 0, none⟩ X).heap[k]? = w.heap[k]? := fun k hk => A0.block k hk
  have hB : K.B0 ≤ b := hB
  obtain ⟨s, hsh⟩ := h.kn.live.sh
  obtain ⟨c, s1, r1, hch⟩ := h.kn.live.ch
  obtain ⟨cs, hc, hs⟩ := h.kn.live.row
  have bM := K.bM; have bW := K.bW; have bH := K.bH; have bC := K.bC
  refine ⟨⟨⟨⟨s, hsh.of_block (bl _ (by omega)) (bl _ (by omega))⟩, ⟨c, s1, r1, (bl _ (by omega)).trans hch⟩, ⟨cs, (bl _ (by omega)).trans hc, hs⟩⟩, fun k hk => (bl k (by have := hk.1; omega)).trans (h.kn.still k hk), ?_, A0.tape.trans h.kn.tape, A0.output.trans h.kn.output, ?_⟩, fun x hx => ?_⟩
  · rw [A0.size]; exact h.kn.B
  · rw [A0.os]; exact h.kn.os
  · rcases hl x hx with rfl | ⟨h1, h2⟩
    · exact ⟨set1_heap hh, hB⟩
    · exact ⟨(bl _ h1).trans (h.own x h2).1, (h.own x h2).2⟩
theorem db_own1 {K : Band} {w : World} {mine : List Nat} {b : Nat} {X : Value} (hb : b ∈ mine) (hlt : b < w.heap.size) : DB K false mine false false w (w.setCell ⟨b, 0, none⟩ X) #[⟨.cell ⟨b, 0, none⟩, true, false⟩] := by
  have A0 := aside_setCell w ⟨b, 0, none⟩ X
  refine ⟨A0.tape, A0.output, A0.os, A0.size, fun k hk _ => A0.block k fun e => hk (e ▸ hb), (fun h => by cases h), fun e he => ?_, (fun h => by cases h)⟩
  simp at he
  subst he
  exact ev_plain hlt (.inr (.inl hb))
section
variable {Fa : Nat → Th → Array Value → Goroutine → World → Prop} {K : Band} [Fam K Fa] {W : World} {T : Th} {Nx : Goroutine → World → Prop} {n : Nat} {b : Frame} {a : Act} {kk : List Item} {cs : List Frame} {w : World} {ops : Array Oper} {i : Nat} {rest : List Nat} {o : Oper} {l : List (Nat × Obj)}
omit [Fam K Fa]
/-- AN OPERATION THAT YIELDS A VALUE and touches nothing. -/
theorem goW_val {v : Value} (hl : ∀ x ∈ l, x.1 ∈ T.blk) (hF : KO K W l w) (ho : ops[i]? = some o) (hw : Region.wanted o (yielded ops a.tmps) = true) (hk : b.kind ≠ .early)
    (hr : ∀ w : World, (execOp a.eval o).run Try.prog w = .ok (.value v) w ∧ (execOp a.eval o).events Try.prog w #[] = #[])
    (hgo : ∀ w₁, KO K W l w₁ → GoW Try.prog K T Nx n (G (b.at (a.put o.dst v) (.inRegion ops rest :: kk)) cs) w₁) : GoW Try.prog K T Nx (n + 1) (G (b.at a (.inRegion ops (i :: rest) :: kk)) cs) w := by
  refine Goes.step rfl fun w₁ r => ?_
  rw [stepG_value ho hw hk (hr _).1]
  unfold listed
  rw [(hr _).2, seen_none]
  simp only [goes_go]
  exact ⟨db_none fun e he => by simp at he, hgo _ (kj_rely hl hF r)⟩
/-- A STORE into a cell of its own. -/
theorem goW_st1 {ty t : TypeId} {x y : Operand} {bk : Nat} {X0 X : Value} {l' : List (Nat × Obj)} (hl : ∀ x ∈ l, x.1 ∈ T.blk) (hF : KO K W l w) (ho : ops[i]? = some o) (hw : Region.wanted o (yielded ops a.tmps) = true) (hk : b.kind ≠ .early) (hop : o.op = .store ty x y) (hx : a.eval x = .pointer (some ⟨bk, 0, none⟩)) (hy : a.eval y = X)
    (hty : ty = 33 ∧ (∃ p l c, X = .slice p l c) ∨ ty = 53 ∧ (∃ c, X = .chan c) ∨ ty = 3 ∧ ∃ z, X = .int .i64 z) (hq : (Try.prog.funcs[b.fn]?).any (·.norace) = false) (hm : T.mute = false) (how : T.owns = false) (hb : (bk, .cells #[X0] t) ∈ l)
    (hl' : ∀ x ∈ l', x = (bk, .cells #[X] t) ∨ (x.1 ≠ bk ∧ x ∈ l))
    (hgo : ∀ w₁, KO K W l' w₁ → GoW Try.prog K T Nx n (G (b.at (a.put o.dst undef) (.inRegion ops rest :: kk)) cs) w₁) : GoW Try.prog K T Nx (n + 1) (G (b.at a (.inRegion ops (i :: rest) :: kk)) cs) w := by
  refine Goes.step rfl fun w₁ r => ?_
  have hF1 := kj_rely hl hF r
  obtain ⟨c0, z0, hlt⟩ := hF1.cell1 hb
  have hr := run_st hop hx hy hty w₁ c0 z0
  rw [stepG_none ho hw hk hr.1]
  unfold listed
  rw [hr.2, seen_eq hq (by simp)]
  simp only [goes_go]
  refine ⟨?_, hgo _ (hF1.st1 hb hl')⟩
  rw [hm, how]
  exact db_own1 (hl _ hb) hlt
end
section
variable {Fa : Nat → Th → Array Value → Goroutine → World → Prop} {K : Band} [Fam K Fa] {W : World} {l : List (Nat × Obj)} {v : Array Value}
/-- A STOP THAT MAKES A BLOCK. -/
theorem goW_new {T : Th} {n k : Nat} {p : Pc} {v' : Nat → Value} {ob : Obj} {b : Frame} {a : Act} {kk : List Item} {cs : List Frame} {w : World} {ops : Array Oper} {i : Nat} {rest : List Nat} {o : Oper} (hpc : T.pc = .bx) (hit : n < T.it) (hp : p = .bx ∨ p = .ld) (hl : ∀ x ∈ l, x.1 ∈ T.blk) (hF : KO K W l w)
    (ho : ops[i]? = some o) (hw : Region.wanted o (yielded ops a.tmps) = true) (hk : b.kind ≠ .early)
    (hr : ∀ w : World, (execOp a.eval o).run Try.prog w = .ok (.value (v' w.heap.size)) (w.alloc ob) ∧ (execOp a.eval o).events Try.prog w #[] = #[])
    (hgo : ∀ k' bk, (∀ x ∈ l, x.1 ≠ bk) → ∃ m, ∀ w₁, KO K W ((bk, ob) :: l) w₁ → GoW Try.prog K { pc := p, it := if p = .bx then n else 0, job := T.job, blk := bk :: T.blk } (Fa k' { pc := p, it := if p = .bx then n else 0, job := T.job, blk := bk :: T.blk } v) m (G (b.at (a.put o.dst (v' bk)) (.inRegion ops rest :: kk)) cs) w₁) :
    GoW Try.prog K T (Fa k T v) 0 (G (b.at a (.inRegion ops (i :: rest) :: kk)) cs) w := by
  refine Goes.stop (fun wx r => ?_)
  have hF := kj_rely hl hF r
  rcases k with _ | k
  · exact Fam.zero (K := K) _ _ _ _
  refine Fam.succ (K := K) (A := Fa) ?_
  have step : stepG Try.prog false (G (b.at a (.inRegion ops (i :: rest) :: kk)) cs) wx = .go (G (b.at (a.put o.dst (v' wx.heap.size)) (.inRegion ops rest :: kk)) cs) (wx.alloc ob) #[] := by
    rw [stepG_value ho hw hk (hr _).1]
    unfold listed
    rw [(hr _).2, seen_none]
  refine ⟨rfl, rfl, (fun h => by rw [hpc] at h; simp at h), (fun h => by rw [hpc] at h; cases h), (fun h => by rw [hpc] at h; cases h), (fun h => by rw [hpc] at h; cases h), fun _ s hs hfit _ cs' hcs => ⟨_, s, .bx (wx.heap.size :: T.blk) p n hpc hit hp, _, _, _, step, hs.alloc hF.kn.B _, by rw [hpc]; exact effB_alloc _ _, by unfold EvW; rw [hpc]; exact ⟨rfl, rfl⟩, ?_⟩⟩
  have hlt : ∀ x ∈ l, x.1 < wx.heap.size := fun x hx => (Array.getElem?_eq_some_iff.1 (hF.own x hx).1).1
  obtain ⟨m, hm⟩ := hgo k wx.heap.size (fun x hx => Nat.ne_of_lt (hlt x hx))
  have hF2 : KO K W ((wx.heap.size, ob) :: l) (wx.alloc ob) := ⟨hF.kn.eff (effB_alloc _ _) (hs.alloc hF.kn.B _), fun x hx => by
    rcases List.mem_cons.1 hx with rfl | hx
    · exact ⟨alloc_at_new _ _, hF.kn.B⟩
    · exact ⟨(alloc_old (hlt x hx)).trans (hF.own x hx).1, (hF.own x hx).2⟩⟩
  unfold AfterW
  rw [if_neg (by rcases hp with rfl | rfl <;> simp), show (if T.pc = .la then K.put T.job cs' else v) = v from if_neg (by rw [hpc]; simp)]
  exact ⟨m, hm _ hF2⟩
/-- .. and the next stop makes a block, too, or begins a gang. -/
theorem goW_newB {T : Th} {n k : Nat} {v' : Nat → Value} {ob : Obj} {b : Frame} {a : Act} {kk : List Item} {cs : List Frame} {w : World} {ops : Array Oper} {i : Nat} {rest : List Nat} {o : Oper} (hpc : T.pc = .bx) (hit : n < T.it) (hl : ∀ x ∈ l, x.1 ∈ T.blk) (hF : KO K W l w)
    (ho : ops[i]? = some o) (hw : Region.wanted o (yielded ops a.tmps) = true) (hk : b.kind ≠ .early)
    (hr : ∀ w : World, (execOp a.eval o).run Try.prog w = .ok (.value (v' w.heap.size)) (w.alloc ob) ∧ (execOp a.eval o).events Try.prog w #[] = #[])
    (hgo : ∀ k' bk, (∀ x ∈ l, x.1 ≠ bk) → ∃ m, ∀ w₁, KO K W ((bk, ob) :: l) w₁ → GoW Try.prog K { pc := .bx, it := n, job := T.job, blk := bk :: T.blk } (Fa k' { pc := .bx, it := n, job := T.job, blk := bk :: T.blk } v) m (G (b.at (a.put o.dst (v' bk)) (.inRegion ops rest :: kk)) cs) w₁) :
    GoW Try.prog K T (Fa k T v) 0 (G (b.at a (.inRegion ops (i :: rest) :: kk)) cs) w :=
  goW_new hpc hit (.inl rfl) hl hF ho hw hk hr hgo
end
end Go.Proofs.Ytapjmifhhbpikaa

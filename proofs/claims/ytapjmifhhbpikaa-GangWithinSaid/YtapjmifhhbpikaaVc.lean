/- Gangs within gangs: a gang in the machine: what the shared blocks hold, what one suffers and does, what a stop is. -/
import Derived.Test.YtapjmifhhbpikaaVb
import Derived.Conc.MuStep3
import Derived.Conc.MuStops
import Derived.Conc.CrowdComm
import Derived.Conc.Beside
set_option linter.unusedVariables false
set_option linter.unusedSimpArgs false
namespace Go.Proofs.Ytapjmifhhbpikaa
open Go.Conc Go.ConcN Go.ConcM
open Go.ConcR (KK wgBlock WgAt stA smA rd wr mk g_of_ofEvents ofEvent_loc_mark ofEvent_cell ofEvent_mk loc_of_ofEvent)
/-- The mutex's word as a number. -/
def Mx.num (m : Mx) : Int := (m.L.toNat + 2 * m.W.toNat + 4 * m.S.toNat + 8 * m.k : Nat)
theorem Mx.num_inj {a b : Mx} (h : a.num = b.num) : a = b := by
  obtain ⟨L, W, S, k⟩ := a
  obtain ⟨L', W', S', k'⟩ := b
  unfold Mx.num at h
  cases L <;> cases W <;> cases S <;> cases L' <;> cases W' <;> cases S' <;> simp at h ⊢ <;> omega
/-- THE GANG's NUMBERS. Blocks: the mutex, the group, the channel, the row; below B0 lies what is only read. base: who has left before. -/
structure Band where
  tM : TypeId
  tW : TypeId
  Mu : Nat
  Wg : Nat
  Ch : Nat
  C : Nat
  ety : TypeId
  B0 : Nat
  N : Nat
  J : Nat
  mn : Bool
  St : Nat → Prop
  deep : Bool
  z : Value
  nb : Nat
  sz : Nat
  row : (Nat → Bool) → Array Value
  put : Nat → Array Value → Array Value
  hMW : Mu ≠ Wg
  hMC : Mu ≠ C
  hWC : Wg ≠ C
  hMH : Mu ≠ Ch
  hWH : Wg ≠ Ch
  hCH : C ≠ Ch
  bM : Mu < B0
  bW : Wg < B0
  bH : Ch < B0
  bC : C < B0
  hN : 1 ≤ N
  hnb : nb ≤ 1000
  hrow : ∀ dn, (row dn).size = sz
  hput : ∀ dn j, j < J → put j (row dn) = row (fun x => if x = j then true else dn x)
  hfull : ∀ dn, (∀ j, j < J → dn j = true) → row dn = row (fun _ => true)
  hNb : N < 900
namespace Band
variable (K : Band)
/-- The gang's words: nobody touches them plainly. -/
def Shun (l : Loc) : Prop := ∃ ad, l = .cell ad ∧ (ad.block = K.Mu ∨ ad.block = K.Wg)
theorem sM (ad : Addr) (h : ad.block = K.Mu) : K.Shun (.cell ad) := ⟨ad, rfl, .inl h⟩
theorem sW (ad : Addr) (h : ad.block = K.Wg) : K.Shun (.cell ad) := ⟨ad, rfl, .inr h⟩
theorem nS {ad : Addr} (h1 : ad.block ≠ K.Mu) (h2 : ad.block ≠ K.Wg) : ¬ K.Shun (.cell ad) := by
  rintro ⟨x, hx, hb⟩
  cases hx
  exact hb.elim h1 h2
theorem sC (ad : Addr) (h : ad.block = K.C) : ¬ K.Shun (.cell ad) := K.nS (by rw [h]; exact K.hMC.symm) (by rw [h]; exact K.hWC.symm)
theorem sB (ad : Addr) (h : K.B0 ≤ ad.block) : ¬ K.Shun (.cell ad) := K.nS (by have := K.bM; omega) (by have := K.bW; omega)
theorem sO (b : Nat) : ¬ K.Shun (.obj b) := by rintro ⟨x, hx, _⟩; cases hx
end Band
section
variable (K : Band)
/-- The row holds cs. -/
def CAt (cs : Array Value) (w : World) : Prop := w.heap[K.C]? = some (.cells cs K.ety)
def HAt (closed : Bool) (w : World) : Prop := ∃ s r, w.heap[K.Ch]? = some (.chan 0 #[] closed s r false)
def SAt (s : Sh) (w : World) : Prop := MuAt K.tM K.Mu w s.mu.num s.ms ∧ WgAt K.tW K.Wg w ((s.v : Int) * KK + (s.wt.toNat : Int)) s.ws
structure Live (w : World) : Prop where
  sh : ∃ s, SAt K s w
  ch : ∃ c, HAt K c w
  row : ∃ cs : Array Value, CAt K cs w ∧ cs.size = K.sz
/-- A block that nobody turns: it lies low and is none of the four. -/
def Still (k : Nat) : Prop := k < K.B0 ∧ k ≠ K.Mu ∧ k ≠ K.Wg ∧ k ≠ K.Ch ∧ k ≠ K.C ∧ K.St k
/-- It owns the row. -/
def Th.owns (T : Th) : Bool := T.pc = .ur
/-- What one suffers. own: it owns the row; mine: a block of its own. -/
structure RB (own : Bool) (mine : List Nat) (w w₁ : World) : Prop where
  tape : w₁.tape = w.tape
  output : w₁.output = w.output
  size : w.heap.size ≤ w₁.heap.size
  os : OsLater w.os w₁.os
  still : ∀ k, Still K k → w₁.heap[k]? = w.heap[k]?
  mine : ∀ k, k ∈ mine → w₁.heap[k]? = w.heap[k]?
  live : Live K w → Live K w₁
  keep : own = true → w₁.heap[K.C]? = w.heap[K.C]?
end
section
variable {K : Band} {own : Bool} {mine : List Nat} {w w₁ w₂ : World}
theorem RB.refl (own : Bool) (mine : List Nat) (w : World) : RB K own mine w w := ⟨rfl, rfl, Nat.le_refl _, .refl _, fun _ _ => rfl, fun _ _ => rfl, id, fun _ => rfl⟩
theorem RB.trans (h : RB K own mine w w₁) (k : RB K own mine w₁ w₂) : RB K own mine w w₂ :=
  ⟨k.tape.trans h.tape, k.output.trans h.output, Nat.le_trans h.size k.size, h.os.trans k.os, fun b hb => (k.still b hb).trans (h.still b hb), fun b hb => (k.mine b hb).trans (h.mine b hb), fun l => k.live (h.live l), fun o => (k.keep o).trans (h.keep o)⟩
theorem RB.at (own : Bool) (mine : List Nat) (w : World) (d : Nat) : RB K own mine w (w.at d) := ⟨rfl, rfl, Nat.le_refl _, .refl _, fun _ _ => rfl, fun _ _ => rfl, fun h => ⟨h.sh, h.ch, h.row⟩, fun _ => rfl⟩
theorem SAt.of_block {s : Sh} (h : SAt K s w) (e1 : w₁.heap[K.Mu]? = w.heap[K.Mu]?) (e2 : w₁.heap[K.Wg]? = w.heap[K.Wg]?) : SAt K s w₁ := ⟨e1.trans h.1, e2.trans h.2⟩
theorem MuAt.uniq {ty : TypeId} {Mu : Nat} {a b c d : Int} (h : MuAt ty Mu w a b) (k : MuAt ty Mu w c d) : a = c ∧ b = d := by
  unfold MuAt at h k
  rw [h] at k
  simp only [muBlock, Option.some.injEq, Obj.cells.injEq, Array.mk.injEq, List.cons.injEq, Value.int.injEq, true_and, and_true] at k
  exact k
end
/-- How many of its 'disable's stand open. -/
def Th.deaf (T : Th) : Nat := match T.pc with
  | .rc | .bx | .ld | .la | .ur | .ud | .wr | .wk | .quit => 0
  | _ => 1
def Ps.deaf : Ps → Nat
  | .ga | .ge | .w1 | .w2 _ | .w3 | .w4 | .ke => 1
  | _ => 0
/-- Behind its release on the group: nothing of its own may count any more. -/
def Th.mute (T : Th) : Bool := match T.pc with
  | .wk | .d1 | .d2 | .d3 | .d4 | .quit => true
  | _ => false
section
variable (P : Program) (K : Band)
/-- What an idle step may list. -/
def EvT (boss : Bool) (mine : List Nat) (own : Bool) (sz : Nat) (e : Event) : Prop :=
  e.loc ≠ .mark .disable ∧ e.loc ≠ .mark .enable ∧ (∀ a, e.loc ≠ .mark (.release a)) ∧ (MemAct.ofEvent e).low sz ∧
    ∀ x, (MemAct.ofEvent e).touch? = some x → x.loc.isMemory = true ∧ ((K.Shun x.loc ∧ x.kind ≠ .plain ∧ (boss = false → x.kind ≠ .said)) ∨ (∃ ad, x.loc = .cell ad ∧ ad.block ∈ mine) ∨
      (∃ ad, x.loc = .cell ad ∧ Still K ad.block ∧ ¬ K.Shun x.loc ∧ x.write = false) ∨ (∃ ad, x.loc = .cell ad ∧ ad.block = K.C ∧ own = true))
/-- AN IDLE STEP. -/
structure DB (boss : Bool) (mine : List Nat) (own mute : Bool) (w w' : World) (es : Array Event) : Prop where
  tape : w'.tape = w.tape
  output : w'.output = w.output
  os : w'.os = w.os
  size : w'.heap.size = w.heap.size
  block : ∀ k, k ∉ mine → (own = true → k ≠ K.C) → w'.heap[k]? = w.heap[k]?
  row : own = true → (∃ cs, CAt K cs w ∧ cs.size = K.sz) → ∃ cs, CAt K cs w' ∧ cs.size = K.sz
  ev : ∀ e ∈ es, EvT K boss mine own w.heap.size e
  quiet : mute = true → es = #[]
/-- What a stop's step may do to the world: the mutex, the group; the clocks; a new block at a stop that makes one. -/
structure EffB (new : Bool) (w w' : World) : Prop where
  tape : w'.tape = w.tape
  output : w'.output = w.output
  size : w'.heap.size = w.heap.size + new.toNat
  os : OsLater w.os w'.os
  block : ∀ k, k < w.heap.size → k ≠ K.Mu → k ≠ K.Wg → w'.heap[k]? = w.heap[k]?
/-- Book-keeping. -/
def Book (d d' : Nat) (es : Array Event) : Prop := (∀ e ∈ es, Bk2 K.Mu K.Wg e) ∧ deafBehind d es = d' ∧ ∀ j e, es[j]? = some e → (MemAct.ofEvent e).touch? = none ∨ 0 < deafBehind d (es.extract 0 j)
/-- What a stop's step lists. -/
def EvW (T T' : Th) (w : World) (es : Array Event) : Prop :=
  match T.pc with
  | .la => es = #[mk (.acquire (muA K.Mu))]
  | .ur => es = #[mk (.releaseMerge (muA K.Mu))]
  | .wr => es = #[mk (.releaseMerge (stA K.Wg))]
  | .bx => T'.blk = w.heap.size :: T.blk ∧ es = #[]
  | _ => Book K T.deaf (if T'.pc = .quit then 1 else T'.deaf) es
def EvS (p p' : Ps) (es : Array Event) : Prop :=
  match p with
  | .aq => es = #[mk (.acquire (stA K.Wg))]
  | _ => Book K p.deaf p'.deaf es
/-- What the invariant says where one stands: so that it isn't thrown. -/
structure Fit (T : Th) (s : Sh) : Prop where
  lc : Lc T
  r2 : T.pc = .r2 → s.mu.S = true → s.mu.L = false ∧ s.mu.W = false ∧ s.mu.k ≠ 0
  u0 : T.pc = .u0 → s.mu.L = true
  a1 : T.pc = .a1 → s.mu.L = false ∧ s.mu.S = true ∧ s.mu.W = false ∧ s.mu.k ≠ 0
  d1 : T.pc = .d1 → 1 ≤ s.v ∧ s.ws = 0
  d2 : T.pc = .d2 ∨ T.pc = .d3 → s.v = 0 ∧ s.wt = true ∧ s.ws = 0
  d4 : T.pc = .d4 → s.v = 0 ∧ s.wt = false ∧ s.ws = 0
  us : T.pc = .us ∨ T.pc = .uh → s.ms = 0
  k : s.mu.k < 1000
  v : s.v ≤ 1000
  ms : s.ms ≤ 1
  ha : T.aw = true → T.pc.loop = true → s.mu.W = true ∧ s.mu.S = false
  hk : T.pc = .r2 → s.mu.S = false → s.mu.W = true
structure FitS (p : Ps) (s : Sh) : Prop where
  op : p.open = true → s.wt = false ∧ s.ws = 0
  w3 : p = .w3 → s.ws ≤ 1
  w4 : p.fin = true → s.v = 0 ∧ s.wt = false ∧ s.ws = 0
  v : s.v < 1000
/-- The job's number. -/
def jobV (j : Nat) : Value := .int .i64 (j : Int)
abbrev GoW (T : Th) (Nx : Goroutine → World → Prop) (m : Nat) (g : Goroutine) (w : World) : Prop := Goes P false (RB K T.owns T.blk) (DB K false T.blk T.owns T.mute) Nx m g w
abbrev GoS (Nx : Goroutine → World → Prop) (m : Nat) (g : Goroutine) (w : World) : Prop := Goes P K.mn (RB K false []) (DB K true [] false false) Nx m g w
/-- HOW A WORKER GOES ON BEHIND A STOP. -/
def AfterW (Nx : Th → Array Value → Goroutine → World → Prop) (T' : Th) (v : Array Value) (g' : Goroutine) (w' : World) : Prop :=
  if T'.pc = .quit then ∃ q, QuitsD P q 1 g' else ∃ m, GoW P K T' (Nx T' v) m g' w'
/-- ████ A WORKER's STOP. ████ -/
structure StpW (Nx : Th → Array Value → Goroutine → World → Prop) (T : Th) (v : Array Value) (g : Goroutine) (w : World) : Prop where
  run : g.status = .running
  off : g.offers = none
  wake : (T.pc = .us ∨ T.pc = .uh ∨ T.pc = .d4) → mayWake P g = true
  row : T.pc = .ur → CAt K v w
  rc : T.pc = .rc → stepG P false g w = .comm g #[rcase K.Ch K.z] true (.recv true) w #[] ∧
    (∀ j, j < K.J → ∀ w', RB K false [] w w' → AfterW P K Nx { pc := .bx, job := j, it := K.nb } v (Go.Conc.served g (recvd true (jobV j) true)) w') ∧ (∀ w', RB K false [] w w' → AfterW P K Nx { pc := .wr } v (Go.Conc.served g (recvd true K.z false)) w')
  block : T.pc = .s1 → ∀ s, SAt K s w → s.ms = 0 → stepG P false g w = .go { g with status := .blocked } w #[]
  go : T.pc ≠ .rc → ∀ s, SAt K s w → Fit T s → (T.pc = .s1 → s.ms ≠ 0) → ∀ cs, (T.pc = .la → CAt K cs w ∧ cs.size = K.sz) → ∃ T' s', Mw true T s T' s' ∧ ∃ g' w' es, stepG P false g w = .go g' w' es ∧ SAt K s' w' ∧ EffB K (decide (T.pc = .bx)) w w' ∧ EvW K T T' w es ∧
    AfterW P K Nx T' (if T.pc = .la then K.put T.job cs else v) g' w'
def AtWf : Nat → Th → Array Value → Goroutine → World → Prop
  | 0, _, _, _, _ => True
  | k + 1, T, v, g, w => StpW P K (AtWf k) T v g w
/-- Where the starter stands: with how many workers, how many jobs sent. -/
structure St where
  p : Ps
  n : Nat := 0
  sent : Nat := 0
def St.spawn (N J : Nat) (σ : St) : St := { σ with n := σ.n + 1, p := if σ.n + 1 < N then .gk else if 0 < J then .sn else .cl }
def St.hand (J : Nat) (σ : St) : St := { σ with sent := σ.sent + 1, p := if σ.sent + 1 < J then .sn else .cl }
/-- The row when all is done. -/
def full : Array Value := K.row fun _ => true
def AfterS (Fin : Goroutine → World → Prop) (Nx : St → Goroutine → World → Prop) (σ : St) (g' : Goroutine) (w' : World) : Prop :=
  if σ.p = .ret then CAt K (full K) w' → Fin g' w' else ∃ m, GoS P K (Nx σ) m g' w'
/-- ████ THE STARTER's STOP. ████ -/
structure StpS (Fin : Goroutine → World → Prop) (Nx : St → Goroutine → World → Prop) (NW : Th → Array Value → Goroutine → World → Prop) (σ : St) (g : Goroutine) (w : World) : Prop where
  run : g.status = .running
  off : g.offers = none
  spawn : σ.p = .go → ∃ g' child, stepG P K.mn g w = .spawn g' child w #[] ∧ child.status = .running ∧ (∀ v, ∃ m, GoW P K { pc := .rc } (NW { pc := .rc } v) m child w) ∧ AfterS P K Fin Nx (σ.spawn K.N K.J) g' w
  sn : σ.p = .sn → stepG P K.mn g w = .comm g #[scase K.Ch (jobV σ.sent) (.tuple #[])] true .send w #[] ∧ ∀ w', RB K false [] w w' → AfterS P K Fin Nx (σ.hand K.J) (Go.Conc.served g undef) w'
  cl : σ.p = .cl → mayWake P g = true ∧ ∀ s r, w.heap[K.Ch]? = some (.chan 0 #[] false s r false) → ∃ g' es, stepG P K.mn g w = .go g' (w.setChan K.Ch 0 #[] true s r false) es ∧ g'.status = .running ∧ (∀ e ∈ es, (∀ x, (MemAct.ofEvent e).touch? = some x → x.loc = .obj K.Ch) ∧ (∀ m, e.loc ≠ .mark m) ∧ (MemAct.ofEvent e).low w.heap.size) ∧ AfterS P K Fin Nx { σ with p := .kd } g' (w.setChan K.Ch 0 #[] true s r false)
  block : σ.p = .w3 → ∀ s, SAt K s w → s.ws = 0 → stepG P K.mn g w = .go { g with status := .blocked } w #[]
  go : σ.p ≠ .go → σ.p ≠ .sn → σ.p ≠ .cl → σ.p ≠ .ret → ∀ s, SAt K s w → FitS σ.p s → (σ.p = .w3 → s.ws ≠ 0) → ∃ p' s', Ms σ.p s p' s' ∧ ∃ g' w' es, stepG P K.mn g w = .go g' w' es ∧ SAt K s' w' ∧ EffB K false w w' ∧ EvS K σ.p p' es ∧ AfterS P K Fin Nx { σ with p := p' } g' w'
def AtSf (Fin : Goroutine → World → Prop) : Nat → St → Goroutine → World → Prop
  | 0, _, _, _ => True
  | k + 1, σ, g, w => StpS P K Fin (AtSf Fin k) (AtWf P K k) σ g w
end
/-- ████ HERE A WORKER BEGINS A GANG OF HIS OWN (within which nobody begins one). ████ Behind it he stands as T'. -/
def Begin (P : Program) (K : Band) (Nx : Th → Array Value → Goroutine → World → Prop) (T : Th) (v : Array Value) (g : Goroutine) (w : World) : Prop :=
  ∃ (K1 : Band) (p : Pc) (n : Nat) (bl : List Nat), K1.mn = false ∧ K1.deep = false ∧ n < T.it ∧ (p = .bx ∨ p = .ld) ∧ (K1.Mu ∈ T.blk ∧ K1.Wg ∈ T.blk ∧ K1.Ch ∈ T.blk ∧ K1.C ∈ T.blk) ∧ (∀ b, b ∈ bl → b ∈ T.blk ∧ b ≠ K1.Mu ∧ b ≠ K1.Wg) ∧ (∀ k, Still K1 k → k ∈ T.blk) ∧
    K1.B0 ≤ w.heap.size ∧ SAt K1 ⟨.zero, 0, 0, false, 0⟩ w ∧ HAt K1 false w ∧ CAt K1 (K1.row fun _ => false) w ∧ g.status = .running ∧ g.offers = none ∧
    ∀ k, ∃ m, GoS P K1 (AtSf P K1 (fun g' w' => RB K false [] w w' → AfterW P K Nx { pc := p, it := if p = .bx then n else 0, job := T.job, blk := bl } v g' w') k ⟨.gk, 0, 0⟩) m g w
section
variable (P : Program) (K : Band)
def AtW : Nat → Th → Array Value → Goroutine → World → Prop
  | 0, _, _, _, _ => True
  | k + 1, T, v, g, w => StpW P K (AtW k) T v g w ∨ (T.pc = .bx ∧ K.deep = true ∧ Begin P K (AtW k) T v g w)
def AtS (Fin : Goroutine → World → Prop) : Nat → St → Goroutine → World → Prop
  | 0, _, _, _ => True
  | k + 1, σ, g, w => StpS P K Fin (AtS Fin k) (AtW P K k) σ g w
end
section
variable {P : Program} {K : Band}
theorem goes_mono_stop {main : Bool} {R : World → World → Prop} {D : World → World → Array Event → Prop} {S S' : Goroutine → World → Prop} (h : ∀ g w, S g w → S' g w) : ∀ {n : Nat} {g : Goroutine} {w : World}, Goes P main R D S n g w → Goes P main R D S' n g w
  | 0, _, _, x => fun w₁ r => h _ _ (x w₁ r)
  | n + 1, g, w, x => by
    rcases x with x | ⟨hr, x⟩
    · exact .inl fun w₁ r => h _ _ (x w₁ r)
    · refine .inr ⟨hr, fun w₁ r => ?_⟩
      have := x w₁ r
      revert this
      cases stepG P main g w₁ <;> simp only [GStep.goes, imp_self]
      exact fun ⟨d, y⟩ => ⟨d, goes_mono_stop h y⟩
theorem AfterW.mono {Nx Ny : Th → Array Value → Goroutine → World → Prop} (h : ∀ T v g w, Nx T v g w → Ny T v g w) {T : Th} {v : Array Value} {g : Goroutine} {w : World} (x : AfterW P K Nx T v g w) : AfterW P K Ny T v g w := by
  unfold AfterW at x ⊢
  split at x
  · rename_i hq; rw [if_pos hq]; exact x
  · rename_i hq
    rw [if_neg hq]
    obtain ⟨m, hm⟩ := x
    exact ⟨m, goes_mono_stop (fun g w => h T v g w) hm⟩
theorem StpW.mono {Nx Ny : Th → Array Value → Goroutine → World → Prop} (h : ∀ T v g w, Nx T v g w → Ny T v g w) {T : Th} {v : Array Value} {g : Goroutine} {w : World} (x : StpW P K Nx T v g w) : StpW P K Ny T v g w :=
  ⟨x.run, x.off, x.wake, x.row, fun e => ⟨(x.rc e).1, fun j hj w' r => ((x.rc e).2.1 j hj w' r).mono h, fun w' r => ((x.rc e).2.2 w' r).mono h⟩, x.block, fun e s hs hf hm cs hc => by
    obtain ⟨T', s', hmv, g', w', es, h1, h2, h3, h4, h5⟩ := x.go e s hs hf hm cs hc
    exact ⟨T', s', hmv, g', w', es, h1, h2, h3, h4, h5.mono h⟩⟩
theorem AfterS.mono {Fin Fin' : Goroutine → World → Prop} {Nx Ny : St → Goroutine → World → Prop} (hF : ∀ g w, Fin g w → Fin' g w) (h : ∀ σ g w, Nx σ g w → Ny σ g w) {σ : St} {g : Goroutine} {w : World} (x : AfterS P K Fin Nx σ g w) : AfterS P K Fin' Ny σ g w := by
  unfold AfterS at x ⊢
  split at x
  · rename_i hq; rw [if_pos hq]; exact fun hc => hF _ _ (x hc)
  · rename_i hq
    rw [if_neg hq]
    obtain ⟨m, hm⟩ := x
    exact ⟨m, goes_mono_stop (fun g w => h σ g w) hm⟩
theorem StpS.mono {Fin Fin' : Goroutine → World → Prop} {Nx Ny : St → Goroutine → World → Prop} {NW : Th → Array Value → Goroutine → World → Prop} (hF : ∀ g w, Fin g w → Fin' g w) (h : ∀ σ g w, Nx σ g w → Ny σ g w) {σ : St} {g : Goroutine} {w : World} (x : StpS P K Fin Nx NW σ g w) : StpS P K Fin' Ny NW σ g w :=
  ⟨x.run, x.off, fun e => by
    obtain ⟨g', child, h1, h2, h3, h4⟩ := x.spawn e
    exact ⟨g', child, h1, h2, h3, h4.mono hF h⟩, fun e => ⟨(x.sn e).1, fun w' r => ((x.sn e).2 w' r).mono hF h⟩, fun e => ⟨(x.cl e).1, fun s r hc => by
    obtain ⟨g', es, h1, h2, h3, h4⟩ := (x.cl e).2 s r hc
    exact ⟨g', es, h1, h2, h3, h4.mono hF h⟩⟩, x.block, fun e1 e2 e3 e4 s hs hf hm => by
    obtain ⟨p', s', hmv, g', w', es, h1, h2, h3, h4, h5⟩ := x.go e1 e2 e3 e4 s hs hf hm
    exact ⟨p', s', hmv, g', w', es, h1, h2, h3, h4, h5.mono hF h⟩⟩
theorem AtSf.mono {Fin Fin' : Goroutine → World → Prop} (hF : ∀ g w, Fin g w → Fin' g w) : ∀ {k : Nat} {σ : St} {g : Goroutine} {w : World}, AtSf P K Fin k σ g w → AtSf P K Fin' k σ g w
  | 0, _, _, _, _ => trivial
  | k + 1, _, _, _, x => StpS.mono (Nx := AtSf P K Fin k) (Ny := AtSf P K Fin' k) hF (fun _ _ _ y => AtSf.mono hF y) x
theorem Begin.mono {Nx Ny : Th → Array Value → Goroutine → World → Prop} (h : ∀ T v g w, Nx T v g w → Ny T v g w) {T : Th} {v : Array Value} {g : Goroutine} {w : World} (x : Begin P K Nx T v g w) : Begin P K Ny T v g w := by
  obtain ⟨K1, p, n, bl, a1, a2, a3, a4, a5, a6, a7, a8, a9, a10, a11, a12, a13, a14⟩ := x
  refine ⟨K1, p, n, bl, a1, a2, a3, a4, a5, a6, a7, a8, a9, a10, a11, a12, a13, fun k => ?_⟩
  obtain ⟨m, hm⟩ := a14 k
  exact ⟨m, goes_mono_stop (fun g w => AtSf.mono fun g w x r => AfterW.mono h (x r)) hm⟩
theorem Begin.run {Nx : Th → Array Value → Goroutine → World → Prop} {T : Th} {v : Array Value} {g : Goroutine} {w : World} (x : Begin P K Nx T v g w) : g.status = .running ∧ g.offers = none := by
  obtain ⟨K1, p, n, bl, a1, a2, a3, a4, a5, a6, a7, a8, a9, a10, a11, a12, a13, a14⟩ := x
  exact ⟨a12, a13⟩
theorem atW_flat (h : K.deep = false) : AtW P K = AtWf P K := by
  funext k
  induction k with
  | zero => rfl
  | succ k ih =>
    funext T v g w
    simp only [AtW, AtWf, ih, h]
    simp
theorem atS_flat (h : K.deep = false) (Fin : Goroutine → World → Prop) : AtS P K Fin = AtSf P K Fin := by
  funext k
  induction k with
  | zero => rfl
  | succ k ih =>
    funext σ g w
    simp only [AtS, AtSf, ih, atW_flat h]
end
end Go.Proofs.Ytapjmifhhbpikaa

/- Gangs within gangs: what the automaton says of a move; a worker's move. -/
import Derived.Test.YtapjmifhhbpikaaVn
set_option linter.unusedVariables false
set_option linter.unusedSimpArgs false
namespace Go.Proofs.Ytapjmifhhbpikaa
open Go.Conc Go.ConcN Go.ConcM
open Go.ConcR (KK wgBlock WgAt stA smA rd wr g_of_ofEvents ofEvent_loc_mark ofEvent_cell ofEvent_mk loc_of_ofEvent again_blocked)
/-! ### what the automaton says of a move -/
theorem mw_any {T T' : Th} {s s' : Sh} {cl : Bool} (h : Mw true T s T' s') (hp : T.pc ≠ .rc) : Mw cl T s T' s' := by
  cases h with
  | mu h => exact .mu h
  | rw h _ => exact absurd h hp
  | bx b p n h hn hp => exact .bx b p n h hn hp
  | wr h => exact .wr h
  | wk h => exact .wk h
  | d1l h a b => exact .d1l h a b
  | d1q h a => exact .d1q h a
  | d2 h => exact .d2 h
  | d3 h => exact .d3 h
  | d4 h => exact .d4 h
structure Edge (T T' : Th) (s s' : Sh) : Prop where
  la : T.pc = .la → T' = { T with pc := .ur } ∧ s' = s
  to : T'.pc = .ur → T.pc = .la
  ur : T.pc = .ur → T' = { T with pc := .ud } ∧ s' = s
  wr : T.pc = .wr → T' = { pc := .wk } ∧ s' = s
  mute : T'.mute = true → T.mute = true ∨ T.pc = .wr
  bx : T.pc = .bx → s' = s ∧ (T'.pc = .bx ∨ T'.pc = .ld)
  blk : T.pc ≠ .bx → T'.blk = T.blk ∨ T'.blk = []
  ms : s.ms = 0 → s'.ms = 0 ∨ T.pc = .us ∨ T.pc = .uh
  ws : s.ws = 0 → s'.ws = 0 ∨ T.pc = .d4
  nq : T.pc ≠ .quit
  keep : T.mute = true → T'.mute = true
theorem hd_edge (T : Th) : (hd T).pc ≠ .ur ∧ (hd T).mute = false ∧ (hd T).blk = T.blk := by
  rcases hd_pc T with ⟨hp, -⟩ | ⟨hp, -⟩ <;> exact ⟨by rw [hp]; simp, by simp [Th.mute, hp], rfl⟩
theorem edge_of {T T' : Th} {s s' : Sh} {cl : Bool} (h : Mw cl T s T' s') : Edge T T' s s' := by
  cases h with
  | mu h =>
    cases h with
    | r0 hp => have := hd_edge { T with old := s.mu }; exact ⟨by simp [hp], fun e => absurd e this.1, by simp [hp], by simp [hp], fun e => (by rw [this.2.1] at e; cases e), by simp [hp], fun _ => .inl this.2.2, fun h => .inl h, fun h => .inl h, by simp [hp], by simp [Th.mute, hp]⟩
    | r1 hp => have := hd_edge { T with old := s.mu, it := T.it + 1 }; exact ⟨by simp [hp], fun e => absurd e this.1, by simp [hp], by simp [hp], fun e => (by rw [this.2.1] at e; cases e), by simp [hp], fun _ => .inl this.2.2, fun h => .inl h, fun h => .inl h, by simp [hp], by simp [Th.mute, hp]⟩
    | r3 hp => have := hd_edge { T with old := s.mu }; exact ⟨by simp [hp], fun e => absurd e this.1, by simp [hp], by simp [hp], fun e => (by rw [this.2.1] at e; cases e), by simp [hp], fun _ => .inl this.2.2, fun h => .inl h, fun h => .inl h, by simp [hp], by simp [Th.mute, hp]⟩
    | r2n hp => have := hd_edge { T with old := s.mu, aw := true, it := 0 }; exact ⟨by simp [hp], fun e => absurd e this.1, by simp [hp], by simp [hp], fun e => (by rw [this.2.1] at e; cases e), by simp [hp], fun _ => .inl this.2.2, fun h => .inl h, fun h => .inl h, by simp [hp], by simp [Th.mute, hp]⟩
    | c2q p hp h1 h2 h3 => rcases h3 with rfl | rfl <;> constructor <;> simp_all [Th.mute]
    | s1 p hp h1 h2 => rcases h2 with rfl | rfl <;> constructor <;> simp_all [Th.mute]
    | _ => constructor <;> simp_all [Th.mute]
  | bx b p n hp hn hpp =>
    rcases hpp with rfl | rfl
    · exact ⟨by simp [hp], by simp, by simp [hp], by simp [hp], by simp [Th.mute], fun _ => ⟨rfl, .inl rfl⟩, fun e => absurd hp e, fun h => .inl h, fun h => .inl h, by simp [hp], by simp [Th.mute, hp]⟩
    · exact ⟨by simp [hp], by simp, by simp [hp], by simp [hp], by simp [Th.mute], fun _ => ⟨rfl, .inr rfl⟩, fun e => absurd hp e, fun h => .inl h, fun h => .inl h, by simp [hp], by simp [Th.mute, hp]⟩
  | _ => constructor <;> simp_all [Th.mute]
theorem sum_le1 {f : Nat → Nat} (h : ∀ i, f i ≤ 1) (n : Nat) : sumTo n f ≤ n := by
  have := sum_le h n
  omega
theorem ind_le (T : Th) : isQ T ≤ 1 ∧ isC T ≤ 1 := by
  constructor
  · unfold isQ; split <;> simp
  · unfold isC; split <;> simp
/-- What the invariant says where a worker stands. -/
theorem fit_of {N J : Nat} {G : GS} (h : Ok N J G) (hN : N < 900) {i : Nat} (hi : i < G.n) : Fit (G.D i) G.s := by
  have hq := sum_le1 (f := fun x => isQ (G.D x)) (fun x => (ind_le _).1) G.n
  have hc := sum_le1 (f := fun x => isC (G.D x)) (fun x => (ind_le _).2) G.n
  have lO := le_sumTo (f := fun x => isO (G.D x)) hi
  have lK := le_sumTo (f := fun x => isK (G.D x)) hi
  have lH := le_sumTo (f := fun x => isH (G.D x)) hi
  have lU := le_sumTo (f := fun x => isU (G.D x)) hi
  have lX := le_sumTo (f := fun x => isX (G.D x)) hi
  have lC := le_sumTo (f := fun x => isC (G.D x)) hi
  have lL := le_sumTo (f := fun x => isL (G.D x)) hi
  have lM := le_sumTo (f := fun x => isM (G.D x)) hi
  have lB := sum_but (f := fun x => isL (G.D x)) (g := fun x => isM (G.D x)) (fun x => isM_le _) hi
  have hle := h.le
  have hmu := h.mu
  have hwg := h.wg
  have hW : G.s.mu.W.toNat ≤ 1 := by cases G.s.mu.W <;> simp
  have hLb : G.s.mu.L.toNat ≤ 1 := by cases G.s.mu.L <;> simp
  have L0 : G.s.mu.L.toNat = 0 → G.s.mu.L = false := by cases G.s.mu.L <;> simp
  have L1 : 1 ≤ G.s.mu.L.toNat → G.s.mu.L = true := by cases G.s.mu.L <;> simp
  have T1 : 1 ≤ G.s.wt.toNat → G.s.wt = true := by cases G.s.wt <;> simp
  have T0 : G.s.wt.toNat = 0 → G.s.wt = false := by cases G.s.wt <;> simp
  have pn : G.p.pend ≤ 1 := by cases G.p <;> simp [Ps.pend]
  have hpk : G.s.mu.k < 1000 ∧ G.s.ms ≤ 1 := by
    cases hS : G.s.mu.S with
    | true => have := hmu.st hS; omega
    | false => have := hmu.no hS; omega
  have hcase : G.p.open = true ∨ G.p = .w3 ∨ G.p.fin = true := by cases G.p <;> simp [Ps.open, Ps.fin]
  have hv : G.s.v ≤ 1000 := by
    rcases hcase with e | e | e
    · have := hwg.1 e; omega
    · have := hwg.2.1 e; omega
    · have := hwg.2.2 e; omega
  refine ⟨hmu.loc i hi, fun hp hS => ?_, fun hp => ?_, fun hp => ?_, fun hp => ?_, fun hp => ?_, fun hp => ?_, fun hp => ?_, hpk.1, hv, hpk.2, fun ha hl => ?_, fun hp hS => ?_⟩
  · have e : isK (G.D i) = 1 := by simp [isK, hp]
    rw [e] at lK
    have := hmu.st hS
    exact ⟨L0 (by omega), this.1, by omega⟩
  · have e : isO (G.D i) = 1 := by simp [isO, hp]
    rw [e] at lO
    cases hS : G.s.mu.S with
    | true => have := hmu.st hS; exact L1 (by omega)
    | false => have := hmu.no hS; exact L1 (by omega)
  · have e : isH (G.D i) = 1 := by simp [isH, hp]
    rw [e] at lH
    cases hS : G.s.mu.S with
    | true => have := hmu.st hS; exact ⟨L0 (by omega), rfl, this.1, by omega⟩
    | false => have := hmu.no hS; omega
  · have e : isC (G.D i) = 1 := by simp [isC, hp]
    rw [e] at lC
    rcases hcase with e | e | e
    · have := hwg.1 e; omega
    · have := hwg.2.1 e; omega
    · have := hwg.2.2 e; omega
  · have e1 : isL (G.D i) = 1 := by rcases hp with hp | hp <;> simp [isL, hp]
    have e2 : isM (G.D i) = 1 := by rcases hp with hp | hp <;> simp [isM, hp]
    rw [e1] at lL
    rw [e2] at lM
    rcases hcase with e | e | e
    · have := hwg.1 e; omega
    · have := hwg.2.1 e
      have c0 : (sumTo G.n fun i => isC (G.D i)) = 0 := by omega
      have := this.2.2.2.2 c0
      exact ⟨by omega, T1 (by omega), by omega⟩
    · have := hwg.2.2 e; omega
  · have e1 : isL (G.D i) = 1 := by simp [isL, hp]
    have e2 : isM (G.D i) = 0 := by simp [isM, hp]
    rw [e1] at lL lB
    rw [e2] at lB
    rcases hcase with e | e | e
    · have := hwg.1 e; omega
    · have := hwg.2.1 e
      have c0 : (sumTo G.n fun i => isC (G.D i)) = 0 := by omega
      have := this.2.2.2.2 c0
      exact ⟨by omega, T0 (by omega), by omega⟩
    · have := hwg.2.2 e; omega
  · cases hS : G.s.mu.S with
    | true =>
      have := hmu.st hS
      rcases hp with hp | hp
      · have e : isU (G.D i) = 1 := by simp [isU, hp]
        omega
      · have e : isX (G.D i) = 1 := by simp [isX, hp]
        omega
    | false =>
      have := hmu.no hS
      rcases hp with hp | hp
      · have e : isU (G.D i) = 1 := by simp [isU, hp]
        omega
      · have e : isX (G.D i) = 1 := by simp [isX, hp]
        omega
  · have lA := le_sumTo (f := fun x => isA (G.D x)) hi
    have e : isA (G.D i) = 1 := by simp [isA, ha, hl]
    rw [e] at lA
    cases hS : G.s.mu.S with
    | true => have := hmu.st hS; omega
    | false =>
      have := hmu.no hS
      refine ⟨?_, rfl⟩
      cases hw : G.s.mu.W with
      | true => rfl
      | false => rw [hw] at this; simp at this; omega
  · have e : isK (G.D i) = 1 := by simp [isK, hp]
    rw [e] at lK
    have := hmu.no hS
    cases hw : G.s.mu.W with
    | true => rfl
    | false => rw [hw] at this; simp at this; omega
theorem fitS_of {N J : Nat} {G : GS} (h : Ok N J G) (hN : N < 900) : FitS G.p G.s := by
  have hc := sum_le1 (f := fun x => isC (G.D x)) (fun x => (ind_le _).2) G.n
  have hle := h.le
  have pn : G.p.pend ≤ 1 := by cases G.p <;> simp [Ps.pend]
  have hcase : G.p.open = true ∨ G.p = .w3 ∨ G.p.fin = true := by cases G.p <;> simp [Ps.open, Ps.fin]
  refine ⟨fun e => ?_, fun e => ?_, fun e => ?_, ?_⟩
  · have := h.wg.1 e; exact ⟨this.2.1, this.2.2.1⟩
  · have := h.wg.2.1 e; omega
  · have := h.wg.2.2 e; exact ⟨this.1, this.2.1, this.2.2.1⟩
  · rcases hcase with e | e | e
    · have := h.wg.1 e; omega
    · have := h.wg.2.1 e; omega
    · have := h.wg.2.2 e; omega
section
variable {P : Program} {K : Band} {c : Nat} {id : Nat → Nat} {Fin : Goroutine → World → Prop} {S S' : TG} {G G' : GS} {gs : Array Goroutine} {gf gf' : Nat → Goroutine} {w w' w₁ : World} {sl : Option (Nat × Nat)} {vs : Nat → Array Value} {ks M M' : Nat → Nat} {kb : Nat} {t t' u : Trace} {ng ng' : Nat} {g' : Goroutine} {es : Array Event}
theorem putDn_other (dn : Nat → Bool) {T : Th} (h : T.pc ≠ .ur) : putDn dn T = dn := by
  funext j
  unfold putDn
  rw [if_neg (fun e => h e.1)]
theorem putDn_ur (dn : Nat → Bool) {T : Th} (h : T.pc = .ur) : putDn dn T = fun x => if x = T.job then true else dn x := by
  funext j
  unfold putDn
  simp [h]
theorem owns_iff (T : Th) : T.owns = true ↔ T.pc = .ur := by simp [Th.owns]
/-- A worker behind its stop. -/
theorem after_sit {T' : Th} {v : Array Value} {k d : Nat} (hd : d = if T'.pc = .quit then 1 else T'.deaf) (hA : AfterW P K (AtW P K (k + 1)) T' v g' w') : ∃ m, SitW P K G' T' v k m d g' w' ∧ g'.status = .running := by
  unfold AfterW at hA
  split at hA
  · rename_i hq
    obtain ⟨q, hQ⟩ := hA
    rw [if_pos hq] at hd
    subst hd
    exact ⟨q, .inr (.inr (.inr (.inr ⟨hq, hQ⟩))), quitsD_running hQ⟩
  · rename_i hq
    obtain ⟨m, hm⟩ := hA
    rw [if_neg hq] at hd
    exact ⟨m, .inl ⟨hq, hd, hm⟩, hm.running⟩
theorem deaf_word {z : MemOp} (g : Nat) (h1 : z.act ≠ .mark .disable) (h2 : z.act ≠ .mark .enable) : Deaf (t ++ #[z]) g = Deaf t g :=
  Go.ConcN.Deaf_still t g #[z] fun op hop => by simp at hop; subst hop; exact ⟨h1, h2⟩
theorem bk2_act {e : Event} {sz : Nat} (h : Bk2 K.Mu K.Wg e) (hB : K.B0 ≤ sz) : (∀ a, MemAct.ofEvent e ≠ .mark (.release a)) ∧ (MemAct.ofEvent e).low sz ∧
    ∀ x, (MemAct.ofEvent e).touch? = some x → (∃ b, locB x.loc = some b ∧ (b = K.Mu ∨ b = K.Wg)) ∧ x.kind = .atomic := by
  rcases h with h1 | h1 | ⟨a, x, rfl, ha⟩
  · rw [ofEvent_loc_mark h1]; exact ⟨by simp, trivial, fun x hx => by cases hx⟩
  · rw [ofEvent_loc_mark h1]; exact ⟨by simp, trivial, fun x hx => by cases hx⟩
  · rw [ofEvent_cell]
    refine ⟨by simp, ?_, fun y hy => ?_⟩
    · show a.block < sz
      have := K.bM; have := K.bW
      rcases ha with ha | ha <;> rw [ha] <;> omega
    · simp only [MemAct.touch?, Option.some.injEq] at hy
      subst hy
      exact ⟨⟨a.block, rfl, ha⟩, rfl⟩
/-- BOOK-KEEPING, in the trace. -/
theorem TR.book (R : TR S t ng) (hK : Blks K c S) (hB : K.B0 ≤ S.sz) (ha : S.act c) {y d d' : Nat} (hy : y < ng) (hm : S.mem c y) (hd : Deaf t y = d) (hb : Book K d d' es) (fn : FuncId) (pos : String) : TR S (t ++ MemOp.ofEvents y fn pos es) ng := by
  refine R.ops hy (fun op hop => ?_) fun q hq hh => ?_
  · obtain ⟨e, he, rfl⟩ := Go.Conc.mem_ofEvents hop
    obtain ⟨h1, h2, h3⟩ := bk2_act (hb.1 e he) hB
    refine ⟨rfl, h2, h1, fun x hx => ?_⟩
    obtain ⟨⟨b, hbx, hbM⟩, hk⟩ := h3 x hx
    refine .inr ⟨b, hbx, ?_⟩
    have hcl : S.cl b = .sh c := by rcases hbM with e | e <;> rw [e]; exact hK.M; exact hK.W
    rw [hcl]
    exact ⟨hm, by rw [hk]; simp, by rw [hk]; simp⟩
  · obtain ⟨x, hx, hmm, hcase⟩ := hh
    obtain ⟨op, hop, hox⟩ := touch_of hx
    rw [ofEvents_eq] at hop
    rw [Array.getElem?_append_right hq, Array.getElem?_map] at hop
    obtain ⟨e, he, rfl⟩ := Option.map_eq_some_iff.1 hop
    obtain ⟨⟨b, hbx, hbM⟩, hk⟩ := (bk2_act (hb.1 e (Array.mem_of_getElem? he)) hB).2.2 x hox
    have hcl : S.cl b = .sh c := by rcases hbM with e | e <;> rw [e]; exact hK.M; exact hK.W
    have hsh : S.shish x.loc := ⟨b, hbx, .inl ⟨c, hcl⟩⟩
    have hhd := hcase.resolve_left fun h => h ⟨hsh, hk⟩
    obtain ⟨g, hg, hdf⟩ := hhd
    have hjs : q - t.size < es.size := (Array.getElem?_eq_some_iff.1 he).1
    have hop' : (t ++ MemOp.ofEvents y fn pos es)[q]? = some { g := y, fn := fn, pos := pos, act := MemAct.ofEvent e } := by
      rw [ofEvents_eq, Array.getElem?_append_right hq, Array.getElem?_map, he]; rfl
    have hgy : g = y := by
      have : (t ++ MemOp.ofEvents y fn pos es).g? q = some y := by simp [Trace.g?, hop']
      rw [this] at hg; exact (Option.some.inj hg).symm
    subst hgy
    have hin := deaf_inside t g fn pos es (q - t.size) (Nat.le_of_lt hjs)
    rw [show t.size + (q - t.size) = q by omega, hdf] at hin
    rcases hb.2.2 _ _ he with h0 | h0
    · rw [hox] at h0; cases h0
    · rw [hd] at hin; omega
/-- What a worker's move does to the trace's book. -/
structure MoveT (c y : Nat) (S S' : TG) (w' : World) (T' : Th) (d : Nat) : Prop where
  sz : S'.sz = w'.heap.size
  dw : d = if T'.pc = .quit then 1 else T'.deaf
  cl : ∀ k, k < S.sz → S'.cl k = S.cl k
  act : S'.act = S.act
  wk : S'.wk = S.wk
  mute : ∀ z, z ≠ y → (S'.mute z ↔ S.mute z)
  muI : S'.mute y ↔ T'.mute = true
  tok : ∀ c', c' ≠ c → S'.tok c' = S.tok c'
  adr : S'.mA = S.mA ∧ S'.wA = S.wA
  blk : ∀ b, b ∈ T'.blk → b < w'.heap.size ∧ S'.cl b = .own y
set_option maxHeartbeats 1600000 in
theorem moveT (R : TR S t ng) (h : Cx P K c id Fin S G gf w vs ks kb M t ng) (hwkI : ∀ c' i, i < G.n → S.wk c' (id i) → c' = c) {i : Nat} (hi : i < G.n) (hna : ¬ S.act (id i)) (hd : Deaf t (id i) = (G.D i).deaf) {T' : Th} {s' : Sh} (E : Edge (G.D i) T' G.s s') (heff : EffB K (decide ((G.D i).pc = .bx)) w w') (hev : EvW K (G.D i) T' w es) (fn : FuncId) (pos : String) :
    ∃ S', TR S' (t ++ MemOp.ofEvents (id i) fn pos es) ng ∧ MoveT c (id i) S S' w' T' (Deaf (t ++ MemOp.ofEvents (id i) fn pos es) (id i)) ∧
      (∀ k, k < G.n → ((G.work i T' s').D k).owns = true → S'.tok c = some (id k)) ∧ (∀ y, S'.tok c = some y → ∃ k, k < G.n ∧ ((G.work i T' s').D k).owns = true ∧ y = id k) := by
  obtain ⟨hy, hyc, hy0⟩ := h.idL hi
  have hK := h.bl
  have Dsame : (G.work i T' s').D i = T' := upd_same _ _ _
  have Dne : ∀ k, k ≠ i → (G.work i T' s').D k = G.D k := fun k hk => upd_ne _ _ hk
  have hB := h.B
  have hs0 := h.sz
  have bM := K.bM
  have bW := K.bW
  have hmu0 : (G.D i).pc ≠ .wr → (S.mute (id i) ↔ T'.mute = true) := fun hwr => by
    rw [h.mu i hi]
    exact ⟨E.keep, fun e => (E.mute e).resolve_right hwr⟩
  have old : ∀ b, b ∈ (G.D i).blk → b < w.heap.size ∧ S.cl b = .own (id i) := fun b hb => (h.mine hi hna b hb).symm
  by_cases hla : (G.D i).pc = .la
  · have ho : S.tok c = none := by
      cases ho : S.tok c with
      | none => rfl
      | some y =>
        obtain ⟨k, hk, hk1, _⟩ := h.ow' y ho
        have h1 : isO (G.D k) = 1 := by simp [isO, (owns_iff _).1 hk1]
        have h2 : isO (G.D i) = 1 := by simp [isO, hla]
        have := one_owner h.ok.mu hk hi h1 h2
        subst this
        rw [(owns_iff _).1 hk1] at hla; cases hla
    have hes : es = #[Go.ConcR.mk (.acquire (muA K.Mu))] := by simpa [EvW, hla] using hev
    have hT := (E.la hla).1
    have hsz : w'.heap.size = w.heap.size := by have := heff.size; simp [hla] at this; exact this
    subst hes
    have hd0 : Deaf t (id i) = 0 := by rw [hd]; simp [Th.deaf, hla]
    rw [ofEvents_mk]
    refine ⟨{ S with tok := upd S.tok c (some (id i)) }, R.acq (z := { g := id i, fn := fn, pos := pos, act := .mark (.acquire (muA K.Mu)) }) hy (h.memL hi (by simp [Th.mute, hla])) hd0 ho (by rw [h.adr.1]) (by rw [h.adr.1]; show K.Mu < _; omega), ?_, fun k hk hk1 => ?_, fun y hy => ?_⟩
    · refine ⟨by rw [hsz]; exact hs0, ?_, fun _ _ => rfl, rfl, rfl, fun _ _ => .rfl, hmu0 (by rw [hla]; simp), fun c' hc' => upd_ne _ _ hc', ⟨rfl, rfl⟩, fun b hb => ?_⟩
      · rw [deaf_word _ (by simp) (by simp), hd0, hT]; simp [Th.deaf]
      · rw [hsz]; rw [hT] at hb; exact old b hb
    · show upd S.tok c _ c = _
      rw [upd_same]
      by_cases e : k = i
      · rw [e]
      · rw [Dne k e] at hk1
        have := h.ow k hk hk1
        rw [ho] at this; cases this
    · have hy' : upd S.tok c (some (id i)) c = some y := hy
      rw [upd_same] at hy'
      cases hy'
      exact ⟨i, hi, by rw [Dsame, hT]; simp [Th.owns], rfl⟩
  by_cases hur : (G.D i).pc = .ur
  · have ho := h.ow i hi ((owns_iff _).2 hur)
    have hes : es = #[Go.ConcR.mk (.releaseMerge (muA K.Mu))] := by simpa [EvW, hur] using hev
    have hT := (E.ur hur).1
    have hsz : w'.heap.size = w.heap.size := by have := heff.size; simp [hur] at this; exact this
    subst hes
    have hd0 : Deaf t (id i) = 0 := by rw [hd]; simp [Th.deaf, hur]
    rw [ofEvents_mk]
    refine ⟨{ S with tok := upd S.tok c none }, R.unlock (z := { g := id i, fn := fn, pos := pos, act := .mark (.releaseMerge (muA K.Mu)) }) hy hd0 ho (by rw [h.adr.1]) (by rw [h.adr.1]; show K.Mu < _; omega), ?_, fun k hk hk1 => ?_, fun y hy => ?_⟩
    · refine ⟨by rw [hsz]; exact hs0, ?_, fun _ _ => rfl, rfl, rfl, fun _ _ => .rfl, hmu0 (by rw [hur]; simp), fun c' hc' => upd_ne _ _ hc', ⟨rfl, rfl⟩, fun b hb => ?_⟩
      · rw [deaf_word _ (by simp) (by simp), hd0, hT]; simp [Th.deaf]
      · rw [hsz]; rw [hT] at hb; exact old b hb
    · by_cases e : k = i
      · subst e; rw [Dsame, hT] at hk1; simp [Th.owns] at hk1
      · rw [Dne k e] at hk1
        have := h.one hi hk ((owns_iff _).2 hur) e
        rw [this] at hk1; cases hk1
    · have hy' : upd S.tok c none c = some y := hy
      rw [upd_same] at hy'; cases hy'
  -- who owns stands
  have how0 : ∀ k, k < G.n → ((G.work i T' s').D k).owns = true → S.tok c = some (id k) := fun k hk hk1 => by
    by_cases e : k = i
    · subst e; rw [Dsame] at hk1; exact absurd (E.to ((owns_iff _).1 hk1)) hla
    · rw [Dne k e] at hk1; exact h.ow k hk hk1
  have how1 : ∀ y, S.tok c = some y → ∃ k, k < G.n ∧ ((G.work i T' s').D k).owns = true ∧ y = id k := fun y hy => by
    obtain ⟨k, hk, hk1, hk2⟩ := h.ow' y hy
    by_cases e : k = i
    · subst e; exact absurd ((owns_iff _).1 hk1) hur
    · exact ⟨k, hk, by rw [Dne k e]; exact hk1, hk2⟩
  by_cases hwr : (G.D i).pc = .wr
  · have hes : es = #[Go.ConcR.mk (.releaseMerge (stA K.Wg))] := by simpa [EvW, hwr] using hev
    have hT := (E.wr hwr).1
    have hsz : w'.heap.size = w.heap.size := by have := heff.size; simp [hwr] at this; exact this
    subst hes
    have hd0 : Deaf t (id i) = 0 := by rw [hd]; simp [Th.deaf, hwr]
    have hnm : ¬ S.mute (id i) := fun e => by rw [h.mu i hi] at e; simp [Th.mute, hwr] at e
    rw [ofEvents_mk]
    refine ⟨S.hush (id i) t.size, R.wrel (z := { g := id i, fn := fn, pos := pos, act := .mark (.releaseMerge (stA K.Wg)) }) hy (h.memI hi) hnm (fun c' hc' => hwkI c' i hi hc') hd0 (by rw [h.adr.2]) (by rw [h.adr.2]; show K.Wg < _; omega), ?_, how0, how1⟩
    refine ⟨by rw [hsz]; exact hs0, ?_, fun _ _ => rfl, rfl, rfl, fun z hz => ?_, ?_, fun c' hc' => rfl, ⟨rfl, rfl⟩, fun b hb => by rw [hT] at hb; cases hb⟩
    · rw [deaf_word _ (by simp) (by simp), hd0, hT]; simp [Th.deaf]
    · exact ⟨fun e => e.resolve_right hz, .inl⟩
    · rw [hT]; exact ⟨fun _ => rfl, fun _ => .inr rfl⟩
  by_cases hbx : (G.D i).pc = .bx
  · have hes : T'.blk = w.heap.size :: (G.D i).blk ∧ es = #[] := by simpa [EvW, hbx] using hev
    obtain ⟨_, hpp⟩ := E.bx hbx
    have hsz : w'.heap.size = w.heap.size + 1 := by have := heff.size; simp [hbx] at this; exact this
    have et : t ++ MemOp.ofEvents (id i) fn pos es = t := by rw [hes.2, ofEvents_none, Array.append_empty]
    rw [et]
    refine ⟨S.grow (id i), R.grow _, ⟨?_, ?_, fun k hk => ?_, rfl, rfl, fun _ _ => .rfl, hmu0 hwr, fun c' _ => rfl, ⟨rfl, rfl⟩, fun b hb => ?_⟩, how0, how1⟩
    · show S.sz + 1 = _; rw [hsz, hs0]
    · rw [hd]; rcases hpp with h | h <;> simp [Th.deaf, hbx, h]
    · show (if k = S.sz then _ else _) = _
      rw [if_neg (by omega)]
    · rw [hes.1] at hb
      show b < _ ∧ (if b = S.sz then _ else _) = _
      rcases List.mem_cons.1 hb with rfl | hb
      · rw [if_pos hs0.symm]; exact ⟨by omega, rfl⟩
      · have h1 := old b hb
        rw [if_neg (by omega)]; exact ⟨by omega, h1.2⟩
  · have hbook : Book K (G.D i).deaf (if T'.pc = .quit then 1 else T'.deaf) es := by
      unfold EvW at hev
      split at hev <;> first | contradiction | exact hev
    have hsz : w'.heap.size = w.heap.size := by have := heff.size; simp [hbx] at this; exact this
    refine ⟨S, R.book hK (by rw [hs0]; exact hB) h.act hy (.inr (h.memI hi)) hd hbook _ _, ⟨by rw [hsz]; exact hs0, ?_, fun _ _ => rfl, rfl, rfl, fun _ _ => .rfl, hmu0 hwr, fun _ _ => rfl, ⟨rfl, rfl⟩, fun b hb => ?_⟩, how0, how1⟩
    · rw [Deaf_own, hd]; exact hbook.2.1
    · rw [hsz]
      rcases E.blk hbx with e | e
      · rw [e] at hb; exact old b hb
      · rw [e] at hb; cases hb
theorem EffB.far {new : Bool} {y : Nat} (hK : Blks K c S) (e : EffB K new w w') : Far S c y w w' :=
  ⟨e.tape, e.output, by rw [e.size]; omega, e.os, fun k hk _ _ h3 _ => e.block k hk (fun e => h3 (by rw [e]; exact hK.M)) fun e => h3 (by rw [e]; exact hK.W)⟩
/-- (6) ████ A WORKER's MOVE. ████ -/
theorem stepMoveW (A : Arr ng gs gf) (R : TR S t ng) (h : Cx P K c id Fin S G gf w vs ks kb M t ng) (hwkI : ∀ c' i, i < G.n → S.wk c' (id i) → c' = c) {i : Nat} (hi : i < G.n) (hna : ¬ S.act (id i)) (hrc : (G.D i).pc ≠ .rc) (hd : Deaf t (id i) = (G.D i).deaf) (hS : StpW P K (AtW P K (ks i)) (G.D i) (vs i) (gf (id i)) w) (hms : (G.D i).pc = .s1 → G.s.ms ≠ 0) :
    Ran P K c id Fin S G gf w vs ks M t ng (id i) gs sl := by
  obtain ⟨hy, hyc, hy0⟩ := h.idL hi
  have hK := h.bl
  have hB := h.B
  have hfit := fit_of h.ok K.hNb hi
  have free_la : (G.D i).pc = .la → S.tok c = none := by
    intro hp
    cases ho : S.tok c with
    | none => rfl
    | some y =>
      obtain ⟨k, hk, hk1, _⟩ := h.ow' y ho
      have h1 : isO (G.D k) = 1 := by simp [isO, (owns_iff _).1 hk1]
      have h2 : isO (G.D i) = 1 := by simp [isO, hp]
      have := one_owner h.ok.mu hk hi h1 h2
      subst this
      rw [(owns_iff _).1 hk1] at hp; cases hp
  obtain ⟨T', s', hmw, g', w', es, hs, hsh', heff, hev, haft⟩ := hS.go hrc G.s h.sh hfit hms (K.row G.dn) (fun hp => ⟨h.row (free_la hp), K.hrow _⟩)
  have hm := mw_any (cl := G.closed) hmw hrc
  have E := edge_of hm
  have hok' := ok_work h.ok hi hm
  have hrk := rank_work h.ok hi hm
  obtain ⟨k', hk'⟩ : ∃ k', ks i = k' + 1 := ⟨ks i - 1, by have := h.hk.1 i; omega⟩
  rw [hk'] at haft
  have hblock : ∀ b, b < w.heap.size → b ≠ K.Mu → b ≠ K.Wg → w'.heap[b]? = w.heap[b]? := heff.block
  have hC : w'.heap[K.C]? = w.heap[K.C]? := hblock _ (by have := K.bC; omega) K.hMC.symm K.hWC.symm
  have hch : HAt K G.closed w' := by
    obtain ⟨s, r, e⟩ := h.ch
    exact ⟨s, r, (hblock _ (by have := K.bH; omega) K.hMH.symm K.hWH.symm).trans e⟩
  obtain ⟨S', R', mt, how, how'⟩ := moveT (w' := w') R h hwkI hi hna hd E heff hev (gf (id i)).frame.fn (gf (id i)).frame.place
  have hdw := mt.dw
  obtain ⟨m, hsn, hrun'⟩ := after_sit (P := P) (K := K) (G' := G.work i T' s') hdw haft
  obtain ⟨h3, h4⟩ := h.others (G' := G.work i T' s') (x := gf (id i)) (x' := g') (w₁ := w') (id i) rfl hch
    (fun k hk ha hne => RB.of_eff heff hsh' hB fun b hb => have h1 := h.mine hk ha b hb; ⟨(hK.ne h1.1).1, (hK.ne h1.1).2.1, h1.2⟩) (fun _ => RB.of_eff heff hsh' hB (fun b hb => by cases hb)) (fun _ => ⟨rfl, rfl⟩)
    (fun h => (E.ms h).imp _root_.id fun hp => ⟨hS.wake (hp.elim .inl fun h => .inr (.inl h)), hrun'⟩) (.inl rfl) (fun _ hp => by show G.closed = false; rw [h.ok.cl, hp]; rfl)
    (fun _ _ h => (E.ws h).imp _root_.id fun hp => ⟨hS.wake (.inr (.inr hp)), hrun'⟩)
  have hst := h3 hyc
  have Dsame : (G.work i T' s').D i = T' := upd_same _ _ _
  have Dne : ∀ k, k ≠ i → (G.work i T' s').D k = G.D k := fun k hk => upd_ne _ _ hk
  have hdn : (G.D i).pc ≠ .ur → (G.work i T' s').dn = G.dn := fun h => putDn_other _ h
  have hne : ∀ k, k < G.n → k ≠ i → id k ≠ id i := fun k hk e e' => e (h.idJ _ _ hk hi e')
  refine ⟨_, w', _, S', G.work i T' s', _, fun k => if k = i then (if (G.D i).pc = .la then K.put (G.D i).job (K.row G.dn) else vs i) else vs k, upd ks i k', kb, upd M (id i) m, id, ng, run_own A hy hy0 hs, A.step hy _ _ _, R',
    ⟨heff.far hK, mt.cl, fun _ => by rw [mt.act], fun _ _ _ => by rw [mt.wk], fun z => by rw [mt.wk]; simp, fun z hz => mt.mute z fun e => hz (e ▸ h.memI hi), mt.tok, mt.adr, fun z _ hz => upd_ne _ _ (TG.ne_free hz (.inr ⟨h.memI hi, hna⟩)), fun z _ hz => .inr ⟨_, _, if_neg (TG.ne_free hz (.inr ⟨h.memI hi, hna⟩))⟩, fun z _ hz => deaf_others (TG.ne_free hz (.inr ⟨h.memI hi, hna⟩)) _ _ _, ⟨Nat.le_refl _, Nat.le_succ _⟩⟩,
    RB.of_eff heff hsh' hB (fun b hb => by cases hb), .inl hrk, ?_, fun k hk => ⟨rfl, hk, fun ha => ?_⟩⟩
  · refine { ok := hok', nr := h.nr, hk := ⟨fun y => ?_, ?_⟩, sh := hsh', ch := hch, row := fun ho => ?_, rowJ := ?_, ur := fun k hk hku => ?_, st := ?_, d0 := ?_, wk := fun k hk => ?_, busy := fun k hk ha => ?_, px := fun k hk hp hb => ?_, bk := fun k hk b hb => ?_, ow := how, ow' := how', idc := h.idc, idJ := h.idJ, wkS := fun z => by rw [mt.wk]; exact h.wkS z, mu := fun k hk => ?_, act := by rw [mt.act]; exact h.act, adr := by rw [mt.adr.1, mt.adr.2]; exact h.adr, mn := h.mn, bl := ?_, B := Nat.le_trans hB (by rw [heff.size]; omega), sz := mt.sz }
    · by_cases e : y = i
      · subst e; rw [upd_same]; have := h.hk.1 y; omega
      · rw [upd_ne _ _ e]; have := h.hk.1 y; omega
    · have := h.hk.2; omega
    · by_cases hur : (G.D i).pc = .ur
      · show CAt K (K.row (putDn G.dn (G.D i))) w'
        rw [← h.ur i hi hur]
        exact hC.trans (hS.row hur)
      · rw [hdn hur]
        have ho' : S.tok c = none := by
          cases e : S.tok c with
          | none => rfl
          | some y =>
            obtain ⟨k, hk, hk1, _⟩ := h.ow' y e
            by_cases eki : k = i
            · subst eki; exact absurd ((owns_iff _).1 hk1) hur
            · have := how k hk (by rw [Dne k eki]; exact hk1)
              rw [ho] at this; cases this
        exact hC.trans (h.row ho')
    · obtain ⟨cs, hc, hs⟩ := h.rowJ
      exact ⟨cs, hC.trans hc, hs⟩
    · have hku' : ((G.work i T' s').D k).pc = .ur := hku
      by_cases e : k = i
      · subst e
        rw [Dsame] at hku'
        have hla := E.to hku'
        have hT := (E.la hla).1
        simp only [if_true, if_pos hla]
        have hjl : (G.D k).job < K.J := Nat.lt_of_lt_of_le (h.ok.job k hi (by rw [hla]; rfl)) h.ok.snt.1
        rw [K.hput _ _ hjl, Dsame, hdn (by rw [hla]; simp), putDn_ur _ hku', hT]
      · rw [Dne k e] at hku'
        have hnu : (G.D i).pc ≠ .ur := fun h' => by
          have := h.one hi hk ((owns_iff _).2 h') e
          rw [(owns_iff _).2 hku'] at this; cases this
        simp only [if_neg e]
        rw [Dne k e, hdn hnu]
        exact h.ur k hk hku'
    · simp only [if_neg (Ne.symm hyc), upd_ne _ _ (Ne.symm hyc)]
      exact hst.1
    · rw [deaf_others (Ne.symm hyc)]; exact h.d0
    · by_cases e : k = i
      · subst e
        simp only [if_true, upd_same]
        rw [Dsame]
        exact .inr hsn
      · have hn := hne k hk e
        simp only [if_neg hn, if_neg e, upd_ne _ _ hn, upd_ne _ _ e]
        rw [deaf_others hn, Dne k e, mt.act]
        exact (h4 k hk hn).1
    · rw [mt.act] at ha
      have e : k ≠ i := fun e => hna (e ▸ ha)
      rw [Dne k e]; exact h.busy k hk ha
    · simp only [if_neg (Ne.symm hyc)] at hb
      have hb' := hst.2 hb
      by_cases e : k = i
      · subst e
        simp only [if_true]
        rintro ⟨_, hbl⟩
        rw [hrun'] at hbl; cases hbl
      · have hn := hne k hk e
        simp only [if_neg hn]
        rintro ⟨hrc', hbl⟩
        rw [Dne k e] at hrc'
        exact h.px k hk hp hb' ⟨hrc', (h4 k hk hn).2 hrc' hbl⟩
    · by_cases e : k = i
      · subst e; rw [Dsame] at hb
        have := mt.blk b hb
        exact ⟨this.1, .inl this.2⟩
      · rw [Dne k e] at hb
        obtain ⟨h1, h2⟩ := h.bk k hk b hb
        have hs0 := h.sz
        rw [mt.cl b (by omega), mt.act]
        exact ⟨by rw [heff.size]; omega, h2⟩
    · by_cases e : k = i
      · subst e; rw [Dsame]; exact mt.muI
      · rw [Dne k e, mt.mute _ (hne k hk e)]; exact h.mu k hk
    · have hs0 := h.sz
      have bM := K.bM; have bW := K.bW; have bH := K.bH; have bC := K.bC
      exact ⟨by rw [mt.cl _ (by omega)]; exact hK.M, by rw [mt.cl _ (by omega)]; exact hK.W, by rw [mt.cl _ (by omega)]; exact hK.H, by rw [mt.cl _ (by omega)]; exact hK.C, fun k hk => by rw [mt.cl _ (by have := hk.1; omega)]; exact hK.s k hk⟩
  · have e : k ≠ i := fun e => hna (e ▸ ha)
    exact ⟨Dne k e, if_neg e, upd_ne _ _ e⟩
end
end Go.Proofs.Ytapjmifhhbpikaa

/- The gang in the machine: the steps. -/
import Derived.Test.YtapjmifhhbpikaaBdM
set_option linter.unusedVariables false
set_option linter.unusedSimpArgs false
namespace Go.Proofs.Ytapjmifhhbpikaa
open Go.Conc Go.ConcN Go.ConcM
open Go.ConcR (KK wgBlock WgAt stA smA rd wr g_of_ofEvents ofEvent_loc_mark ofEvent_cell ofEvent_mk loc_of_ofEvent again_blocked)
/-- The goroutines' records by their numbers. -/
structure Arr (K : Band) (G : GS) (gs : Array Goroutine) (gf : Nat → Goroutine) : Prop where
  size : gs.size = K.base + 1 + G.n
  at_ : ∀ y, y < K.base + 1 + G.n → gs[y]? = some (gf y)
def BInv (P : Program) (K : Band) (Fin : Goroutine → World → Prop) (μ : Nat × Nat) (m : Machine) (t : Trace) : Prop :=
  ∃ gs w sl G gf vs ks φ o ob, m = crowd gs w sl ∧ Arr K G gs gf ∧ Cx P K Fin G gf w vs ks φ o ob t ∧ μ = (G.rank K.N K.J, sumTo (K.base + 1 + G.n) φ)
/-- A step keeps it and lowers the measure. -/
def Goes1 (P : Program) (K : Band) (Fin : Goroutine → World → Prop) (G : GS) (φ : Nat → Nat) (gs : Array Goroutine) (w : World) (sl : Option (Nat × Nat)) (t : Trace) (y : Nat) : Prop :=
  ∃ m₁ ops μ', runT P (crowd gs w sl) y = (.next m₁, ops) ∧ Lt2 μ' (G.rank K.N K.J, sumTo (K.base + 1 + G.n) φ) ∧ BInv P K Fin μ' m₁ (t ++ ops)
section
variable {P : Program} {K : Band} {Fin : Goroutine → World → Prop} {G G' : GS} {gs : Array Goroutine} {gf : Nat → Goroutine} {w w' w₁ : World} {sl : Option (Nat × Nat)} {vs : Nat → Array Value} {ks φ : Nat → Nat} {o : Option Nat} {ob : Nat → Option Nat} {t : Trace} {g' : Goroutine} {es : Array Event}
theorem Arr.step (A : Arr K G gs gf) (hn : G'.n = G.n) {y : Nat} (hy : y < K.base + 1 + G.n) (x x' : Goroutine) (w₁ : World) : Arr K G' ((gs.map (woken P x x' w₁)).setIfInBounds y x') (fun z => if z = y then x' else woken P x x' w₁ (gf z)) := by
  refine ⟨by rw [hn]; simp [A.size], fun z hz => ?_⟩
  rw [hn] at hz
  by_cases e : z = y
  · subst e
    rw [if_pos rfl, Array.getElem?_setIfInBounds_self_of_lt (by simp [A.size]; exact hy)]
  · rw [if_neg e, Array.getElem?_setIfInBounds_ne (Ne.symm e), Array.getElem?_map, A.at_ z hz]
    rfl
theorem run_own (A : Arr K G gs gf) {y : Nat} (hy : y < K.base + 1 + G.n) (hs : stepG P (y == 0) (gf y) w = .go g' w' es) :
    runT P (crowd gs w sl) y = (.next (crowd ((gs.map (woken P (gf y) g' w')).setIfInBounds y g') w' sl), MemOp.ofEvents y (gf y).frame.fn (gf y).frame.place es) := runT_crowd_go (A.at_ y hy) hs
theorem deaf_others {y z : Nat} (h : z ≠ y) (fn : FuncId) (pos : String) (es : Array Event) : Deaf (t ++ MemOp.ofEvents y fn pos es) z = Deaf t z := Deaf_other t (Ne.symm h) _ g_of_ofEvents
theorem still_deaf {boss : Bool} {mine : List Nat} {own : Bool} {sz : Nat} (h : ∀ e ∈ es, EvT K boss mine own sz e) (y : Nat) (fn : FuncId) (pos : String) : Deaf (t ++ MemOp.ofEvents y fn pos es) y = Deaf t y := by
  rw [Deaf_own]
  exact deafBehind_still (fun e he => ⟨(h e he).1, (h e he).2.1⟩) _
theorem Cx.lt (c : Cx P K Fin G gf w vs ks φ o ob t) {i : Nat} (hi : i < G.n) : idW K i < K.base + 1 + G.n := by unfold idW; omega
theorem Cx.blk (c : Cx P K Fin G gf w vs ks φ o ob t) {i : Nat} (hi : i < G.n) : ∀ b, b ∈ (G.D i).blk → K.B0 ≤ b ∧ b < w.heap.size := fun b hb => c.mt.hi b _ (c.bk i hi b hb)
theorem Cx.blk_ne (c : Cx P K Fin G gf w vs ks φ o ob t) {i k : Nat} (hi : i < G.n) (hk : k < G.n) (h : k ≠ i) : ∀ b, b ∈ (G.D i).blk → b ∉ (G.D k).blk := fun b hb hb' => by
  have h1 := c.bk i hi b hb
  have h2 := c.bk k hk b hb'
  rw [h1] at h2
  exact h (idW_inj (Option.some.inj h2)).symm
theorem Cx.one (c : Cx P K Fin G gf w vs ks φ o ob t) {i k : Nat} (hi : i < G.n) (hk : k < G.n) (h1 : (G.D i).owns = true) (h : k ≠ i) : (G.D k).owns = false := by
  cases e : (G.D k).owns with
  | false => rfl
  | true =>
    have a := c.ow i hi h1
    have b := c.ow k hk e
    rw [a] at b
    exact absurd (idW_inj (Option.some.inj b)).symm h
/-- (1) AN IDLE STEP OF A WORKER's. -/
theorem stepIdleW (A : Arr K G gs gf) (c : Cx P K Fin G gf w vs ks φ o ob t) {i m' : Nat} (hi : i < G.n) (hnq : (G.D i).pc ≠ .quit) (hd : Deaf t (idW K i) = (G.D i).deaf) (hφ : φ (idW K i) = (K.N + 3) * (m' + 1) + 1)
    (hs : stepG P false (gf (idW K i)) w = .go g' w' es) (hD : DB K false (G.D i).blk (G.D i).owns (G.D i).mute w w' es) (hgo : GoW P K (G.D i) (AtW P K (ks (idW K i) + 1) (G.D i) (vs i)) m' g' w') : Goes1 P K Fin G φ gs w sl t (idW K i) := by
  have hy := c.lt hi
  have hy0 : idW K i ≠ 0 := by have := idW_pos K i; omega
  have hB := c.mt.B
  have hlow : ∀ k, k < K.B0 → ((G.D i).owns = true → k ≠ K.C) → w'.heap[k]? = w.heap[k]? := fun k hk hc => hD.block k (fun e => by have := (c.blk hi k e).1; omega) hc
  have hsh : SAt K G.s w' := c.sh.of_block (hlow _ K.bM fun _ => K.hMC) (hlow _ K.bW fun _ => K.hWC)
  have hch : HAt K G.closed w' := by
    obtain ⟨s, r, h⟩ := c.ch
    exact ⟨s, r, (hlow _ K.bH fun _ => K.hCH.symm).trans h⟩
  obtain ⟨φ', h1, h2, h3, h4, h5⟩ := c.others (G' := G) (x := gf (idW K i)) (x' := g') (w₁ := w') (idW K i) rfl hch
    (fun k hk hne => RB.of_idle hD (fun b hb => (c.blk hi b hb).1) (fun ho => c.one hi hk ho fun e => hne (by rw [e])) (c.blk_ne hi hk fun e => hne (by rw [e])) (fun b hb => (c.blk hk b hb).1))
    (fun _ => RB.of_idle hD (fun b hb => (c.blk hi b hb).1) (fun _ => rfl) (fun b _ h => by cases h) (fun b h => by cases h)) (fun _ => ⟨rfl, rfl⟩) (fun h => .inl h) (.inl rfl) (fun _ hp => by rw [c.ok.cl, hp]; rfl) (fun _ _ h => .inl h)
  refine ⟨_, _, _, run_own A hy (by rw [show (idW K i == 0) = false by simpa using hy0]; exact hs), .right _ (sum_falls hy c.ok.le h1 h2 (a := (K.N + 3) * m' + 1) (by rw [hφ, Nat.mul_succ]; omega)), _, w', sl, G, _, vs, ks, _, o, ob, rfl, A.step rfl hy _ _ _, ?_, rfl⟩
  have hst := h3 hy0
  refine ⟨c.ok, c.nr, c.hk, hsh, hch, fun ho => ?_, ?_, c.ur, ?_, ?_, fun k hk => ?_, fun j j1 j2 => ?_, fun k hk hp hb => ?_, c.bk, c.ow, c.ow', ?_⟩
  · have hno : (G.D i).owns = true → False := fun h => by have := c.ow i hi h; rw [ho] at this; cases this
    exact (hlow _ K.bC fun h => (hno h).elim).trans (c.row ho)
  · by_cases e : (G.D i).owns = true
    · exact hD.row e c.rowJ
    · obtain ⟨cs, hc, hs⟩ := c.rowJ
      exact ⟨cs, (hlow _ K.bC fun h => absurd h e).trans hc, hs⟩
  · simp only [if_neg (Ne.symm hy0), upd_ne _ _ (Ne.symm hy0)]
    exact hst.1
  · rw [deaf_others (Ne.symm hy0)]; exact c.d0
  · by_cases e : k = i
    · subst e
      simp only [if_true, upd_same]
      rw [still_deaf hD.ev]
      exact .inl ⟨hnq, hd, m', rfl, hgo⟩
    · have hne : idW K k ≠ idW K i := fun h => e (idW_inj h)
      simp only [if_neg hne, upd_ne _ _ hne]
      rw [deaf_others hne]
      exact (h4 k hk hne).1
  · have hne : j ≠ idW K i := by unfold idW; omega
    obtain ⟨q, hq1, hq2⟩ := c.lv j j1 j2
    simp only [if_neg hne, upd_ne _ _ hne]
    rw [deaf_others hne, (h5 j j1 j2).1, (h5 j j1 j2).2]
    exact ⟨q, hq1, hq2⟩
  · simp only [if_neg (Ne.symm hy0)] at hb
    have hb' := hst.2 hb
    by_cases e : k = i
    · subst e
      simp only [if_true]
      rintro ⟨_, hbl⟩
      rw [hgo.running] at hbl; cases hbl
    · have hne : idW K k ≠ idW K i := fun h => e (idW_inj h)
      simp only [if_neg hne]
      rintro ⟨hrc, hbl⟩
      exact c.px k hk hp hb' ⟨hrc, (h4 k hk hne).2 hbl⟩
  · rw [hD.size]
    exact c.mt.idleW hi hD.ev (c.bk i hi) (c.ow i hi) hD.quiet
/-- (2) AN IDLE STEP OF THE STARTER's. -/
theorem stepIdleS (A : Arr K G gs gf) (c : Cx P K Fin G gf w vs ks φ o ob t) {m' : Nat} (hφ : φ 0 = (K.N + 3) * (m' + 1) + 1)
    (hs : stepG P true (gf 0) w = .go g' w' es) (hD : DB K true [] false false w w' es) (hgo : GoS P K (AtS P K Fin (ks 0 + 1) G.st) m' g' w') : Goes1 P K Fin G φ gs w sl t 0 := by
  have hy : 0 < K.base + 1 + G.n := by omega
  have hlow : ∀ k, w'.heap[k]? = w.heap[k]? := fun k => hD.block k (fun e => by cases e) (fun e => by cases e)
  have hsh : SAt K G.s w' := c.sh.of_block (hlow _) (hlow _)
  have hch : HAt K G.closed w' := by
    obtain ⟨s, r, h⟩ := c.ch
    exact ⟨s, r, (hlow _).trans h⟩
  obtain ⟨φ', h1, h2, h3, h4, h5⟩ := c.others (G' := G) (x := gf 0) (x' := g') (w₁ := w') 0 rfl hch
    (fun k hk hne => RB.of_idle hD (fun b hb => by cases hb) (fun ho => by cases ho) (fun b hb => by cases hb) (fun b hb => (c.blk hk b hb).1))
    (fun h => absurd rfl h) (fun h => absurd rfl h) (fun h => .inl h) (.inl rfl) (fun h => absurd rfl h) (fun h => absurd rfl h)
  refine ⟨_, _, _, run_own A hy hs, .right _ (sum_falls hy c.ok.le h1 h2 (a := (K.N + 3) * m' + 1) (by rw [hφ, Nat.mul_succ]; omega)), _, w', sl, G, _, vs, ks, _, o, ob, rfl, A.step rfl hy _ _ _, ?_, rfl⟩
  refine ⟨c.ok, c.nr, c.hk, hsh, hch, fun ho => (hlow _).trans (c.row ho), ?_, c.ur, ?_, ?_, fun k hk => ?_, fun j j1 j2 => ?_, fun k hk hp hb => ?_, c.bk, c.ow, c.ow', ?_⟩
  · obtain ⟨cs, hc, hs⟩ := c.rowJ
    exact ⟨cs, (hlow _).trans hc, hs⟩
  · simp only [if_true, upd_same]
    exact .inl ⟨m', rfl, hgo⟩
  · rw [still_deaf hD.ev]; exact c.d0
  · have hne : idW K k ≠ 0 := by have := idW_pos K k; omega
    simp only [if_neg hne, upd_ne _ _ hne]
    rw [deaf_others hne]
    exact (h4 k hk hne).1
  · have hne : j ≠ 0 := by omega
    obtain ⟨q, hq1, hq2⟩ := c.lv j j1 j2
    simp only [if_neg hne, upd_ne _ _ hne]
    rw [deaf_others hne, (h5 j j1 j2).1, (h5 j j1 j2).2]
    exact ⟨q, hq1, hq2⟩
  · simp only [if_true] at hb
    rw [hgo.running] at hb; cases hb
  · rw [hD.size]
    exact c.mt.idle0 hD.ev
/-- Mute entries touch nothing. -/
theorem mute_ops {y : Nat} {fn : FuncId} {pos : String} {sz : Nat} (hm : ∀ e ∈ es, Event.mute e = true) (hy : y ≤ K.base + G.n) : ∀ z ∈ MemOp.ofEvents y fn pos es, z.g ≤ K.base + G.n ∧ z.act.touch? = none ∧ (∀ a, z.act ≠ .mark (.release a)) ∧ z.act.low sz := by
  intro z hz
  obtain ⟨e, he, rfl⟩ := Go.Conc.mem_ofEvents hz
  refine ⟨hy, touch_mute (hm e he), fun a ha => ?_, low_mute (hm e he) sz⟩
  have := loc_of_ofEvent ha
  have h2 := hm e he
  obtain ⟨l, x, s⟩ := e
  simp only at this
  subst this
  simp [Event.mute] at h2
/-- (3) A STEP OF ONE THAT ONLY LEAVES: an old one, or a worker that has said Done. -/
theorem stepLeave (A : Arr K G gs gf) (c : Cx P K Fin G gf w vs ks φ o ob t) {y q : Nat} (hy : y < K.base + 1 + G.n) (hy0 : y ≠ 0) (hφ : φ y = (K.N + 3) * (q + 1)) (hm : ∀ e ∈ es, Event.mute e = true) (hs : ∀ w, stepG P false (gf y) w = .go g' w es) (hq : QuitsD P q (deafBehind (Deaf t y) es) g')
    (hw : ∀ i, i < G.n → y = idW K i → (G.D i).pc = .quit) : Goes1 P K Fin G φ gs w sl t y := by
  obtain ⟨φ', h1, h2, h3, h4, h5⟩ := c.others (G' := G) (x := gf y) (x' := g') (w₁ := w) y rfl c.ch
    (fun k hk hne => RB.refl _ _ _) (fun _ => RB.refl _ _ _) (fun _ => ⟨rfl, rfl⟩) (fun h => .inl h) (.inl rfl) (fun _ hp => by rw [c.ok.cl, hp]; rfl) (fun _ _ h => .inl h)
  refine ⟨_, _, _, run_own A hy (by rw [show (y == 0) = false by simpa using hy0]; exact hs w), .right _ (sum_falls hy c.ok.le h1 h2 (a := (K.N + 3) * q) (by rw [hφ, Nat.mul_succ]; omega)), _, w, sl, G, _, vs, ks, _, o, ob, rfl, A.step rfl hy _ _ _, ?_, rfl⟩
  have hst := h3 hy0
  refine ⟨c.ok, c.nr, c.hk, c.sh, c.ch, c.row, c.rowJ, c.ur, ?_, ?_, fun k hk => ?_, fun j j1 j2 => ?_, fun k hk hp hb => ?_, c.bk, c.ow, c.ow', ?_⟩
  · simp only [if_neg (Ne.symm hy0), upd_ne _ _ (Ne.symm hy0)]
    exact hst.1
  · rw [deaf_others (Ne.symm hy0)]; exact c.d0
  · by_cases e : idW K k = y
    · simp only [e, if_true, upd_same]
      refine .inr (.inr (.inr (.inr ⟨hw k hk e.symm, q, rfl, ?_⟩)))
      rw [Deaf_own]; exact hq
    · simp only [if_neg e, upd_ne _ _ e]
      rw [deaf_others e]
      exact (h4 k hk e).1
  · by_cases e : j = y
    · subst e
      simp only [if_true, upd_same]
      exact ⟨q, rfl, by rw [Deaf_own]; exact hq⟩
    · obtain ⟨q', hq1, hq2⟩ := c.lv j j1 j2
      simp only [if_neg e, upd_ne _ _ e]
      rw [deaf_others e, (h5 j j1 j2).1, (h5 j j1 j2).2]
      exact ⟨q', hq1, hq2⟩
  · simp only [if_neg (Ne.symm hy0)] at hb
    have hb' := hst.2 hb
    by_cases e : idW K k = y
    · rintro ⟨hrc, _⟩
      rw [hw k hk e.symm] at hrc; cases hrc
    · simp only [if_neg e]
      rintro ⟨hrc, hbl⟩
      exact c.px k hk hp hb' ⟨hrc, (h4 k hk e).2 hbl⟩
  · exact c.mt.stills (Nat.le_refl _) (mute_ops hm (by omega))
/-- Who blocks wakes nobody. -/
theorem blocked_fun (y : Nat) (x : Goroutine) : (fun z => if z = y then { x with status := .blocked } else woken P (gf y) { x with status := .blocked } w (gf z)) = upd gf y { x with status := .blocked } := by
  funext z
  by_cases e : z = y
  · simp [e, upd]
  · simp only [if_neg e, upd_ne _ _ e]
    exact woken_by_blocked rfl
theorem sum_upd_lt {φ : Nat → Nat} {n y a : Nat} (hy : y < n) (hlt : a < φ y) : sumTo n (upd φ y a) < sumTo n φ := by
  have e1 := sumTo_upd φ a id hy
  simp only [id] at e1
  have e3 : sumTo n (fun z => upd φ y a z) = sumTo n (upd φ y a) := rfl
  have e4 : sumTo n (fun z => φ z) = sumTo n φ := rfl
  rw [e3, e4] at e1
  omega
/-- (4) A WORKER WAITS FOR THE LOCK. -/
theorem stepBlockW (A : Arr K G gs gf) (c : Cx P K Fin G gf w vs ks φ o ob t) {i m : Nat} (hi : i < G.n) (hp : (G.D i).pc = .s1) (hd : Deaf t (idW K i) = (G.D i).deaf) (hφ : φ (idW K i) = (K.N + 3) * m + 1) (h0 : G.s.ms = 0)
    (hgo : GoW P K (G.D i) (AtW P K (ks (idW K i) + 1) (G.D i) (vs i)) 0 (gf (idW K i)) w) (hs : stepG P false (gf (idW K i)) w = .go { gf (idW K i) with status := .blocked } w #[]) : Goes1 P K Fin G φ gs w sl t (idW K i) := by
  have hy := c.lt hi
  have hy0 : idW K i ≠ 0 := by have := idW_pos K i; omega
  have hA := A.step (P := P) (G' := G) rfl hy (gf (idW K i)) { gf (idW K i) with status := .blocked } w
  rw [blocked_fun] at hA
  refine ⟨_, _, _, run_own A hy (by rw [show (idW K i == 0) = false by simpa using hy0]; exact hs), .right _ (sum_upd_lt hy (a := 0) (by omega)), _, w, sl, G, _, vs, ks, _, o, ob, rfl, hA, ?_, rfl⟩
  have et : t ++ MemOp.ofEvents (idW K i) (gf (idW K i)).frame.fn (gf (idW K i)).frame.place #[] = t := by rw [ofEvents_none, Array.append_empty]
  rw [et]
  refine ⟨c.ok, c.nr, c.hk, c.sh, c.ch, c.row, c.rowJ, c.ur, ?_, c.d0, fun k hk => ?_, fun j j1 j2 => ?_, fun k hk hps hb => ?_, c.bk, c.ow, c.ow', c.mt⟩
  · rw [upd_ne _ _ (Ne.symm hy0), upd_ne _ _ (Ne.symm hy0)]; exact c.st
  · by_cases e : k = i
    · subst e
      rw [upd_same, upd_same]
      exact .inr (.inl ⟨hp, hd, rfl, h0, _, rfl, hgo⟩)
    · have hne : idW K k ≠ idW K i := fun h => e (idW_inj h)
      rw [upd_ne _ _ hne, upd_ne _ _ hne]; exact c.wk k hk
  · have hne : j ≠ idW K i := by unfold idW; omega
    rw [upd_ne _ _ hne, upd_ne _ _ hne]; exact c.lv j j1 j2
  · rw [upd_ne _ _ (Ne.symm hy0)] at hb
    by_cases e : k = i
    · subst e
      rintro ⟨hrc, _⟩
      rw [hp] at hrc; cases hrc
    · have hne : idW K k ≠ idW K i := fun h => e (idW_inj h)
      rw [upd_ne _ _ hne]; exact c.px k hk hps hb
/-- (5) THE STARTER WAITS FOR THE GROUP. -/
theorem stepBlockS (A : Arr K G gs gf) (c : Cx P K Fin G gf w vs ks φ o ob t) {m : Nat} (hp : G.p = .w3) (hφ : φ 0 = (K.N + 3) * m + 1) (h0 : G.s.ws = 0)
    (hgo : GoS P K (AtS P K Fin (ks 0 + 1) G.st) 0 (gf 0) w) (hs : stepG P true (gf 0) w = .go { gf 0 with status := .blocked } w #[]) : Goes1 P K Fin G φ gs w sl t 0 := by
  have hy : 0 < K.base + 1 + G.n := by omega
  have hA := A.step (P := P) (G' := G) rfl hy (gf 0) { gf 0 with status := .blocked } w
  rw [blocked_fun] at hA
  refine ⟨_, _, _, run_own A hy hs, .right _ (sum_upd_lt hy (a := 0) (by omega)), _, w, sl, G, _, vs, ks, _, o, ob, rfl, hA, ?_, rfl⟩
  have et : t ++ MemOp.ofEvents 0 (gf 0).frame.fn (gf 0).frame.place #[] = t := by rw [ofEvents_none, Array.append_empty]
  rw [et]
  refine ⟨c.ok, c.nr, c.hk, c.sh, c.ch, c.row, c.rowJ, c.ur, ?_, c.d0, fun k hk => ?_, fun j j1 j2 => ?_, fun k hk hps hb => ?_, c.bk, c.ow, c.ow', c.mt⟩
  · rw [upd_same, upd_same]
    exact .inr (.inl ⟨hp, rfl, h0, _, rfl, hgo⟩)
  · have hne : idW K k ≠ 0 := by have := idW_pos K k; omega
    rw [upd_ne _ _ hne, upd_ne _ _ hne]; exact c.wk k hk
  · have hne : j ≠ 0 := by omega
    rw [upd_ne _ _ hne, upd_ne _ _ hne]; exact c.lv j j1 j2
  · rw [hp] at hps; cases hps
end
/-! ### what the automaton says of a move -/
theorem mw_any {T T' : Th} {s s' : Sh} {cl : Bool} (h : Mw true T s T' s') (hp : T.pc ≠ .rc) : Mw cl T s T' s' := by
  cases h with
  | mu h => exact .mu h
  | rw h _ => exact absurd h hp
  | bx b p n h hn hp => exact .bx b p n h hn hp
  | wr h => exact .wr h
  | wk h => exact .wk h
  | d1l h a b => exact .d1l h a b
  | d1q h a => exact .d1q h a
  | d2 h => exact .d2 h
  | d3 h => exact .d3 h
  | d4 h => exact .d4 h
structure Edge (T T' : Th) (s s' : Sh) : Prop where
  la : T.pc = .la → T' = { T with pc := .ur } ∧ s' = s
  to : T'.pc = .ur → T.pc = .la
  ur : T.pc = .ur → T' = { T with pc := .ud } ∧ s' = s
  wr : T.pc = .wr → T' = { pc := .wk } ∧ s' = s
  mute : T'.mute = true → T.mute = true ∨ T.pc = .wr
  bx : T.pc = .bx → ∃ b, T'.blk = b :: T.blk ∧ s' = s ∧ (T'.pc = .bx ∨ T'.pc = .ld)
  blk : T.pc ≠ .bx → T'.blk = T.blk ∨ T'.blk = []
  ms : s.ms = 0 → s'.ms = 0 ∨ T.pc = .us ∨ T.pc = .uh
  ws : s.ws = 0 → s'.ws = 0 ∨ T.pc = .d4
  nq : T.pc ≠ .quit
theorem hd_edge (T : Th) : (hd T).pc ≠ .ur ∧ (hd T).mute = false ∧ (hd T).blk = T.blk := by
  rcases hd_pc T with ⟨hp, -⟩ | ⟨hp, -⟩ <;> exact ⟨by rw [hp]; simp, by simp [Th.mute, hp], rfl⟩
theorem edge_of {T T' : Th} {s s' : Sh} {cl : Bool} (h : Mw cl T s T' s') : Edge T T' s s' := by
  cases h with
  | mu h =>
    cases h with
    | r0 hp => have := hd_edge { T with old := s.mu }; exact ⟨by simp [hp], fun e => absurd e this.1, by simp [hp], by simp [hp], fun e => (by rw [this.2.1] at e; cases e), by simp [hp], fun _ => .inl this.2.2, fun h => .inl h, fun h => .inl h, by simp [hp]⟩
    | r1 hp => have := hd_edge { T with old := s.mu, it := T.it + 1 }; exact ⟨by simp [hp], fun e => absurd e this.1, by simp [hp], by simp [hp], fun e => (by rw [this.2.1] at e; cases e), by simp [hp], fun _ => .inl this.2.2, fun h => .inl h, fun h => .inl h, by simp [hp]⟩
    | r3 hp => have := hd_edge { T with old := s.mu }; exact ⟨by simp [hp], fun e => absurd e this.1, by simp [hp], by simp [hp], fun e => (by rw [this.2.1] at e; cases e), by simp [hp], fun _ => .inl this.2.2, fun h => .inl h, fun h => .inl h, by simp [hp]⟩
    | r2n hp => have := hd_edge { T with old := s.mu, aw := true, it := 0 }; exact ⟨by simp [hp], fun e => absurd e this.1, by simp [hp], by simp [hp], fun e => (by rw [this.2.1] at e; cases e), by simp [hp], fun _ => .inl this.2.2, fun h => .inl h, fun h => .inl h, by simp [hp]⟩
    | c2q p hp h1 h2 h3 => rcases h3 with rfl | rfl <;> constructor <;> simp_all [Th.mute]
    | s1 p hp h1 h2 => rcases h2 with rfl | rfl <;> constructor <;> simp_all [Th.mute]
    | _ => constructor <;> simp_all [Th.mute]
  | bx b p n hp hn hpp =>
    rcases hpp with rfl | rfl
    · exact ⟨by simp [hp], by simp, by simp [hp], by simp [hp], by simp [Th.mute], fun _ => ⟨b, rfl, rfl, .inl rfl⟩, fun e => absurd hp e, fun h => .inl h, fun h => .inl h, by simp [hp]⟩
    · exact ⟨by simp [hp], by simp, by simp [hp], by simp [hp], by simp [Th.mute], fun _ => ⟨b, rfl, rfl, .inr rfl⟩, fun e => absurd hp e, fun h => .inl h, fun h => .inl h, by simp [hp]⟩
  | _ => constructor <;> simp_all [Th.mute]
theorem sum_le1 {f : Nat → Nat} (h : ∀ i, f i ≤ 1) (n : Nat) : sumTo n f ≤ n := by
  have := sum_le h n
  omega
theorem ind_le (T : Th) : isQ T ≤ 1 ∧ isC T ≤ 1 := by
  constructor
  · unfold isQ; split <;> simp
  · unfold isC; split <;> simp
/-- What the invariant says where a worker stands. -/
theorem fit_of {N J : Nat} {G : GS} (h : Ok N J G) (hN : N < 900) {i : Nat} (hi : i < G.n) : Fit (G.D i) G.s := by
  have hq := sum_le1 (f := fun x => isQ (G.D x)) (fun x => (ind_le _).1) G.n
  have hc := sum_le1 (f := fun x => isC (G.D x)) (fun x => (ind_le _).2) G.n
  have lO := le_sumTo (f := fun x => isO (G.D x)) hi
  have lK := le_sumTo (f := fun x => isK (G.D x)) hi
  have lH := le_sumTo (f := fun x => isH (G.D x)) hi
  have lU := le_sumTo (f := fun x => isU (G.D x)) hi
  have lX := le_sumTo (f := fun x => isX (G.D x)) hi
  have lC := le_sumTo (f := fun x => isC (G.D x)) hi
  have lL := le_sumTo (f := fun x => isL (G.D x)) hi
  have lM := le_sumTo (f := fun x => isM (G.D x)) hi
  have lB := sum_but (f := fun x => isL (G.D x)) (g := fun x => isM (G.D x)) (fun x => isM_le _) hi
  have hle := h.le
  have hmu := h.mu
  have hwg := h.wg
  have hW : G.s.mu.W.toNat ≤ 1 := by cases G.s.mu.W <;> simp
  have hLb : G.s.mu.L.toNat ≤ 1 := by cases G.s.mu.L <;> simp
  have L0 : G.s.mu.L.toNat = 0 → G.s.mu.L = false := by cases G.s.mu.L <;> simp
  have L1 : 1 ≤ G.s.mu.L.toNat → G.s.mu.L = true := by cases G.s.mu.L <;> simp
  have T1 : 1 ≤ G.s.wt.toNat → G.s.wt = true := by cases G.s.wt <;> simp
  have T0 : G.s.wt.toNat = 0 → G.s.wt = false := by cases G.s.wt <;> simp
  have pn : G.p.pend ≤ 1 := by cases G.p <;> simp [Ps.pend]
  have hpk : G.s.mu.k < 1000 ∧ G.s.ms ≤ 1 := by
    cases hS : G.s.mu.S with
    | true => have := hmu.st hS; omega
    | false => have := hmu.no hS; omega
  have hcase : G.p.open = true ∨ G.p = .w3 ∨ G.p.fin = true := by cases G.p <;> simp [Ps.open, Ps.fin]
  have hv : G.s.v ≤ 1000 := by
    rcases hcase with e | e | e
    · have := hwg.1 e; omega
    · have := hwg.2.1 e; omega
    · have := hwg.2.2 e; omega
  refine ⟨hmu.loc i hi, fun hp hS => ?_, fun hp => ?_, fun hp => ?_, fun hp => ?_, fun hp => ?_, fun hp => ?_, fun hp => ?_, hpk.1, hv, hpk.2, fun ha hl => ?_, fun hp hS => ?_⟩
  · have e : isK (G.D i) = 1 := by simp [isK, hp]
    rw [e] at lK
    have := hmu.st hS
    exact ⟨L0 (by omega), this.1, by omega⟩
  · have e : isO (G.D i) = 1 := by simp [isO, hp]
    rw [e] at lO
    cases hS : G.s.mu.S with
    | true => have := hmu.st hS; exact L1 (by omega)
    | false => have := hmu.no hS; exact L1 (by omega)
  · have e : isH (G.D i) = 1 := by simp [isH, hp]
    rw [e] at lH
    cases hS : G.s.mu.S with
    | true => have := hmu.st hS; exact ⟨L0 (by omega), rfl, this.1, by omega⟩
    | false => have := hmu.no hS; omega
  · have e : isC (G.D i) = 1 := by simp [isC, hp]
    rw [e] at lC
    rcases hcase with e | e | e
    · have := hwg.1 e; omega
    · have := hwg.2.1 e; omega
    · have := hwg.2.2 e; omega
  · have e1 : isL (G.D i) = 1 := by rcases hp with hp | hp <;> simp [isL, hp]
    have e2 : isM (G.D i) = 1 := by rcases hp with hp | hp <;> simp [isM, hp]
    rw [e1] at lL
    rw [e2] at lM
    rcases hcase with e | e | e
    · have := hwg.1 e; omega
    · have := hwg.2.1 e
      have c0 : (sumTo G.n fun i => isC (G.D i)) = 0 := by omega
      have := this.2.2.2.2 c0
      exact ⟨by omega, T1 (by omega), by omega⟩
    · have := hwg.2.2 e; omega
  · have e1 : isL (G.D i) = 1 := by simp [isL, hp]
    have e2 : isM (G.D i) = 0 := by simp [isM, hp]
    rw [e1] at lL lB
    rw [e2] at lB
    rcases hcase with e | e | e
    · have := hwg.1 e; omega
    · have := hwg.2.1 e
      have c0 : (sumTo G.n fun i => isC (G.D i)) = 0 := by omega
      have := this.2.2.2.2 c0
      exact ⟨by omega, T0 (by omega), by omega⟩
    · have := hwg.2.2 e; omega
  · cases hS : G.s.mu.S with
    | true =>
      have := hmu.st hS
      rcases hp with hp | hp
      · have e : isU (G.D i) = 1 := by simp [isU, hp]
        omega
      · have e : isX (G.D i) = 1 := by simp [isX, hp]
        omega
    | false =>
      have := hmu.no hS
      rcases hp with hp | hp
      · have e : isU (G.D i) = 1 := by simp [isU, hp]
        omega
      · have e : isX (G.D i) = 1 := by simp [isX, hp]
        omega
  · have lA := le_sumTo (f := fun x => isA (G.D x)) hi
    have e : isA (G.D i) = 1 := by simp [isA, ha, hl]
    rw [e] at lA
    cases hS : G.s.mu.S with
    | true => have := hmu.st hS; omega
    | false =>
      have := hmu.no hS
      refine ⟨?_, rfl⟩
      cases hw : G.s.mu.W with
      | true => rfl
      | false => rw [hw] at this; simp at this; omega
  · have e : isK (G.D i) = 1 := by simp [isK, hp]
    rw [e] at lK
    have := hmu.no hS
    cases hw : G.s.mu.W with
    | true => rfl
    | false => rw [hw] at this; simp at this; omega
theorem fitS_of {N J : Nat} {G : GS} (h : Ok N J G) (hN : N < 900) : FitS G.p G.s := by
  have hc := sum_le1 (f := fun x => isC (G.D x)) (fun x => (ind_le _).2) G.n
  have hle := h.le
  have pn : G.p.pend ≤ 1 := by cases G.p <;> simp [Ps.pend]
  have hcase : G.p.open = true ∨ G.p = .w3 ∨ G.p.fin = true := by cases G.p <;> simp [Ps.open, Ps.fin]
  refine ⟨fun e => ?_, fun e => ?_, fun e => ?_, ?_⟩
  · have := h.wg.1 e; exact ⟨this.2.1, this.2.2.1⟩
  · have := h.wg.2.1 e; omega
  · have := h.wg.2.2 e; exact ⟨this.1, this.2.1, this.2.2.1⟩
  · rcases hcase with e | e | e
    · have := h.wg.1 e; omega
    · have := h.wg.2.1 e; omega
    · have := h.wg.2.2 e; omega
end Go.Proofs.Ytapjmifhhbpikaa

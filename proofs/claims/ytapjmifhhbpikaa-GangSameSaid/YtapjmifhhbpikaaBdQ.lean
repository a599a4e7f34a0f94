/- The gang in the machine: the channel, the go statement. -/
import Derived.Test.YtapjmifhhbpikaaBdP
set_option linter.unusedVariables false
set_option linter.unusedSimpArgs false
namespace Go.Proofs.Ytapjmifhhbpikaa
open Go.Conc Go.ConcN Go.ConcM
open Go.ConcR (KK wgBlock WgAt stA smA rd wr g_of_ofEvents ofEvent_loc_mark ofEvent_cell ofEvent_mk loc_of_ofEvent again_blocked)
section
variable {P : Program} {K : Band} {Fin : Goroutine → World → Prop} {G G' : GS} {gs : Array Goroutine} {gf : Nat → Goroutine} {w w' w₁ : World} {sl : Option (Nat × Nat)} {vs : Nat → Array Value} {ks φ : Nat → Nat} {o : Option Nat} {ob : Nat → Option Nat} {t u : Trace} {g₀ g' : Goroutine} {es : Array Event}
theorem MTr.mu {n : Nat} {mu mu' : Nat → Bool} {sz : Nat} (h : MTr K n mu o ob sz t) (hm : ∀ i, i < n → mu' i = true → mu i = true) : MTr K n mu' o ob sz t :=
  ⟨h.lt, h.hi, h.B, h.seen, h.mem, h.nrA, fun i hi hh => h.rel i hi (hm i hi hh), h.who, h.over⟩
theorem Arr.set (A : Arr K G gs gf) (hn : G'.n = G.n) (y : Nat) (x : Goroutine) : Arr K G' (gs.setIfInBounds y x) (upd gf y x) := by
  refine ⟨by rw [hn]; simp [A.size], fun z hz => ?_⟩
  rw [hn] at hz
  by_cases e : z = y
  · subst e
    rw [upd_same, Array.getElem?_setIfInBounds_self_of_lt (by rw [A.size]; exact hz)]
  · rw [upd_ne _ _ e, Array.getElem?_setIfInBounds_ne (Ne.symm e), A.at_ z hz]
/-- What the others offer at the channel. -/
theorem offers_lv (c : Cx P K Fin G gf w vs ks φ o ob t) {j : Nat} (h1 : 1 ≤ j) (h2 : j ≤ K.base) (r : Nat) (b : Bool) : offersAt (gf j) r b = [] := by
  obtain ⟨q, _, hq⟩ := c.lv j h1 h2
  exact offersAt_of_not_blocked (by rcases hq.status with e | e <;> rw [e] <;> simp) r b
theorem blocked_offers {g₁ : Goroutine} (ho : g₁.offers = none) (r : Nat) (b : Bool) : offersAt { g₁ with status := .blocked } r b = [] := by
  simp [offersAt, ho]
theorem GoW.stp {T : Th} {v : Array Value} {k : Nat} {g : Goroutine} (h : GoW P K T (AtW P K (k + 1) T v) 0 g w) : StpW P K (AtW P K k) T v g w := h w (RB.refl _ _ _)
theorem GoS.stp {σ : St} {k : Nat} {g : Goroutine} (h : GoS P K (AtS P K Fin (k + 1) σ) 0 g w) : StpS P K Fin (AtS P K Fin k) (AtW P K k) σ g w := h w (RB.refl _ _ _)
/-- A worker offers no send; a receive only if it is parked. -/
theorem offers_wk (c : Cx P K Fin G gf w vs ks φ o ob t) {i : Nat} (hi : i < G.n) (r : Nat) : offersAt (gf (idW K i)) r true = [] ∧ ((∃ g₀, gf (idW K i) = parked g₀ #[rcase K.Ch K.z] (.recv true) ∧ (G.D i).pc = .rc) ∨ ∀ r, offersAt (gf (idW K i)) r false = []) := by
  rcases c.wk i hi with ⟨_, _, m, _, hg⟩ | ⟨_, _, _, _, g₀, h5, hg⟩ | ⟨h1, _, _, _, g₀, h5, hg⟩ | ⟨_, _, _, _, g₀, h5, hg⟩ | ⟨_, q, _, hq⟩
  · have hr := hg.running
    exact ⟨offersAt_of_not_blocked (by rw [hr]; simp) r true, .inr fun r => offersAt_of_not_blocked (by rw [hr]; simp) r false⟩
  · have ho := (GoW.stp hg).off
    rw [h5]
    exact ⟨blocked_offers ho r true, .inr fun r => blocked_offers ho r false⟩
  · rw [h5]
    exact ⟨offersAt_parked_recv' _ _ _ _ _, .inl ⟨g₀, rfl, h1⟩⟩
  · rw [h5]
    exact ⟨offersAt_of_not_blocked (by simp) r true, .inr fun r => offersAt_of_not_blocked (by simp) r false⟩
  · have hr : (gf (idW K i)).status ≠ .blocked := by rcases hq.status with e | e <;> rw [e] <;> simp
    exact ⟨offersAt_of_not_blocked hr r true, .inr fun r => offersAt_of_not_blocked hr r false⟩
/-- The starter offers no receive; a send only if it is parked. -/
theorem offers_st (c : Cx P K Fin G gf w vs ks φ o ob t) (r : Nat) : offersAt (gf 0) r false = [] ∧ ((∃ g₀, gf 0 = parked g₀ #[scase K.Ch (jobV G.sent) (.tuple #[])] .send ∧ G.p = .sn ∧ GoS P K (AtS P K Fin (ks 0 + 1) G.st) 0 g₀ w) ∨ ∀ r, offersAt (gf 0) r true = []) := by
  rcases c.st with ⟨m, _, hg⟩ | ⟨_, _, _, g₀, h5, hg⟩ | ⟨h1, _, g₀, h5, hg⟩
  · have hr := hg.running
    exact ⟨offersAt_of_not_blocked (by rw [hr]; simp) r false, .inr fun r => offersAt_of_not_blocked (by rw [hr]; simp) r true⟩
  · have ho := (GoS.stp hg).off
    rw [h5]
    exact ⟨blocked_offers ho r false, .inr fun r => blocked_offers ho r true⟩
  · rw [h5]
    exact ⟨offersAt_parked_send' _ _ _ _ _ _, .inl ⟨g₀, rfl, h1, hg⟩⟩
/-- Where a number lies. -/
theorem Arr.cases (A : Arr K G gs gf) {j : Nat} {g : Goroutine} (h : gs[j]? = some g) : g = gf j ∧ (j = 0 ∨ (1 ≤ j ∧ j ≤ K.base) ∨ ∃ i, i < G.n ∧ j = idW K i) := by
  have hlt : j < K.base + 1 + G.n := by have := (Array.getElem?_eq_some_iff.1 h).1; rw [A.size] at this; exact this
  have := A.at_ j hlt
  rw [h] at this
  refine ⟨Option.some.inj this, ?_⟩
  by_cases h0 : j = 0
  · exact .inl h0
  · by_cases hb : j ≤ K.base
    · exact .inr (.inl ⟨by omega, hb⟩)
    · exact .inr (.inr ⟨j - (K.base + 1), by omega, by unfold idW; omega⟩)
theorem stand_cases {i j : Nat} {x : Goroutine} (h : (gs.setIfInBounds i ph)[j]? = some x) : (j = i ∧ x = ph) ∨ (j ≠ i ∧ gs[j]? = some x) := getElem?_stand gs i j x h
/-- Nobody sends, for the worker that receives: the starter isn't parked. -/
theorem no_sender (A : Arr K G gs gf) (c : Cx P K Fin G gf w vs ks φ o ob t) (y : Nat) (h0 : ∀ r, offersAt (gf 0) r true = []) : partners (gs.setIfInBounds y ph) K.Ch true = [] := by
  refine partners_nil fun j g hj => ?_
  rcases stand_cases hj with ⟨_, rfl⟩ | ⟨hne, hg⟩
  · exact offersAt_ph _ _
  · obtain ⟨rfl, e | ⟨e1, e2⟩ | ⟨i, hi, rfl⟩⟩ := A.cases hg
    · subst e; exact h0 _
    · exact offers_lv c e1 e2 _ _
    · exact (offers_wk c hi _).1
/-- Comm's entries touch nothing. -/
theorem comm_ops {n s : Nat} {z : MemOp} (hg : z.g ≤ K.base + n) (ha : z.act = .send K.Ch s ∨ z.act = .sendDone K.Ch s ∨ (∃ c, z.act = .recv K.Ch s c) ∨ z.act = .recvDone K.Ch s ∨ z.act = .recvClosed K.Ch) {sz : Nat} (hB : K.B0 ≤ sz) : z.g ≤ K.base + n ∧ z.act.touch? = none ∧ (∀ a, z.act ≠ .mark (.release a)) ∧ z.act.low sz := by
  have hl : K.Ch < sz := by have := K.bH; omega
  rcases ha with e | e | ⟨c, e⟩ | e | e <;> rw [e] <;> exact ⟨hg, rfl, by simp, hl⟩
theorem deaf_stills (hu : ∀ z ∈ u, ∀ m, z.act ≠ .mark m) (y : Nat) : Deaf (t ++ u) y = Deaf t y := Go.ConcN.Deaf_still t y u fun z hz => ⟨hu z hz _, hu z hz _⟩
/-- (8a) A WORKER WAITS FOR A JOB. -/
theorem stepPark (A : Arr K G gs gf) (c : Cx P K Fin G gf w vs ks φ o ob t) {i : Nat} (hi : i < G.n) (hp : (G.D i).pc = .rc) (hd : Deaf t (idW K i) = (G.D i).deaf) (hφ : 0 < φ (idW K i)) (hcl : G.closed = false) (hgo : GoW P K (G.D i) (AtW P K (ks (idW K i) + 1) (G.D i) (vs i)) 0 g₀ w)
    (hs : stepG P false (gf (idW K i)) w = .comm g₀ #[rcase K.Ch K.z] true (.recv true) w #[]) (h0 : ∀ r, offersAt (gf 0) r true = []) (h00 : G.p = .sn → (gf 0).status ≠ .blocked) : Goes1 P K Fin G φ gs w sl t (idW K i) := by
  have hy := c.lt hi
  have hy0 : idW K i ≠ 0 := by have := idW_pos K i; omega
  obtain ⟨s, r, hch⟩ := c.ch
  rw [hcl] at hch
  have hpn := no_sender A c (idW K i) h0
  have hw : ∀ cc ∈ (#[rcase K.Ch K.z] : Array CommCase), NoWays w (gs.setIfInBounds (idW K i) ph) cc := by
    intro cc hcc
    simp at hcc
    subst hcc
    refine ⟨made_recv _ hch, ?_⟩
    simp [ways, rcase, hch, hpn]
  have hrun := crowd_waits (sl := sl) (A.at_ _ hy) (show stepG P (idW K i == 0) (gf (idW K i)) w = _ by rw [show (idW K i == 0) = false by simpa using hy0]; exact hs) hw
  refine ⟨_, _, _, hrun, .right _ (sum_upd_lt hy (a := 0) hφ), _, w, sl, G, _, vs, ks, _, o, ob, rfl, A.set rfl _ _, ?_, rfl⟩
  have et : t ++ MemOp.ofEvents (idW K i) (gf (idW K i)).frame.fn (gf (idW K i)).frame.place #[] = t := by rw [ofEvents_none, Array.append_empty]
  rw [et]
  refine ⟨c.ok, c.nr, c.hk, c.sh, c.ch, c.row, c.rowJ, c.ur, ?_, c.d0, fun k hk => ?_, fun j j1 j2 => ?_, fun k hk hps hb => ?_, c.bk, c.ow, c.ow', c.mt⟩
  · rw [upd_ne _ _ (Ne.symm hy0), upd_ne _ _ (Ne.symm hy0)]; exact c.st
  · by_cases e : k = i
    · subst e
      rw [upd_same, upd_same]
      exact .inr (.inr (.inl ⟨hp, hd, rfl, hcl, g₀, rfl, hgo⟩))
    · have hne : idW K k ≠ idW K i := fun h => e (idW_inj h)
      rw [upd_ne _ _ hne, upd_ne _ _ hne]; exact c.wk k hk
  · have hne : j ≠ idW K i := by unfold idW; omega
    rw [upd_ne _ _ hne, upd_ne _ _ hne]; exact c.lv j j1 j2
  · rw [upd_ne _ _ (Ne.symm hy0)] at hb
    exact absurd hb (h00 hps)
/-- (8b) A WORKER FINDS THE CHANNEL CLOSED. -/
theorem stepClosed (A : Arr K G gs gf) (c : Cx P K Fin G gf w vs ks φ o ob t) {i : Nat} (hi : i < G.n) (hp : (G.D i).pc = .rc) (hd : Deaf t (idW K i) = (G.D i).deaf) (hcl : G.closed = true) (hgo : GoW P K (G.D i) (AtW P K (ks (idW K i) + 1) (G.D i) (vs i)) 0 g₀ w)
    (hs : stepG P false (gf (idW K i)) w = .comm g₀ #[rcase K.Ch K.z] true (.recv true) w #[]) (h0 : ∀ r, offersAt (gf 0) r true = []) : Goes1 P K Fin G φ gs w sl t (idW K i) := by
  have hy := c.lt hi
  have hy0 : idW K i ≠ 0 := by have := idW_pos K i; omega
  obtain ⟨s, r, hch⟩ := c.ch
  rw [hcl] at hch
  have hpn := no_sender A c (idW K i) h0
  have hrun := crowd_recv_closed (sl := sl) (A.at_ _ hy) (show stepG P (idW K i == 0) (gf (idW K i)) w = _ by rw [show (idW K i == 0) = false by simpa using hy0]; exact hs) hch hpn
  have hm : Mw G.closed (G.D i) G.s { pc := .wr } G.s := .rw hp hcl
  have hok' := ok_work c.ok hi hm
  have hrk := rank_work c.ok hi hm
  have hA := ((GoW.stp hgo).rc hp).2.2 w (RB.refl _ _ _)
  obtain ⟨k', hk'⟩ : ∃ k', ks (idW K i) = k' + 1 := ⟨ks (idW K i) - 1, by have := c.hk (idW K i); omega⟩
  rw [hk'] at hA
  have et : MemOp.ofEvents (idW K i) (gf (idW K i)).frame.fn (gf (idW K i)).frame.place #[] ++ (#[{ g := idW K i, fn := g₀.frame.fn, pos := g₀.frame.place, act := .recvClosed K.Ch }] : Array MemOp) = #[{ g := idW K i, fn := g₀.frame.fn, pos := g₀.frame.place, act := .recvClosed K.Ch }] := by rw [ofEvents_none]; simp
  rw [et] at hrun
  have hu : ∀ z ∈ (#[{ g := idW K i, fn := g₀.frame.fn, pos := g₀.frame.place, act := .recvClosed K.Ch }] : Array MemOp), (∀ m, z.act ≠ .mark m) ∧ (z.g ≤ K.base + G.n ∧ z.act.touch? = none ∧ (∀ a, z.act ≠ .mark (.release a)) ∧ z.act.low w.heap.size) := fun z hz => by
    simp at hz
    subst hz
    exact ⟨by simp, comm_ops (s := 0) (idW_le hi) (.inr (.inr (.inr (.inr rfl)))) c.mt.B⟩
  have hdf : ∀ y, Deaf (t ++ #[{ g := idW K i, fn := g₀.frame.fn, pos := g₀.frame.place, act := .recvClosed K.Ch }]) y = Deaf t y := fun y => deaf_stills (fun z hz => (hu z hz).1) y
  obtain ⟨f, hsn, hrun'⟩ := after_sit (P := P) (K := K) (G' := G.work i { pc := .wr } G.s) (s' := G.s) (d := 0) (by simp [Th.deaf]) hA
  have Dsame : (G.work i { pc := .wr } G.s).D i = { pc := .wr } := upd_same _ _ _
  have Dne : ∀ k, k ≠ i → (G.work i { pc := .wr } G.s).D k = G.D k := fun k hk => upd_ne _ _ hk
  have hdn : (G.work i { pc := .wr } G.s).dn = G.dn := putDn_other _ (by rw [hp]; simp)
  refine ⟨_, _, _, hrun, .left _ _ hrk, _, w, sl, G.work i { pc := .wr } G.s, _, vs, upd ks (idW K i) k', upd φ (idW K i) f, o, ob, rfl, A.set (G' := G.work i { pc := .wr } G.s) rfl _ _, ?_, rfl⟩
  refine ⟨hok', c.nr, fun y => ?_, c.sh, c.ch, fun ho => by rw [hdn]; exact c.row ho, c.rowJ, fun k hk hku => ?_, ?_, ?_, fun k hk => ?_, fun j j1 j2 => ?_, fun k hk hps hb => ?_, fun k hk b hb => ?_, fun k hk hk1 => ?_, fun y hy => ?_, ?_⟩
  · by_cases e : y = idW K i
    · subst e; rw [upd_same]; have := c.hk (idW K i); omega
    · rw [upd_ne _ _ e]; have := c.hk y; omega
  · by_cases e : k = i
    · subst e; rw [Dsame] at hku; cases hku
    · rw [Dne k e] at hku ⊢; rw [hdn]; exact c.ur k hk hku
  · rw [upd_ne _ _ (Ne.symm hy0), upd_ne _ _ (Ne.symm hy0), upd_ne _ _ (Ne.symm hy0)]; exact c.st
  · rw [hdf]; exact c.d0
  · rw [hdf]
    by_cases e : k = i
    · subst e
      rw [upd_same, upd_same, upd_same, Dsame, hd]
      have : (G.D k).deaf = 0 := by simp [Th.deaf, hp]
      rw [this]
      exact hsn
    · have hne : idW K k ≠ idW K i := fun h => e (idW_inj h)
      rw [upd_ne _ _ hne, upd_ne _ _ hne, upd_ne _ _ hne, Dne k e]; exact c.wk k hk
  · have hne : j ≠ idW K i := by unfold idW; omega
    rw [upd_ne _ _ hne, upd_ne _ _ hne, hdf]; exact c.lv j j1 j2
  · rw [upd_ne _ _ (Ne.symm hy0)] at hb
    by_cases e : k = i
    · subst e; rw [Dsame]; rintro ⟨h, _⟩; cases h
    · have hne : idW K k ≠ idW K i := fun h => e (idW_inj h)
      rw [upd_ne _ _ hne, Dne k e]; exact c.px k hk hps hb
  · by_cases e : k = i
    · subst e; rw [Dsame] at hb; cases hb
    · rw [Dne k e] at hb; exact c.bk k hk b hb
  · by_cases e : k = i
    · subst e; rw [Dsame] at hk1; cases hk1
    · rw [Dne k e] at hk1; exact c.ow k hk hk1
  · obtain ⟨k, hk, hk1, hk2⟩ := c.ow' y hy
    have e : k ≠ i := fun e => by subst e; rw [(owns_iff _).1 hk1] at hp; cases hp
    exact ⟨k, hk, by rw [Dne k e]; exact hk1, hk2⟩
  · refine (c.mt.stills (Nat.le_refl _) fun z hz => (hu z hz).2).mu fun k hk hmk => ?_
    by_cases e : k = i
    · subst e; rw [Dsame] at hmk; cases hmk
    · rw [Dne k e] at hmk; exact hmk
/-- A JOB IS HANDED OVER: what stands behind it. -/
theorem hand_inv (c : Cx P K Fin G gf w vs ks φ o ob t) {i : Nat} (hi : i < G.n) (hps : G.p = .sn) (hp : (G.D i).pc = .rc) (hdi : Deaf t (idW K i) = 0) {gs' : Array Goroutine} {gf' : Nat → Goroutine} (A' : Arr K (G.hand K.J K.nb i) gs' gf') {d s r : Nat}
    (hother : ∀ z, z ≠ 0 → z ≠ idW K i → gf' z = gf z) (hS : AfterS P K Fin (AtS P K Fin (ks 0)) (G.st.hand K.J) (gf' 0) ((w.at d).setChan K.Ch 0 #[] false s r false)) (hW : AfterW P K (AtW P K (ks (idW K i))) { pc := .bx, job := G.sent, it := K.nb } (vs i) (gf' (idW K i)) ((w.at d).setChan K.Ch 0 #[] false s r false))
    (hu : ∀ z ∈ u, (∀ m, z.act ≠ .mark m) ∧ (z.g ≤ K.base + G.n ∧ z.act.touch? = none ∧ (∀ a, z.act ≠ .mark (.release a)) ∧ z.act.low w.heap.size)) :
    ∃ μ', Lt2 μ' (G.rank K.N K.J, sumTo (K.base + 1 + G.n) φ) ∧ BInv P K Fin μ' (crowd gs' ((w.at d).setChan K.Ch 0 #[] false s r false) sl) (t ++ u) := by
  have hB := c.mt.B
  have hy0 : idW K i ≠ 0 := by have := idW_pos K i; omega
  obtain ⟨hok', hrk⟩ := ok_hand K.hnb c.ok hps hi hp
  have hcl : G.closed = false := by rw [c.ok.cl, hps]; rfl
  have hlt : K.Ch < (w.at d).heap.size := by show K.Ch < w.heap.size; have := K.bH; omega
  have hblk : ∀ b, b ≠ K.Ch → ((w.at d).setChan K.Ch 0 #[] false s r false).heap[b]? = w.heap[b]? := fun b hb => setChan_ne _ _ _ _ _ _ _ _ _ hb
  have hsz : ((w.at d).setChan K.Ch 0 #[] false s r false).heap.size = w.heap.size := setChan_size _ _ _ _ _ _ _ _
  have hRB : ∀ own mine, (∀ b, b ∈ mine → K.B0 ≤ b) → RB K own mine w ((w.at d).setChan K.Ch 0 #[] false s r false) := fun own mine hm => (RB.at own mine w d).trans (RB.of_chan (by show K.B0 ≤ w.heap.size; exact hB) hm)
  have hch : HAt K (G.hand K.J K.nb i).closed ((w.at d).setChan K.Ch 0 #[] false s r false) := ⟨s, r, by show _ = some (Obj.chan 0 #[] G.closed s r false); rw [hcl]; exact setChan_at _ _ _ _ _ _ _ _ hlt⟩
  obtain ⟨φ', h1, h2, h3, h4, h5⟩ := c.others (G' := G.hand K.J K.nb i) (x := gf 0) (x' := { gf 0 with status := .blocked }) (w₁ := (w.at d).setChan K.Ch 0 #[] false s r false) 0 rfl hch
    (fun k hk hne => hRB _ _ fun b hb => (c.blk hk b hb).1) (fun h => absurd rfl h) (fun h => absurd rfl h) (fun h => .inl h) (.inl rfl) (fun h => absurd rfl h) (fun h => absurd rfl h)
  have Dsame : (G.hand K.J K.nb i).D i = { pc := .bx, job := G.sent, it := K.nb } := upd_same _ _ _
  have Dne : ∀ k, k ≠ i → (G.hand K.J K.nb i).D k = G.D k := fun k hk => upd_ne _ _ hk
  obtain ⟨k₁, hk₁⟩ : ∃ k', ks (idW K i) = k' + 1 := ⟨ks (idW K i) - 1, by have := c.hk (idW K i); omega⟩
  obtain ⟨k₀, hk₀⟩ : ∃ k', ks 0 = k' + 1 := ⟨ks 0 - 1, by have := c.hk 0; omega⟩
  rw [hk₁] at hW
  rw [hk₀] at hS
  have hpr : (G.hand K.J K.nb i).p = (G.st.hand K.J).p := rfl
  have hnr : (G.hand K.J K.nb i).p ≠ .ret := by show (if _ then _ else _) ≠ _; split <;> simp
  have hσ : (G.hand K.J K.nb i).st = G.st.hand K.J := rfl
  have hps' : (G.hand K.J K.nb i).p.deaf = 0 := by show (if _ then Ps.sn else Ps.cl).deaf = 0; split <;> rfl
  unfold AfterS at hS
  rw [if_neg (by rw [← hpr]; exact hnr)] at hS
  obtain ⟨m, hm⟩ := hS
  obtain ⟨f, hsn, hrun'⟩ := after_sit (P := P) (K := K) (G' := G.hand K.J K.nb i) (s' := G.s) (d := 0) (by simp [Th.deaf]) hW
  have hdf : ∀ y, Deaf (t ++ u) y = Deaf t y := fun y => deaf_stills (fun z hz => (hu z hz).1) y
  refine ⟨_, .left _ _ hrk, gs', _, sl, G.hand K.J K.nb i, gf', vs, upd (upd ks (idW K i) k₁) 0 k₀, upd (upd φ' (idW K i) f) 0 ((K.N + 3) * m + 1), o, ob, rfl, A', ?_, rfl⟩
  refine ⟨hok', hnr, fun y => ?_, c.sh.of_block (hblk _ K.hMH) (hblk _ K.hWH), hch, fun ho => (hblk _ K.hCH).trans (c.row ho), ?_, fun k hk hku => ?_, ?_, ?_, fun k hk => ?_, fun j j1 j2 => ?_, fun k hk hp' hb => ?_, fun k hk b hb => ?_, fun k hk hk1 => ?_, fun y hy => ?_, ?_⟩
  · by_cases e0 : y = 0
    · subst e0; rw [upd_same]; have := c.hk 0; omega
    · rw [upd_ne _ _ e0]
      by_cases e : y = idW K i
      · subst e; rw [upd_same]; have := c.hk (idW K i); omega
      · rw [upd_ne _ _ e]; have := c.hk y; omega
  · obtain ⟨cs, hc, hs⟩ := c.rowJ
    exact ⟨cs, (hblk _ K.hCH).trans hc, hs⟩
  · by_cases e : k = i
    · subst e; rw [Dsame] at hku; cases hku
    · rw [Dne k e] at hku ⊢; exact c.ur k hk hku
  · rw [upd_same, upd_same]
    exact .inl ⟨m, rfl, by rw [hσ]; exact hm⟩
  · rw [hdf, hps', c.d0, hps]; rfl
  · rw [hdf]
    have hk0 : idW K k ≠ 0 := by have := idW_pos K k; omega
    rw [upd_ne _ _ hk0, upd_ne _ _ hk0]
    by_cases e : k = i
    · subst e
      rw [upd_same, upd_same, Dsame, hdi]
      exact hsn
    · have hne : idW K k ≠ idW K i := fun h => e (idW_inj h)
      rw [upd_ne _ _ hne, upd_ne _ _ hne, Dne k e, hother _ hk0 hne]
      have := (h4 k hk hk0).1
      rw [woken_by_blocked rfl] at this
      exact this
  · have hne : j ≠ idW K i := by unfold idW; omega
    have hj0 : j ≠ 0 := by omega
    rw [upd_ne _ _ hj0, upd_ne _ _ hne, hother _ hj0 hne, hdf, (h5 j j1 j2).1]; exact c.lv j j1 j2
  · rw [hm.running] at hb; cases hb
  · by_cases e : k = i
    · subst e; rw [Dsame] at hb; cases hb
    · rw [Dne k e] at hb; exact c.bk k hk b hb
  · by_cases e : k = i
    · subst e; rw [Dsame] at hk1; cases hk1
    · rw [Dne k e] at hk1; exact c.ow k hk hk1
  · obtain ⟨k, hk, hk1, hk2⟩ := c.ow' y hy
    have e : k ≠ i := fun e => by subst e; rw [(owns_iff _).1 hk1] at hp; cases hp
    exact ⟨k, hk, by rw [Dne k e]; exact hk1, hk2⟩
  · rw [hsz]
    refine (c.mt.stills (Nat.le_refl _) fun z hz => (hu z hz).2).mu fun k hk hmk => ?_
    by_cases e : k = i
    · subst e; rw [Dsame] at hmk; cases hmk
    · rw [Dne k e] at hmk; exact hmk
end
end Go.Proofs.Ytapjmifhhbpikaa

/- Gangs within gangs: the channel. -/
import Derived.Test.YtapjmifhhbpikaaVp
set_option linter.unusedVariables false
set_option linter.unusedSimpArgs false
namespace Go.Proofs.Ytapjmifhhbpikaa
open Go.Conc Go.ConcN Go.ConcM
open Go.ConcR (KK wgBlock WgAt stA smA rd wr g_of_ofEvents ofEvent_loc_mark ofEvent_cell ofEvent_mk loc_of_ofEvent again_blocked)
section
variable {P : Program} {K : Band} {c : Nat} {id : Nat → Nat} {Fin : Goroutine → World → Prop} {S S' : TG} {G G' : GS} {gs : Array Goroutine} {gf gf' : Nat → Goroutine} {w w' w₁ : World} {sl : Option (Nat × Nat)} {vs : Nat → Array Value} {ks M M' : Nat → Nat} {kb : Nat} {t t' u : Trace} {ng ng' : Nat} {g' g₀ h₀ : Goroutine} {es : Array Event}
/-- Nobody outside offers anything at this gang's channel. -/
def Off (K : Band) (c : Nat) (id : Nat → Nat) (S : TG) (G : GS) (gf : Nat → Goroutine) (ng : Nat) : Prop := ∀ z, z < ng → z ≠ c → (∀ i, i < G.n → z = id i → S.act z) → ∀ b, offersAt (gf z) K.Ch b = []
theorem blocked_offers {g₁ : Goroutine} (ho : g₁.offers = none) (r : Nat) (b : Bool) : offersAt { g₁ with status := .blocked } r b = [] := by
  simp [offersAt, ho]
theorem GoW.at0 {T : Th} {v : Array Value} {k : Nat} {g : Goroutine} (h : GoW P K T (AtW P K (k + 1) T v) 0 g w) : AtW P K (k + 1) T v g w := h w (RB.refl _ _ _)
theorem GoW.stp {T : Th} {v : Array Value} {k : Nat} {g : Goroutine} (h : GoW P K T (AtW P K (k + 1) T v) 0 g w) (hp : T.pc ≠ .bx) : StpW P K (AtW P K k) T v g w := (h.at0).resolve_right fun e => hp e.1
theorem GoS.stp {σ : St} {k : Nat} {g : Goroutine} (h : GoS P K (AtS P K Fin (k + 1) σ) 0 g w) : StpS P K Fin (AtS P K Fin k) (AtW P K k) σ g w := h w (RB.refl _ _ _)
/-- A worker offers no send; a receive only if it is parked. -/
theorem sit_offers {T : Th} {v : Array Value} {k m d : Nat} {g : Goroutine} (h : SitW P K G T v k m d g w) (r : Nat) : offersAt g r true = [] ∧ ((∃ g₀, g = parked g₀ #[rcase K.Ch K.z] (.recv true) ∧ T.pc = .rc) ∨ ∀ r, offersAt g r false = []) := by
  rcases h with ⟨_, _, hg⟩ | ⟨_, _, _, _, g₀, h5, hg⟩ | ⟨h1, _, _, _, g₀, h5, hg⟩ | ⟨_, _, _, _, g₀, h5, hg⟩ | ⟨_, hq⟩
  · have hr := hg.running
    exact ⟨offersAt_of_not_blocked (by rw [hr]; simp) r true, .inr fun r => offersAt_of_not_blocked (by rw [hr]; simp) r false⟩
  · have ho := (AtW.run_off hg.at0).2
    rw [h5]
    exact ⟨blocked_offers ho r true, .inr fun r => blocked_offers ho r false⟩
  · rw [h5]
    exact ⟨offersAt_parked_recv' _ _ _ _ _, .inl ⟨g₀, rfl, h1⟩⟩
  · rw [h5]
    exact ⟨offersAt_of_not_blocked (by simp) r true, .inr fun r => offersAt_of_not_blocked (by simp) r false⟩
  · have hr : g.status ≠ .blocked := by rcases hq.status with e | e <;> rw [e] <;> simp
    exact ⟨offersAt_of_not_blocked hr r true, .inr fun r => offersAt_of_not_blocked hr r false⟩
/-- The starter offers no receive; a send only if it is parked. -/
theorem sitS_offers {k m : Nat} {g : Goroutine} (h : SitS P K Fin G k m g w) (r : Nat) : offersAt g r false = [] ∧ ((∃ g₀, g = parked g₀ #[scase K.Ch (jobV G.sent) (.tuple #[])] .send ∧ G.p = .sn ∧ GoS P K (AtS P K Fin (k + 1) G.st) 0 g₀ w) ∨ ∀ r, offersAt g r true = []) := by
  rcases h with hg | ⟨_, _, _, g₀, h5, hg⟩ | ⟨h1, _, g₀, h5, hg⟩
  · have hr := hg.running
    exact ⟨offersAt_of_not_blocked (by rw [hr]; simp) r false, .inr fun r => offersAt_of_not_blocked (by rw [hr]; simp) r true⟩
  · have ho := (GoS.stp hg).off
    rw [h5]
    exact ⟨blocked_offers ho r false, .inr fun r => blocked_offers ho r true⟩
  · rw [h5]
    exact ⟨offersAt_parked_send' _ _ _ _ _ _, .inl ⟨g₀, rfl, h1, hg⟩⟩
/-- Where a number lies. -/
theorem Arr.of (A : Arr ng gs gf) {j : Nat} {g : Goroutine} (h : gs[j]? = some g) : j < ng ∧ g = gf j := by
  have hlt : j < ng := by have := (Array.getElem?_eq_some_iff.1 h).1; rw [A.size] at this; exact this
  have := A.at_ j hlt
  rw [h] at this
  exact ⟨hlt, Option.some.inj this⟩
theorem stand_cases {i j : Nat} {x : Goroutine} (h : (gs.setIfInBounds i ph)[j]? = some x) : (j = i ∧ x = ph) ∨ (j ≠ i ∧ gs[j]? = some x) := getElem?_stand gs i j x h
/-- Who it is. -/
theorem Cx.who (h : Cx P K c id Fin S G gf w vs ks kb M t ng) (j : Nat) : j = c ∨ (∃ i, i < G.n ∧ j = id i ∧ ¬ S.act j) ∨ (j ≠ c ∧ ∀ i, i < G.n → j = id i → S.act j) := by
  by_cases hc : j = c
  · exact .inl hc
  · by_cases hi : ∃ i, i < G.n ∧ j = id i ∧ ¬ S.act j
    · exact .inr (.inl hi)
    · refine .inr (.inr ⟨hc, fun i hi' e => ?_⟩)
      apply Classical.byContradiction
      exact fun hn => hi ⟨i, hi', e, hn⟩
/-- What a free worker offers. -/
theorem Cx.offers_wk (h : Cx P K c id Fin S G gf w vs ks kb M t ng) {i : Nat} (hi : i < G.n) (hna : ¬ S.act (id i)) (r : Nat) : offersAt (gf (id i)) r true = [] ∧ ((∃ g₀, gf (id i) = parked g₀ #[rcase K.Ch K.z] (.recv true) ∧ (G.D i).pc = .rc) ∨ ∀ r, offersAt (gf (id i)) r false = []) :=
  sit_offers ((h.wk i hi).resolve_left hna) r
/-- Nobody sends, for the worker that receives: the starter isn't parked. -/
theorem no_sender (A : Arr ng gs gf) (h : Cx P K c id Fin S G gf w vs ks kb M t ng) (hoff : Off K c id S G gf ng) (y : Nat) (h0 : ∀ r, offersAt (gf c) r true = []) : partners (gs.setIfInBounds y ph) K.Ch true = [] := by
  refine partners_nil fun j g hj => ?_
  rcases stand_cases hj with ⟨_, rfl⟩ | ⟨hne, hg⟩
  · exact offersAt_ph _ _
  · obtain ⟨hlt, rfl⟩ := A.of hg
    rcases h.who j with e | ⟨i, hi, e, hna⟩ | ⟨hc, hb⟩
    · rw [e]; exact h0 _
    · rw [e] at hna ⊢; exact (h.offers_wk hi hna _).1
    · exact hoff j hlt hc hb _
/-- Comm's entries touch nothing. -/
theorem comm_ops {s : Nat} {z : MemOp} (hg : z.g < ng) (ha : z.act = .send K.Ch s ∨ z.act = .sendDone K.Ch s ∨ (∃ c, z.act = .recv K.Ch s c) ∨ z.act = .recvDone K.Ch s ∨ z.act = .recvClosed K.Ch) {sz : Nat} (hB : K.B0 ≤ sz) : z.g < ng ∧ z.act.low sz ∧ (∀ a, z.act ≠ .mark (.release a)) ∧ z.act.touch? = none := by
  have hl : K.Ch < sz := by have := K.bH; omega
  rcases ha with e | e | ⟨c, e⟩ | e | e <;> rw [e] <;> exact ⟨hg, hl, by simp, rfl⟩
theorem deaf_stills (hu : ∀ z ∈ u, ∀ m, z.act ≠ .mark m) (y : Nat) : Deaf (t ++ u) y = Deaf t y := Go.ConcN.Deaf_still t y u fun z hz => ⟨hu z hz _, hu z hz _⟩
/-- (8a) A WORKER WAITS FOR A JOB. -/
theorem stepPark (A : Arr ng gs gf) (R : TR S t ng) (h : Cx P K c id Fin S G gf w vs ks kb M t ng) (hoff : Off K c id S G gf ng) {i : Nat} (hi : i < G.n) (hna : ¬ S.act (id i)) (hp : (G.D i).pc = .rc) (hd : Deaf t (id i) = (G.D i).deaf) (hrn : (gf (id i)).status = .running) (hcl : G.closed = false) (hgo : GoW P K (G.D i) (AtW P K (ks i + 1) (G.D i) (vs i)) 0 g₀ w)
    (hs : stepG P false (gf (id i)) w = .comm g₀ #[rcase K.Ch K.z] true (.recv true) w #[]) (h0 : ∀ r, offersAt (gf c) r true = []) (h00 : G.p = .sn → (gf c).status ≠ .blocked) : Ran P K c id Fin S G gf w vs ks M t ng (id i) gs sl := by
  obtain ⟨hy, hyc, hy0⟩ := h.idL hi
  obtain ⟨s, r, hch⟩ := h.ch
  rw [hcl] at hch
  have hpn := no_sender A h hoff (id i) h0
  have hw : ∀ cc ∈ (#[rcase K.Ch K.z] : Array CommCase), NoWays w (gs.setIfInBounds (id i) ph) cc := by
    intro cc hcc
    simp at hcc
    subst hcc
    refine ⟨made_recv _ hch, ?_⟩
    simp [ways, rcase, hch, hpn]
  have hrun := crowd_waits (sl := sl) (A.at_ _ hy) (show stepG P (id i == 0) (gf (id i)) w = _ by rw [hy0]; exact hs) hw
  have et : t ++ MemOp.ofEvents (id i) (gf (id i)).frame.fn (gf (id i)).frame.place #[] = t := by rw [ofEvents_none, Array.append_empty]
  refine ⟨_, w, _, S, G, _, vs, ks, kb, upd M (id i) 0, id, ng, hrun, A.set _ _, by rw [et]; exact R, by rw [et]; exact Frm.self (.inr ⟨h.memI hi, hna⟩) _ _, RB.refl _ _ _, .inr ⟨rfl, rfl, .inr ⟨sum_upd_le hy, nrun_falls hy hrn rfl⟩⟩, ?_, fun k hk => ⟨rfl, hk, fun _ => ⟨rfl, rfl, rfl⟩⟩⟩
  rw [et]
  refine { h with st := ?_, wk := fun k hk => ?_, px := fun k hk hps hb => ?_ }
  · rw [upd_ne _ _ (Ne.symm hyc), upd_ne _ _ (Ne.symm hyc)]; exact h.st
  · by_cases e : k = i
    · subst e
      rw [upd_same, upd_same]
      exact .inr (.inr (.inr (.inl ⟨hp, hd, rfl, hcl, g₀, rfl, hgo⟩)))
    · have hne : id k ≠ id i := fun e' => e (h.idJ _ _ hk hi e')
      rw [upd_ne _ _ hne, upd_ne _ _ hne]; exact h.wk k hk
  · rw [upd_ne _ _ (Ne.symm hyc)] at hb
    exact absurd hb (h00 hps)
/-- (8b) A WORKER FINDS THE CHANNEL CLOSED. -/
theorem stepClosed (A : Arr ng gs gf) (R : TR S t ng) (h : Cx P K c id Fin S G gf w vs ks kb M t ng) (hoff : Off K c id S G gf ng) {i : Nat} (hi : i < G.n) (hna : ¬ S.act (id i)) (hp : (G.D i).pc = .rc) (hd : Deaf t (id i) = (G.D i).deaf) (hcl : G.closed = true) (hgo : GoW P K (G.D i) (AtW P K (ks i + 1) (G.D i) (vs i)) 0 g₀ w)
    (hs : stepG P false (gf (id i)) w = .comm g₀ #[rcase K.Ch K.z] true (.recv true) w #[]) (h0 : ∀ r, offersAt (gf c) r true = []) : Ran P K c id Fin S G gf w vs ks M t ng (id i) gs sl := by
  obtain ⟨hy, hyc, hy0⟩ := h.idL hi
  obtain ⟨s, r, hch⟩ := h.ch
  rw [hcl] at hch
  have hpn := no_sender A h hoff (id i) h0
  have hrun := crowd_recv_closed (sl := sl) (A.at_ _ hy) (show stepG P (id i == 0) (gf (id i)) w = _ by rw [hy0]; exact hs) hch hpn
  have hm : Mw G.closed (G.D i) G.s { pc := .wr } G.s := .rw hp hcl
  have hok' := ok_work h.ok hi hm
  have hrk := rank_work h.ok hi hm
  have hA := ((GoW.stp hgo (by rw [hp]; simp)).rc hp).2.2 w (RB.refl _ _ _)
  obtain ⟨k', hk'⟩ : ∃ k', ks i = k' + 1 := ⟨ks i - 1, by have := h.hk.1 i; omega⟩
  rw [hk'] at hA
  have et : MemOp.ofEvents (id i) (gf (id i)).frame.fn (gf (id i)).frame.place #[] ++ (#[{ g := id i, fn := g₀.frame.fn, pos := g₀.frame.place, act := .recvClosed K.Ch }] : Array MemOp) = #[{ g := id i, fn := g₀.frame.fn, pos := g₀.frame.place, act := .recvClosed K.Ch }] := by rw [ofEvents_none]; simp
  rw [et] at hrun
  have hu : ∀ z ∈ (#[{ g := id i, fn := g₀.frame.fn, pos := g₀.frame.place, act := .recvClosed K.Ch }] : Array MemOp), (∀ m, z.act ≠ .mark m) ∧ (z.g < ng ∧ z.act.low S.sz ∧ (∀ a, z.act ≠ .mark (.release a)) ∧ z.act.touch? = none) := fun z hz => by
    simp at hz
    subst hz
    exact ⟨by simp, comm_ops (s := 0) hy (.inr (.inr (.inr (.inr rfl)))) (by rw [h.sz]; exact h.B)⟩
  have hdf : ∀ y, Deaf (t ++ #[{ g := id i, fn := g₀.frame.fn, pos := g₀.frame.place, act := .recvClosed K.Ch }]) y = Deaf t y := fun y => deaf_stills (fun z hz => (hu z hz).1) y
  obtain ⟨m, hsn, hrun'⟩ := after_sit (P := P) (K := K) (G' := G.work i { pc := .wr } G.s) (d := 0) (by simp [Th.deaf]) hA
  have Dsame : (G.work i { pc := .wr } G.s).D i = { pc := .wr } := upd_same _ _ _
  have Dne : ∀ k, k ≠ i → (G.work i { pc := .wr } G.s).D k = G.D k := fun k hk => upd_ne _ _ hk
  have hdn : (G.work i { pc := .wr } G.s).dn = G.dn := putDn_other _ (by rw [hp]; simp)
  have hmi : S.free c (id i) := .inr ⟨h.memI hi, hna⟩
  refine ⟨_, w, _, S, G.work i { pc := .wr } G.s, _, vs, upd ks i k', kb, upd M (id i) m, id, ng, hrun, A.set _ _, R.still fun z hz => (hu z hz).2,
    ⟨Far.refl _ _ _ _, fun _ _ => rfl, fun _ => .rfl, fun _ _ _ => .rfl, fun z => by simp, fun _ _ => .rfl, fun _ _ => rfl, ⟨rfl, rfl⟩, fun z _ hz => upd_ne _ _ (TG.ne_free hz hmi), fun z _ hz => .inl (upd_ne _ _ (TG.ne_free hz hmi)), fun z _ _ => hdf z, ⟨Nat.le_refl _, Nat.le_succ _⟩⟩,
    RB.refl _ _ _, .inl hrk, ?_, fun k hk => ⟨rfl, hk, fun ha => ?_⟩⟩
  · refine { h with ok := hok', hk := ⟨fun y => ?_, ?_⟩, row := fun ho => by rw [hdn]; exact h.row ho, ur := fun k hk hku => ?_, st := ?_, d0 := ?_, wk := fun k hk => ?_, busy := fun k hk ha => ?_, px := fun k hk hps hb => ?_, bk := fun k hk b hb => ?_, ow := fun k hk hk1 => ?_, ow' := fun y hy => ?_, mu := fun k hk => ?_ }
    · by_cases e : y = i
      · subst e; rw [upd_same]; have := h.hk.1 y; omega
      · rw [upd_ne _ _ e]; have := h.hk.1 y; omega
    · have := h.hk.2; omega
    · by_cases e : k = i
      · subst e; rw [Dsame] at hku; cases hku
      · rw [Dne k e] at hku ⊢; rw [hdn]; exact h.ur k hk hku
    · rw [upd_ne _ _ (Ne.symm hyc), upd_ne _ _ (Ne.symm hyc)]; exact h.st
    · rw [hdf]; exact h.d0
    · rw [hdf]
      by_cases e : k = i
      · subst e
        rw [upd_same, upd_same, upd_same, Dsame, hd]
        have : (G.D k).deaf = 0 := by simp [Th.deaf, hp]
        rw [this]
        exact .inr hsn
      · have hne : id k ≠ id i := fun e' => e (h.idJ _ _ hk hi e')
        rw [upd_ne _ _ hne, upd_ne _ _ hne, upd_ne _ _ e, Dne k e]; exact h.wk k hk
    · have e : k ≠ i := fun e => hna (e ▸ ha)
      rw [Dne k e]; exact h.busy k hk ha
    · rw [upd_ne _ _ (Ne.symm hyc)] at hb
      by_cases e : k = i
      · subst e; rw [Dsame]; rintro ⟨h, _⟩; cases h
      · have hne : id k ≠ id i := fun e' => e (h.idJ _ _ hk hi e')
        rw [upd_ne _ _ hne, Dne k e]; exact h.px k hk hps hb
    · by_cases e : k = i
      · subst e; rw [Dsame] at hb; cases hb
      · rw [Dne k e] at hb; exact h.bk k hk b hb
    · by_cases e : k = i
      · subst e; rw [Dsame] at hk1; cases hk1
      · rw [Dne k e] at hk1; exact h.ow k hk hk1
    · obtain ⟨k, hk, hk1, hk2⟩ := h.ow' y hy
      have e : k ≠ i := fun e => by subst e; rw [(owns_iff _).1 hk1] at hp; cases hp
      exact ⟨k, hk, by rw [Dne k e]; exact hk1, hk2⟩
    · by_cases e : k = i
      · subst e; rw [Dsame, h.mu k hk]; simp [Th.mute, hp]
      · rw [Dne k e]; exact h.mu k hk
  · have e : k ≠ i := fun e => hna (e ▸ ha)
    exact ⟨Dne k e, rfl, upd_ne _ _ e⟩
/-- A JOB IS HANDED OVER: what stands behind it. -/
theorem hand_inv (R : TR S t ng) (h : Cx P K c id Fin S G gf w vs ks kb M t ng) {i : Nat} (hi : i < G.n) (hna : ¬ S.act (id i)) (hps : G.p = .sn) (hp : (G.D i).pc = .rc) (hdi : Deaf t (id i) = 0) {gs' : Array Goroutine} {gf' : Nat → Goroutine} (A' : Arr ng gs' gf') {d s r : Nat} {y : Nat}
    (hother : ∀ z, z ≠ c → z ≠ id i → gf' z = gf z) (hS : AfterS P K Fin (AtS P K Fin kb) (G.st.hand K.J) (gf' c) ((w.at d).setChan K.Ch 0 #[] false s r false)) (hW : AfterW P K (AtW P K (ks i)) { pc := .bx, job := G.sent, it := K.nb } (vs i) (gf' (id i)) ((w.at d).setChan K.Ch 0 #[] false s r false))
    (hu : ∀ z ∈ u, (∀ m, z.act ≠ .mark m) ∧ (z.g < ng ∧ z.act.low S.sz ∧ (∀ a, z.act ≠ .mark (.release a)) ∧ z.act.touch? = none)) (hrun : runT P (crowd gs w sl) y = (.next (crowd gs' ((w.at d).setChan K.Ch 0 #[] false s r false) sl), u)) :
    Ran P K c id Fin S G gf w vs ks M t ng y gs sl := by
  have hB := h.B
  have hK := h.bl
  obtain ⟨hy, hyc, hy0⟩ := h.idL hi
  obtain ⟨hok', hrk⟩ := ok_hand K.hnb h.ok hps hi hp
  have hcl : G.closed = false := by rw [h.ok.cl, hps]; rfl
  have hlt : K.Ch < (w.at d).heap.size := by show K.Ch < w.heap.size; have := K.bH; omega
  have hblk : ∀ b, b ≠ K.Ch → ((w.at d).setChan K.Ch 0 #[] false s r false).heap[b]? = w.heap[b]? := fun b hb => setChan_ne _ _ _ _ _ _ _ _ _ hb
  have hsz : ((w.at d).setChan K.Ch 0 #[] false s r false).heap.size = w.heap.size := setChan_size _ _ _ _ _ _ _ _
  have hRB : ∀ own mine, (∀ b, b ∈ mine → b ≠ K.Ch) → RB K own mine w ((w.at d).setChan K.Ch 0 #[] false s r false) := fun own mine hm => (RB.at own mine w d).trans (RB.of_chan (by show K.B0 ≤ w.heap.size; exact hB) hm)
  have hch : HAt K (G.hand K.J K.nb i).closed ((w.at d).setChan K.Ch 0 #[] false s r false) := ⟨s, r, by show _ = some (Obj.chan 0 #[] G.closed s r false); rw [hcl]; exact setChan_at _ _ _ _ _ _ _ _ hlt⟩
  obtain ⟨_, h4⟩ := h.others (G' := G.hand K.J K.nb i) (x := gf c) (x' := { gf c with status := .blocked }) (w₁ := (w.at d).setChan K.Ch 0 #[] false s r false) c rfl hch
    (fun k hk ha hne => hRB _ _ fun b hb => (hK.ne (h.mine hk ha b hb).1).2.2.1) (fun h => absurd rfl h) (fun h => absurd rfl h) (fun h => .inl h) (.inl rfl) (fun h => absurd rfl h) (fun h => absurd rfl h)
  have Dsame : (G.hand K.J K.nb i).D i = { pc := .bx, job := G.sent, it := K.nb } := upd_same _ _ _
  have Dne : ∀ k, k ≠ i → (G.hand K.J K.nb i).D k = G.D k := fun k hk => upd_ne _ _ hk
  obtain ⟨k₁, hk₁⟩ : ∃ k', ks i = k' + 1 := ⟨ks i - 1, by have := h.hk.1 i; omega⟩
  obtain ⟨k₀, hk₀⟩ : ∃ k', kb = k' + 1 := ⟨kb - 1, by have := h.hk.2; omega⟩
  rw [hk₁] at hW
  rw [hk₀] at hS
  have hpr : (G.hand K.J K.nb i).p = (G.st.hand K.J).p := rfl
  have hnr : (G.hand K.J K.nb i).p ≠ .ret := by show (if _ then _ else _) ≠ _; split <;> simp
  have hσ : (G.hand K.J K.nb i).st = G.st.hand K.J := rfl
  have hps' : (G.hand K.J K.nb i).p.deaf = 0 := by show (if _ then Ps.sn else Ps.cl).deaf = 0; split <;> rfl
  unfold AfterS at hS
  rw [if_neg (by rw [← hpr]; exact hnr)] at hS
  obtain ⟨m, hm⟩ := hS
  obtain ⟨mi, hsn, hrun'⟩ := after_sit (P := P) (K := K) (G' := G.hand K.J K.nb i) (d := 0) (by simp [Th.deaf]) hW
  have hdf : ∀ y, Deaf (t ++ u) y = Deaf t y := fun y => deaf_stills (fun z hz => (hu z hz).1) y
  have hmc : S.free c c := .inl rfl
  have hmi : S.free c (id i) := .inr ⟨h.memI hi, hna⟩
  refine ⟨gs', _, u, S, G.hand K.J K.nb i, gf', vs, upd ks i k₁, k₀, upd (upd M (id i) mi) c m, id, ng, hrun, A', R.still fun z hz => (hu z hz).2,
    ⟨⟨rfl, rfl, by rw [hsz]; exact Nat.le_refl _, .refl _, fun k hk _ _ _ h5 => hblk k fun e => h5 (by rw [e]; exact hK.H)⟩, fun _ _ => rfl, fun _ => .rfl, fun _ _ _ => .rfl, fun z => by simp, fun _ _ => .rfl, fun _ _ => rfl, ⟨rfl, rfl⟩, fun z _ hz => by rw [upd_ne _ _ (TG.ne_free hz hmc), upd_ne _ _ (TG.ne_free hz hmi)], fun z _ hz => .inl (hother z (TG.ne_free hz hmc) (TG.ne_free hz hmi)), fun z _ _ => hdf z, ⟨Nat.le_refl _, Nat.le_succ _⟩⟩,
    hRB false [] (fun b hb => by cases hb), .inl hrk, ?_, fun k hk => ⟨rfl, hk, fun ha => ?_⟩⟩
  · refine { h with ok := hok', nr := hnr, hk := ⟨fun y => ?_, ?_⟩, sh := h.sh.of_block (hblk _ K.hMH) (hblk _ K.hWH), ch := hch, row := fun ho => (hblk _ K.hCH).trans (h.row ho), rowJ := ?_, ur := fun k hk hku => ?_, st := ?_, d0 := ?_, wk := fun k hk => ?_, busy := fun k hk ha => ?_, px := fun k hk hp' hb => ?_, bk := fun k hk b hb => ?_, ow := fun k hk hk1 => ?_, ow' := fun y hy => ?_, mu := fun k hk => ?_, B := by rw [hsz]; exact hB, sz := by rw [hsz]; exact h.sz }
    · by_cases e : y = i
      · subst e; rw [upd_same]; have := h.hk.1 y; omega
      · rw [upd_ne _ _ e]; have := h.hk.1 y; omega
    · have := h.hk.2; omega
    · obtain ⟨cs, hc, hs⟩ := h.rowJ
      exact ⟨cs, (hblk _ K.hCH).trans hc, hs⟩
    · by_cases e : k = i
      · subst e; rw [Dsame] at hku; cases hku
      · rw [Dne k e] at hku ⊢; exact h.ur k hk hku
    · rw [upd_same]
      exact .inl (by rw [hσ]; exact hm)
    · rw [hdf, hps', h.d0, hps]; rfl
    · rw [hdf]
      have hkc : id k ≠ c := (h.idc.2 k hk).2.1
      rw [upd_ne _ _ hkc]
      by_cases e : k = i
      · subst e
        rw [upd_same, upd_same, Dsame, hdi]
        exact .inr hsn
      · have hne : id k ≠ id i := fun e' => e (h.idJ _ _ hk hi e')
        rw [upd_ne _ _ hne, upd_ne _ _ e, Dne k e, hother _ hkc hne]
        have := (h4 k hk hkc).1
        rw [woken_by_blocked rfl] at this
        exact this
    · have e : k ≠ i := fun e => hna (e ▸ ha)
      rw [Dne k e]; exact h.busy k hk ha
    · rw [hm.running] at hb; cases hb
    · rw [hsz]
      by_cases e : k = i
      · subst e; rw [Dsame] at hb; cases hb
      · rw [Dne k e] at hb; exact h.bk k hk b hb
    · by_cases e : k = i
      · subst e; rw [Dsame] at hk1; cases hk1
      · rw [Dne k e] at hk1; exact h.ow k hk hk1
    · obtain ⟨k, hk, hk1, hk2⟩ := h.ow' y hy
      have e : k ≠ i := fun e => by subst e; rw [(owns_iff _).1 hk1] at hp; cases hp
      exact ⟨k, hk, by rw [Dne k e]; exact hk1, hk2⟩
    · by_cases e : k = i
      · subst e; rw [Dsame, h.mu k hk]; simp [Th.mute, hp]
      · rw [Dne k e]; exact h.mu k hk
  · have e : k ≠ i := fun e => hna (e ▸ ha)
    exact ⟨Dne k e, rfl, upd_ne _ _ e⟩
end
end Go.Proofs.Ytapjmifhhbpikaa

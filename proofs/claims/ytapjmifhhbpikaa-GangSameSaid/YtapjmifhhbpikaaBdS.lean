/- The gang in the machine: closing the channel, starting a worker; every step; the whole phase. -/
import Derived.Test.YtapjmifhhbpikaaBdR
set_option linter.unusedVariables false
set_option linter.unusedSimpArgs false
namespace Go.Proofs.Ytapjmifhhbpikaa
open Go.Conc Go.ConcN Go.ConcM
open Go.ConcR (KK wgBlock WgAt stA smA rd wr g_of_ofEvents ofEvent_loc_mark ofEvent_cell ofEvent_mk loc_of_ofEvent again_blocked)
section
variable {P : Program} {K : Band} {Fin : Goroutine → World → Prop} {G G' : GS} {gs : Array Goroutine} {gf : Nat → Goroutine} {w w' w₁ : World} {sl : Option (Nat × Nat)} {vs : Nat → Array Value} {ks φ : Nat → Nat} {o : Option Nat} {ob : Nat → Option Nat} {t u : Trace} {g₀ h₀ g' : Goroutine} {es : Array Event}
/-- (10) THE STARTER CLOSES THE CHANNEL. -/
theorem stepShut (A : Arr K G gs gf) (c : Cx P K Fin G gf w vs ks φ o ob t) (hS : StpS P K Fin (AtS P K Fin (ks 0)) (AtW P K (ks 0)) G.st (gf 0) w) (hp : G.p = .cl) : Goes1 P K Fin G φ gs w sl t 0 := by
  have hy : 0 < K.base + 1 + G.n := by omega
  have hB := c.mt.B
  have hlt : K.Ch < w.heap.size := by have := K.bH; omega
  have hcl : G.closed = false := by rw [c.ok.cl, hp]; rfl
  obtain ⟨s, r, hch⟩ := c.ch
  rw [hcl] at hch
  obtain ⟨hwk, hst⟩ := hS.cl hp
  obtain ⟨g', es, hs, hr', hes, haft⟩ := hst s r hch
  obtain ⟨hok', hrk⟩ := ok_shutC c.ok hp
  have hblk : ∀ b, b ≠ K.Ch → (w.setChan K.Ch 0 #[] true s r false).heap[b]? = w.heap[b]? := fun b hb => setChan_ne _ _ _ _ _ _ _ _ _ hb
  have hsz : (w.setChan K.Ch 0 #[] true s r false).heap.size = w.heap.size := setChan_size _ _ _ _ _ _ _ _
  have hch' : HAt K G.shutC.closed (w.setChan K.Ch 0 #[] true s r false) := ⟨s, r, setChan_at _ _ _ _ _ _ _ _ hlt⟩
  obtain ⟨φ', h1, h2, h3, h4, h5⟩ := c.others (G' := G.shutC) (x := gf 0) (x' := g') (w₁ := w.setChan K.Ch 0 #[] true s r false) 0 rfl hch'
    (fun k hk hne => RB.of_chan hB fun b hb => (c.blk hk b hb).1) (fun h => absurd rfl h) (fun h => absurd rfl h) (fun h => .inl h) (.inr ⟨rfl, hwk, hr'⟩) (fun h => absurd rfl h) (fun h => absurd rfl h)
  have hrun := run_own (sl := sl) A hy hs
  obtain ⟨k', hk'⟩ : ∃ k', ks 0 = k' + 1 := ⟨ks 0 - 1, by have := c.hk 0; omega⟩
  rw [hk'] at haft
  have hAft : ∃ m, GoS P K (AtS P K Fin (k' + 1) { G.st with p := .kd }) m g' (w.setChan K.Ch 0 #[] true s r false) := by
    unfold AfterS at haft
    rw [if_neg (by simp)] at haft
    exact haft
  obtain ⟨m, hgo⟩ := hAft
  have hσ : ({ G.st with p := .kd } : St) = G.shutC.st := rfl
  rw [hσ] at hgo
  have hu : ∀ z ∈ MemOp.ofEvents 0 (gf 0).frame.fn (gf 0).frame.place es, (∀ m, z.act ≠ .mark m) ∧ (z.g = 0 ∧ (∀ a, z.act ≠ .mark (.release a)) ∧ z.act.low w.heap.size ∧ ∀ x, z.act.touch? = some x → ∃ b, x.loc = .obj b ∧ ¬ K.Shun (.obj b)) := fun z hz => by
    obtain ⟨e, he, rfl⟩ := Go.Conc.mem_ofEvents hz
    obtain ⟨e1, e2, e3⟩ := hes e he
    have hm : ∀ m, MemAct.ofEvent e ≠ .mark m := fun m hm => e2 m (loc_of_ofEvent hm)
    exact ⟨hm, rfl, fun a => hm _, e3, fun x hx => ⟨_, e1 x hx, K.sO _⟩⟩
  have hdf : ∀ y, Deaf (t ++ MemOp.ofEvents 0 (gf 0).frame.fn (gf 0).frame.place es) y = Deaf t y := fun y => deaf_stills (fun z hz => (hu z hz).1) y
  refine ⟨_, _, _, hrun, .left _ _ hrk, _, _, sl, G.shutC, _, vs, upd ks 0 k', upd φ' 0 ((K.N + 3) * m + 1), o, ob, rfl, A.step (G' := G.shutC) rfl hy _ _ _, ?_, rfl⟩
  refine ⟨hok', by simp [GS.shutC], fun y => ?_, c.sh.of_block (hblk _ K.hMH) (hblk _ K.hWH), hch', fun ho => (hblk _ K.hCH).trans (c.row ho), ?_, c.ur, ?_, ?_, fun k hk => ?_, fun j j1 j2 => ?_, fun k hk hps hb => ?_, c.bk, c.ow, c.ow', ?_⟩
  · by_cases e : y = 0
    · subst e; rw [upd_same]; have := c.hk 0; omega
    · rw [upd_ne _ _ e]; have := c.hk y; omega
  · obtain ⟨cs, hc, hs⟩ := c.rowJ
    exact ⟨cs, (hblk _ K.hCH).trans hc, hs⟩
  · simp only [if_true, upd_same]
    exact .inl ⟨m, rfl, hgo⟩
  · rw [hdf, c.d0, hp]; rfl
  · have hne : idW K k ≠ 0 := by have := idW_pos K k; omega
    simp only [if_neg hne, upd_ne _ _ hne]
    rw [hdf]
    exact (h4 k hk hne).1
  · have hne : j ≠ 0 := by omega
    obtain ⟨q, hq1, hq2⟩ := c.lv j j1 j2
    simp only [if_neg hne, upd_ne _ _ hne]
    rw [hdf, (h5 j j1 j2).1, (h5 j j1 j2).2]
    exact ⟨q, hq1, hq2⟩
  · cases hps
  · rw [hsz]
    exact c.mt.objs fun z hz => (hu z hz).2
/-- (11) THE STARTER STARTS A WORKER. -/
theorem stepSpawn (A : Arr K G gs gf) (c : Cx P K Fin G gf w vs ks φ o ob t) (hS : StpS P K Fin (AtS P K Fin (ks 0)) (AtW P K (ks 0)) G.st (gf 0) w) (hp : G.p = .go) : Goes1 P K Fin G φ gs w sl t 0 := by
  have hy : 0 < K.base + 1 + G.n := by omega
  obtain ⟨g', child, hs, hcr, hchild, haft⟩ := hS.spawn hp
  obtain ⟨hok', hrk⟩ := ok_spawn c.ok hp
  have hrun := runT_crowd_spawn (sl := sl) (A.at_ 0 hy) hs
  have hid : idW K G.n = gs.size := by rw [A.size]; unfold idW; omega
  obtain ⟨k', hk'⟩ : ∃ k', ks 0 = k' + 1 := ⟨ks 0 - 1, by have := c.hk 0; omega⟩
  rw [hk'] at haft hchild
  have hnr : (G.spawn K.N K.J).p ≠ .ret := by show (if _ then Ps.gk else (if _ then Ps.sn else Ps.cl)) ≠ _; split <;> (try split) <;> simp
  have hd0' : (G.spawn K.N K.J).p.deaf = 0 := by show (if _ then Ps.gk else (if _ then Ps.sn else Ps.cl)).deaf = 0; split <;> (try split) <;> rfl
  have hpr : (G.spawn K.N K.J).p = (G.st.spawn K.N K.J).p := rfl
  have hσ : (G.st.spawn K.N K.J) = (G.spawn K.N K.J).st := rfl
  unfold AfterS at haft
  rw [if_neg (by rw [← hpr]; exact hnr)] at haft
  obtain ⟨m, hm⟩ := haft
  obtain ⟨mc, hmc⟩ := hchild (vs G.n)
  have Dold : ∀ k, k < G.n → (G.spawn K.N K.J).D k = G.D k := fun k hk => upd_ne _ _ (by omega)
  have Dnew : (G.spawn K.N K.J).D G.n = { pc := .rc } := upd_same _ _ _
  have hn' : (G.spawn K.N K.J).n = G.n + 1 := rfl
  have hn0 : idW K G.n ≠ 0 := by have := idW_pos K G.n; omega
  have hD0 : Deaf t 0 = 0 := by rw [c.d0, hp]; rfl
  have eO : ((MemOp.ofEvents 0 (gf 0).frame.fn (gf 0).frame.place #[]).push { g := 0, fn := (gf 0).frame.fn, pos := (gf 0).frame.place, act := .go gs.size } |>.push { g := gs.size, fn := child.frame.fn, pos := (gf 0).frame.place, act := .start }) = #[{ g := 0, fn := (gf 0).frame.fn, pos := (gf 0).frame.place, act := .go (idW K G.n) }, { g := idW K G.n, fn := child.frame.fn, pos := (gf 0).frame.place, act := .start }] := by
    rw [hid]; rfl
  rw [eO] at hrun
  have hdf : ∀ y, Deaf (t ++ #[{ g := 0, fn := (gf 0).frame.fn, pos := (gf 0).frame.place, act := .go (idW K G.n) }, { g := idW K G.n, fn := child.frame.fn, pos := (gf 0).frame.place, act := .start }]) y = Deaf t y := fun y => deaf_stills (fun z hz m => by simp at hz; rcases hz with rfl | rfl <;> simp) y
  refine ⟨_, _, _, hrun, .left _ _ hrk, _, w, sl, G.spawn K.N K.J, fun y => if y = idW K G.n then child else if y = 0 then g' else gf y, vs, upd (upd ks (idW K G.n) (k' + 0)) 0 k', upd (upd φ (idW K G.n) ((K.N + 3) * mc + 1)) 0 ((K.N + 3) * m + 1), o, ob, rfl, ⟨by rw [hn']; simp [A.size]; omega, fun y hy' => ?_⟩, ?_, rfl⟩
  · rw [hn'] at hy'
    by_cases e : y = idW K G.n
    · subst e
      rw [if_pos rfl, hid, Array.getElem?_push]
      simp
    · rw [if_neg e]
      have hlt : y < K.base + 1 + G.n := by unfold idW at e; omega
      rw [Array.getElem?_push, if_neg (by simp [A.size]; omega)]
      by_cases e0 : y = 0
      · subst e0
        rw [if_pos rfl, Array.getElem?_setIfInBounds_self_of_lt (by rw [A.size]; exact hlt)]
      · rw [if_neg e0, Array.getElem?_setIfInBounds_ne (Ne.symm e0), A.at_ y hlt]
  refine ⟨hok', hnr, fun y => ?_, c.sh, c.ch, c.row, c.rowJ, fun k hk hku => ?_, ?_, ?_, fun k hk => ?_, fun j j1 j2 => ?_, fun k hk hps hb => ?_, fun k hk b hb => ?_, fun k hk hk1 => ?_, fun y hy' => ?_, ?_⟩
  · by_cases e : y = 0
    · subst e; rw [upd_same]; have := c.hk 0; omega
    · rw [upd_ne _ _ e]
      by_cases e : y = idW K G.n
      · subst e; rw [upd_same]; have := c.hk 0; omega
      · rw [upd_ne _ _ e]; have := c.hk y; omega
  · rw [hn'] at hk
    by_cases e : k = G.n
    · subst e; rw [Dnew] at hku; cases hku
    · rw [Dold k (by omega)] at hku ⊢; exact c.ur k (by omega) hku
  · simp only [if_neg (Ne.symm hn0), if_true, upd_same]
    exact .inl ⟨m, rfl, by rw [← hσ]; exact hm⟩
  · rw [hdf, hd0', hD0]
  · rw [hn'] at hk
    have hk0 : idW K k ≠ 0 := by have := idW_pos K k; omega
    simp only [if_neg hk0, upd_ne _ _ hk0]
    rw [hdf]
    by_cases e : k = G.n
    · subst e
      simp only [if_true, upd_same]
      rw [Dnew, deaf_new c.mt (by unfold idW; omega)]
      exact .inl ⟨by simp, by simp [Th.deaf], mc, rfl, hmc⟩
    · have hne : idW K k ≠ idW K G.n := fun h => e (idW_inj h)
      simp only [if_neg hne, upd_ne _ _ hne]
      rw [Dold k (by omega)]
      exact c.wk k (by omega)
  · have hj0 : j ≠ 0 := by omega
    have hne : j ≠ idW K G.n := by unfold idW; omega
    simp only [if_neg hne, if_neg hj0, upd_ne _ _ hne, upd_ne _ _ hj0]
    rw [hdf]; exact c.lv j j1 j2
  · simp only [if_neg (Ne.symm hn0), if_true] at hb
    rw [hm.running] at hb; cases hb
  · rw [hn'] at hk
    by_cases e : k = G.n
    · subst e; rw [Dnew] at hb; cases hb
    · rw [Dold k (by omega)] at hb; exact c.bk k (by omega) b hb
  · rw [hn'] at hk
    by_cases e : k = G.n
    · subst e; rw [Dnew] at hk1; cases hk1
    · rw [Dold k (by omega)] at hk1; exact c.ow k (by omega) hk1
  · obtain ⟨k, hk, hk1, hk2⟩ := c.ow' y hy'
    exact ⟨k, by rw [hn']; omega, by rw [Dold k hk]; exact hk1, hk2⟩
  · have h1 := c.mt.mu (mu' := fun i => ((G.spawn K.N K.J).D i).mute) fun k hk hmk => by rw [Dold k hk] at hmk; exact hmk
    exact h1.fork (x := { g := 0, fn := (gf 0).frame.fn, pos := (gf 0).frame.place, act := .go (idW K G.n) }) (y := { g := idW K G.n, fn := child.frame.fn, pos := (gf 0).frame.place, act := .start }) ⟨rfl, rfl⟩ ⟨rfl, rfl⟩ hD0 (by rw [Dnew]; rfl)
/-- The tape goes on. -/
theorem Cx.at (c : Cx P K Fin G gf w vs ks φ o ob t) (d : Nat) : Cx P K Fin G gf (w.at d) vs ks φ o ob t := by
  refine ⟨c.ok, c.nr, c.hk, c.sh, c.ch, c.row, c.rowJ, c.ur, ?_, c.d0, fun i hi => ?_, c.lv, c.px, c.bk, c.ow, c.ow', c.mt⟩
  · rcases c.st with ⟨m, h, hg⟩ | ⟨h1, h2, h3, g₀, h5, hg⟩ | ⟨h1, h2, g₀, h5, hg⟩
    · exact .inl ⟨m, h, GoS.rely hg (RB.at _ _ _ _)⟩
    · exact .inr (.inl ⟨h1, h2, h3, g₀, h5, GoS.rely hg (RB.at _ _ _ _)⟩)
    · exact .inr (.inr ⟨h1, h2, g₀, h5, GoS.rely hg (RB.at _ _ _ _)⟩)
  · rcases c.wk i hi with ⟨h1, h2, m, h3, hg⟩ | ⟨h1, h2, h3, h4, g₀, h5, hg⟩ | ⟨h1, h2, h3, h4, g₀, h5, hg⟩ | ⟨h1, h2, h3, h4, g₀, h5, hg⟩ | ⟨h1, q, h2, hq⟩
    · exact .inl ⟨h1, h2, m, h3, GoW.rely hg (RB.at _ _ _ _)⟩
    · exact .inr (.inl ⟨h1, h2, h3, h4, g₀, h5, GoW.rely hg (RB.at _ _ _ _)⟩)
    · exact .inr (.inr (.inl ⟨h1, h2, h3, h4, g₀, h5, GoW.rely hg (RB.at _ _ _ _)⟩))
    · exact .inr (.inr (.inr (.inl ⟨h1, h2, h3, h4, g₀, h5, GoW.rely hg (RB.at _ _ _ _)⟩)))
    · exact .inr (.inr (.inr (.inr ⟨h1, q, h2, hq⟩)))
/-- A worker at the channel. -/
theorem stepRecv (A : Arr K G gs gf) (c : Cx P K Fin G gf w vs ks φ o ob t) {i : Nat} (hi : i < G.n) (hp : (G.D i).pc = .rc) (hd : Deaf t (idW K i) = (G.D i).deaf) (hφ : 0 < φ (idW K i)) (hgo : GoW P K (G.D i) (AtW P K (ks (idW K i) + 1) (G.D i) (vs i)) 0 g₀ w)
    (hs : stepG P false (gf (idW K i)) w = .comm g₀ #[rcase K.Ch K.z] true (.recv true) w #[]) : Goes1 P K Fin G φ gs w sl t (idW K i) := by
  cases hcl : G.closed with
  | true =>
    refine stepClosed A c hi hp hd hcl hgo hs ?_
    rcases (offers_st c K.Ch).2 with ⟨h₀, _, hps, _⟩ | h
    · rw [c.ok.cl, hps] at hcl; cases hcl
    · exact h
  | false =>
    rcases (offers_st c K.Ch).2 with ⟨h₀, h0, hps, hS⟩ | h
    · exact stepMeetR A c hi hp hd hgo hs h0 hps hS
    · refine stepPark A c hi hp hd hφ hcl hgo hs h fun hps hb => ?_
      rcases c.st with ⟨m, _, hg⟩ | ⟨e, _⟩ | ⟨_, _, h₁, e, _⟩
      · rw [hg.running] at hb; cases hb
      · rw [hps] at e; cases e
      · have := h K.Ch
        rw [e, offersAt_parked_send, if_pos rfl] at this
        cases this
/-- ████ EVERY STEP of who can run. ████ -/
theorem step_one (A : Arr K G gs gf) (c : Cx P K Fin G gf w vs ks φ o ob t) {y : Nat} {g : Goroutine} (hg : gs[y]? = some g) (hr : g.status = .running) :
    Goes1 P K Fin G φ gs w sl t y ∨ (y = 0 ∧ ∃ m₁ ops, runT P (crowd gs w sl) 0 = (.next m₁, ops) ∧ Ended P K Fin m₁ (t ++ ops)) := by
  obtain ⟨rfl, hc⟩ := A.cases hg
  rcases hc with rfl | ⟨j1, j2⟩ | ⟨i, hi, rfl⟩
  · rcases c.st with ⟨m, hφ, hgo⟩ | ⟨_, _, _, g₀, h5, _⟩ | ⟨_, _, g₀, h5, _⟩
    · rcases hgo.cases with hst | ⟨m', rfl, hst⟩
      · have hgo0 : GoS P K (AtS P K Fin (ks 0 + 1) G.st) 0 (gf 0) w := hst
        have hS := GoS.stp hgo0
        by_cases h1 : G.p = .go
        · exact .inl (stepSpawn A c hS h1)
        by_cases h2 : G.p = .sn
        · have hs := (hS.sn h2).1
          by_cases hex : ∃ i, i < G.n ∧ ((G.D i).pc = .rc ∧ (gf (idW K i)).status = .blocked)
          · exact .inl (stepMeetS A c h2 hgo0 hs hex)
          · exact .inl (stepParkS A c h2 (by omega) hgo0 hs fun i hi h => hex ⟨i, hi, h⟩)
        by_cases h3 : G.p = .cl
        · exact .inl (stepShut A c hS h3)
        by_cases h4 : G.p = .w3 ∧ G.s.ws = 0
        · exact .inl (stepBlockS A c h4.1 hφ h4.2 hgo0 (hS.block h4.1 G.s c.sh h4.2))
        rcases stepMoveS (sl := sl) A c hS h1 h2 h3 (fun e h => h4 ⟨e, h⟩) with h | h
        · exact .inl h
        · exact .inr ⟨rfl, h⟩
      · obtain ⟨g', w', es, hs, hD, hgo'⟩ := hst w (RB.refl _ _ _)
        exact .inl (stepIdleS A c hφ hs hD hgo')
    · rw [h5] at hr; cases hr
    · rw [h5] at hr; cases hr
  · obtain ⟨q, hφ, hq⟩ := c.lv y j1 j2
    cases q with
    | zero => rw [hq.1] at hr; cases hr
    | succ q =>
      rcases hq with ⟨h, _⟩ | ⟨_, g', es, hm, hs, hq'⟩
      · rw [h] at hr; cases hr
      · exact .inl (stepLeave A c (by omega) (by omega) hφ hm hs hq' fun i hi e => by unfold idW at e; omega)
  · rcases c.wk i hi with ⟨h1, h2, m, hφ, hgo⟩ | ⟨_, _, _, _, g₀, h5, _⟩ | ⟨_, _, _, _, g₀, h5, _⟩ | ⟨h1, h2, h3, h4, g₀, h5, hgo⟩ | ⟨h1, q, hφ, hq⟩
    · rcases hgo.cases with hst | ⟨m', rfl, hst⟩
      · have hgo0 : GoW P K (G.D i) (AtW P K (ks (idW K i) + 1) (G.D i) (vs i)) 0 (gf (idW K i)) w := hst
        have hS := GoW.stp hgo0
        by_cases e1 : (G.D i).pc = .rc
        · exact .inl (stepRecv A c hi e1 h2 (by omega) hgo0 (hS.rc e1).1)
        by_cases e2 : (G.D i).pc = .s1 ∧ G.s.ms = 0
        · exact .inl (stepBlockW A c hi e2.1 h2 hφ e2.2 hgo0 (hS.block e2.1 G.s c.sh e2.2))
        exact .inl (stepMoveW A c hi e1 h2 hS fun e h => e2 ⟨e, h⟩)
      · obtain ⟨g', w', es, hs, hD, hgo'⟩ := hst w (RB.refl _ _ _)
        exact .inl (stepIdleW A c hi h1 h2 hφ hs hD hgo')
    · rw [h5] at hr; cases hr
    · rw [h5] at hr; cases hr
    · have hS := GoW.stp hgo
      have hrn := hS.run
      refine .inl (stepRecv A c hi h1 h2 (by omega) hgo ?_)
      rw [h5, stepG_tries]
      have : ({ g₀ with status := .running } : Goroutine) = g₀ := by rw [← hrn]
      rw [this]
      exact (hS.rc h1).1
    · cases q with
      | zero => rw [hq.1] at hr; cases hr
      | succ q =>
        rcases hq with ⟨h, _⟩ | ⟨_, g', es, hm, hs, hq'⟩
        · rw [h] at hr; cases hr
        · exact .inl (stepLeave A c (c.lt hi) (by have := idW_pos K i; omega) hφ hm hs hq' fun k hk e => by rw [← idW_inj e]; exact h1)
/-- Nobody sleeps. -/
theorem all_awake (A : Arr K G gs gf) (c : Cx P K Fin G gf w vs ks φ o ob t) : ∀ g ∈ gs, awake g := by
  have of_lv : ∀ {q d : Nat} {g : Goroutine}, QuitsD P q d g → awake g := fun hq tt => by rcases hq.status with e | e <;> rw [e] <;> simp
  have of_run : ∀ {g : Goroutine}, g.status = .running → awake g := fun h tt => by rw [h]; simp
  intro g hg
  obtain ⟨y, hy⟩ := Array.mem_iff_getElem?.1 hg
  obtain ⟨rfl, hc⟩ := A.cases hy
  rcases hc with rfl | ⟨j1, j2⟩ | ⟨i, hi, rfl⟩
  · rcases c.st with ⟨m, hφ, hgo⟩ | ⟨_, _, _, g₀, h5, _⟩ | ⟨_, _, g₀, h5, _⟩
    · exact of_run hgo.running
    · rw [h5]; intro tt; simp
    · rw [h5]; intro tt; simp [parked]
  · obtain ⟨q, hφ, hq⟩ := c.lv y j1 j2
    exact of_lv hq
  · rcases c.wk i hi with ⟨h1, h2, m, hφ, hgo⟩ | ⟨_, _, _, _, g₀, h5, _⟩ | ⟨_, _, _, _, g₀, h5, _⟩ | ⟨h1, h2, h3, h4, g₀, h5, hgo⟩ | ⟨h1, q, hφ, hq⟩
    · exact of_run hgo.running
    · rw [h5]; intro tt; simp
    · rw [h5]; intro tt; simp [parked]
    · rw [h5]; intro tt; simp
    · exact of_lv hq
/-- Somebody can run. -/
theorem some_running (A : Arr K G gs gf) (c : Cx P K Fin G gf w vs ks φ o ob t) : ∃ (i : Nat) (g : Goroutine), gs[i]? = some g ∧ g.status = .running := by
  have hy : 0 < K.base + 1 + G.n := by omega
  by_cases h0 : (gf 0).status = .running
  · exact ⟨0, _, A.at_ 0 hy, h0⟩
  have hsn : (G.p = .sn ∧ (gf 0).status = .blocked) ∨ (G.p = .w3 ∧ G.s.ws = 0) := by
    rcases c.st with ⟨m, hφ, hgo⟩ | ⟨h1, _, h3, g₀, h5, _⟩ | ⟨h1, _, g₀, h5, _⟩
    · exact absurd hgo.running h0
    · exact .inr ⟨h1, h3⟩
    · exact .inl ⟨h1, by rw [h5]; rfl⟩
  obtain ⟨i, hi, hl⟩ := live c.ok K.hN (hsn.imp (fun h => h.1) id)
  refine ⟨_, _, A.at_ _ (c.lt hi), ?_⟩
  rcases c.wk i hi with ⟨h1, h2, m, hφ, hgo⟩ | ⟨e, _, _, h4, g₀, h5, _⟩ | ⟨e, _, _, h4, g₀, h5, _⟩ | ⟨h1, h2, h3, h4, g₀, h5, hgo⟩ | ⟨e, q, hφ, hq⟩
  · exact hgo.running
  · rcases hl with h | ⟨h, _⟩ | ⟨_, h⟩
    · rw [e] at h; cases h
    · rw [e] at h; cases h
    · exact absurd h4 h
  · rcases hl with h | ⟨h, h'⟩ | ⟨h, _⟩
    · rw [e] at h; cases h
    · rcases h' with h' | h'
      · rw [h4] at h'; cases h'
      · rcases hsn with ⟨_, hb⟩ | ⟨hw, _⟩
        · exact absurd ⟨e, by rw [h5]; rfl⟩ (c.px i hi h' hb)
        · rw [h'] at hw; cases hw
    · rw [e] at h; cases h
  · rw [h5]
  · rcases hl with h | ⟨h, _⟩ | ⟨h, _⟩ <;> rw [e] at h <;> cases h
/-- ████ A STEP. ████ -/
theorem band_step {μ : Nat × Nat} {m : Machine} (h : BInv P K Fin μ m t) :
    (∃ m₁ ops μ', stepT P m = (.next m₁, ops) ∧ Lt2 μ' μ ∧ BInv P K Fin μ' m₁ (t ++ ops)) ∨ ∃ m₁ ops, stepT P m = (.next m₁, ops) ∧ Ended P K Fin m₁ (t ++ ops) := by
  obtain ⟨gs, w, sl, G, gf, vs, ks, φ, o, ob, rfl, A, c, rfl⟩ := h
  obtain ⟨y, g, d, sl', hg, hr, hst⟩ := crowd_pick (P := P) (w := w) (sl := sl) (all_awake A c) (some_running A c)
  rcases step_one (sl := sl') A (c.at d) hg hr with ⟨m₁, ops, μ', h1, h2, h3⟩ | ⟨rfl, m₁, ops, h1, h2⟩
  · exact .inl ⟨m₁, ops, μ', hst.trans h1, h2, h3⟩
  · exact .inr ⟨m₁, ops, hst.trans h1, h2⟩
/-- ████ THE WHOLE. ████ -/
theorem band_run : ∀ {μ : Nat × Nat} {m : Machine} {t : Trace}, BInv P K Fin μ m t → ∃ n m' t', runNT P n m t = (.next m', t') ∧ Ended P K Fin m' t' := by
  intro μ
  induction μ using (Prod.lex Nat.lt_wfRel Nat.lt_wfRel).wf.induction with
  | _ μ ih =>
    intro m t h
    rcases band_step h with ⟨m₁, ops, μ', h1, h2, h3⟩ | ⟨m₁, ops, h1, h2⟩
    · obtain ⟨n, m', t', h4, h5⟩ := ih μ' h2 h3
      exact ⟨n + 1, m', t', by simp only [runNT, h1]; exact h4, h5⟩
    · exact ⟨1, m₁, t ++ ops, by simp only [runNT, h1], h2⟩
end
end Go.Proofs.Ytapjmifhhbpikaa

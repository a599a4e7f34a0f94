/- Gangs within gangs: meetings at the channel; closing it; a worker started; every step of a gang's. -/
import Derived.Test.YtapjmifhhbpikaaVq
set_option linter.unusedVariables false
set_option linter.unusedSimpArgs false
namespace Go.Proofs.Ytapjmifhhbpikaa
open Go.Conc Go.ConcN Go.ConcM
open Go.ConcR (KK wgBlock WgAt stA smA rd wr g_of_ofEvents ofEvent_loc_mark ofEvent_cell ofEvent_mk loc_of_ofEvent again_blocked)
section
variable {P : Program} {K : Band} {c : Nat} {id : Nat → Nat} {Fin : Goroutine → World → Prop} {S S' : TG} {G G' : GS} {gs : Array Goroutine} {gf gf' : Nat → Goroutine} {w w' w₁ : World} {sl : Option (Nat × Nat)} {vs : Nat → Array Value} {ks M M' : Nat → Nat} {kb : Nat} {t t' u : Trace} {ng ng' : Nat} {g' g₀ h₀ : Goroutine} {es : Array Event}
theorem four_ops {i j s r c : Nat} {f1 f2 f3 f4 : FuncId} {p1 p2 p3 p4 : String} (hi : i < ng) (hj : j < ng) {sz : Nat} (hB : K.B0 ≤ sz) : ∀ z ∈ (#[{ g := i, fn := f1, pos := p1, act := .send K.Ch s }, { g := j, fn := f2, pos := p2, act := .recv K.Ch r c }, { g := i, fn := f3, pos := p3, act := .sendDone K.Ch s }, { g := j, fn := f4, pos := p4, act := .recvDone K.Ch r }] : Array MemOp),
    (∀ m, z.act ≠ .mark m) ∧ (z.g < ng ∧ z.act.low sz ∧ (∀ a, z.act ≠ .mark (.release a)) ∧ z.act.touch? = none) := by
  intro z hz
  have hl : K.Ch < sz := by have := K.bH; omega
  simp at hz
  rcases hz with rfl | rfl | rfl | rfl
  · exact ⟨by simp, hi, hl, by simp, rfl⟩
  · exact ⟨by simp, hj, hl, by simp, rfl⟩
  · exact ⟨by simp, hi, hl, by simp, rfl⟩
  · exact ⟨by simp, hj, hl, by simp, rfl⟩
/-- (8c) A WORKER COMES TO THE CHANNEL, WHERE THE STARTER WAITS. -/
theorem stepMeetR (A : Arr ng gs gf) (R : TR S t ng) (h : Cx P K c id Fin S G gf w vs ks kb M t ng) (hoff : Off K c id S G gf ng) {i : Nat} (hi : i < G.n) (hna : ¬ S.act (id i)) (hp : (G.D i).pc = .rc) (hd : Deaf t (id i) = (G.D i).deaf) (hgo : GoW P K (G.D i) (AtW P K (ks i + 1) (G.D i) (vs i)) 0 g₀ w)
    (hs : stepG P false (gf (id i)) w = .comm g₀ #[rcase K.Ch K.z] true (.recv true) w #[]) (h0 : gf c = parked h₀ #[scase K.Ch (jobV G.sent) (.tuple #[])] .send) (hps : G.p = .sn) (hS : GoS P K (AtS P K Fin (kb + 1) G.st) 0 h₀ w) : Ran P K c id Fin S G gf w vs ks M t ng (id i) gs sl := by
  obtain ⟨hy, hyc, hy0⟩ := h.idL hi
  have hcl : G.closed = false := by rw [h.ok.cl, hps]; rfl
  have hcn := h.idc.1
  obtain ⟨s, r, hch⟩ := h.ch
  rw [hcl] at hch
  have h00 : gs[c]? = some (parked h₀ #[scase K.Ch (jobV G.sent) (.tuple #[])] .send) := by rw [A.at_ c hcn, h0]
  have hpn : partners (gs.setIfInBounds (id i) ph) K.Ch true = [(c, 0)] := by
    rw [partners_one (stand_get (i := id i) (Ne.symm hyc) h00) fun k x hk hx => ?_, offersAt_parked_send, if_pos rfl]
    · rfl
    · rcases stand_cases hx with ⟨_, rfl⟩ | ⟨hne, hg⟩
      · exact offersAt_ph _ _
      · obtain ⟨hlt, rfl⟩ := A.of hg
        rcases h.who k with e | ⟨j, hj, e, hnj⟩ | ⟨hc, hb⟩
        · exact absurd e hk
        · rw [e] at hnj ⊢; exact (h.offers_wk hj hnj _).1
        · exact hoff k hlt hc hb _
  have hrun := crowd_recv_meets (sl := sl) (A.at_ _ hy) (show stepG P (id i == 0) (gf (id i)) w = _ by rw [hy0]; exact hs) hch (Ne.symm hyc) h00 hpn
  have hdi : Deaf t (id i) = 0 := by rw [hd]; simp [Th.deaf, hp]
  have hSs := (GoS.stp hS).sn hps
  have hWs := (GoW.stp hgo (by rw [hp]; simp)).rc hp
  have hRB : RB K false [] w ((w.at w.drawn).setChan K.Ch 0 #[] false (s + 1) (r + 1) false) := (RB.at false [] w w.drawn).trans (RB.of_chan (by show K.B0 ≤ w.heap.size; exact h.B) fun b hb => by cases hb)
  have A1 := A.set c (h₀.finishComm P #[scase K.Ch (jobV G.sent) (.tuple #[])] .send 0 undef false)
  have A2 := A1.set (id i) (g₀.finishComm P #[rcase K.Ch K.z] (.recv true) 0 (jobV G.sent) true)
  have eO : ∀ x : Array MemOp, MemOp.ofEvents (id i) (gf (id i)).frame.fn (gf (id i)).frame.place #[] ++ x = x := fun x => by rw [ofEvents_none, Array.empty_append]
  rw [eO] at hrun
  exact hand_inv (sl := sl) R h hi hna hps hp hdi A2 (d := w.drawn) (s := s + 1) (r := r + 1) (fun z hz1 hz2 => by rw [upd_ne _ _ hz2, upd_ne _ _ hz1])
    (by rw [upd_ne _ _ (Ne.symm hyc), upd_same]; exact hSs.2 _ hRB)
    (by rw [upd_same]; exact hWs.2.1 G.sent (h.ok.snt.2.1 hps) _ hRB)
    (four_ops (i := c) (j := id i) (s := s) (r := r) (c := 0) (f1 := h₀.frame.fn) (f2 := g₀.frame.fn) (f3 := h₀.frame.fn) (f4 := g₀.frame.fn) (p1 := h₀.frame.place) (p2 := g₀.frame.place) (p3 := h₀.frame.place) (p4 := g₀.frame.place) hcn hy (by rw [h.sz]; exact h.B)) hrun
/-- (9a) THE STARTER WAITS FOR A WORKER. -/
theorem stepParkS (A : Arr ng gs gf) (R : TR S t ng) (h : Cx P K c id Fin S G gf w vs ks kb M t ng) (hoff : Off K c id S G gf ng) (hps : G.p = .sn) (hgo : GoS P K (AtS P K Fin (kb + 1) G.st) 0 (gf c) w) (hs : stepG P K.mn (gf c) w = .comm (gf c) #[scase K.Ch (jobV G.sent) (.tuple #[])] true .send w #[])
    (hno : ∀ i, i < G.n → ¬ ((G.D i).pc = .rc ∧ (gf (id i)).status = .blocked)) : Ran P K c id Fin S G gf w vs ks M t ng c gs sl := by
  have hy := h.idc.1
  have hcl : G.closed = false := by rw [h.ok.cl, hps]; rfl
  obtain ⟨s, r, hch⟩ := h.ch
  rw [hcl] at hch
  have hpn : partners (gs.setIfInBounds c ph) K.Ch false = [] := by
    refine partners_nil fun j g hj => ?_
    rcases stand_cases hj with ⟨_, rfl⟩ | ⟨hne, hg⟩
    · exact offersAt_ph _ _
    · obtain ⟨hlt, rfl⟩ := A.of hg
      rcases h.who j with e | ⟨i, hi, e, hnj⟩ | ⟨hc, hb⟩
      · exact absurd e hne
      · rw [e] at hnj ⊢
        rcases (h.offers_wk hi hnj K.Ch).2 with ⟨g₁, e1, e2⟩ | e'
        · exact absurd ⟨e2, by rw [e1]; rfl⟩ (hno i hi)
        · exact e' _
      · exact hoff j hlt hc hb _
  have hw : ∀ cc ∈ (#[scase K.Ch (jobV G.sent) (.tuple #[])] : Array CommCase), NoWays w (gs.setIfInBounds c ph) cc := by
    intro cc hcc
    simp at hcc
    subst hcc
    refine ⟨made_send _ _ hch, ?_⟩
    simp [ways, scase, hch, hpn]
  have hrun := crowd_waits (sl := sl) (A.at_ _ hy) (show stepG P (c == 0) (gf c) w = _ by rw [← h.mn]; exact hs) hw
  have et : t ++ MemOp.ofEvents c (gf c).frame.fn (gf c).frame.place #[] = t := by rw [ofEvents_none, Array.append_empty]
  refine ⟨_, w, _, S, G, _, vs, ks, kb, upd M c 0, id, ng, hrun, A.set _ _, by rw [et]; exact R, by rw [et]; exact Frm.self (.inl rfl) _ _, RB.refl _ _ _, .inr ⟨rfl, rfl, .inr ⟨sum_upd_le hy, nrun_falls hy hgo.running rfl⟩⟩, ?_, fun k hk => ⟨rfl, hk, fun _ => ⟨rfl, rfl, rfl⟩⟩⟩
  rw [et]
  refine { h with st := ?_, wk := fun k hk => ?_, px := fun k hk _ _ => ?_ }
  · rw [upd_same, upd_same]; exact .inr (.inr ⟨hps, rfl, _, rfl, hgo⟩)
  · have hne : id k ≠ c := (h.idc.2 k hk).2.1
    rw [upd_ne _ _ hne, upd_ne _ _ hne]; exact h.wk k hk
  · have hne : id k ≠ c := (h.idc.2 k hk).2.1
    rw [upd_ne _ _ hne]; exact hno k hk
/-- Who is parked at the channel. -/
theorem parked_wk (h : Cx P K c id Fin S G gf w vs ks kb M t ng) {i : Nat} (hi : i < G.n) (hna : ¬ S.act (id i)) (hcl : G.closed = false) {gj : Goroutine} {zj : Value} {shj : CommShape} (hpk : gf (id i) = parked gj #[rcase K.Ch zj] shj) :
    ∃ g₀, (G.D i).pc = .rc ∧ Deaf t (id i) = (G.D i).deaf ∧ gj.finishComm P #[rcase K.Ch zj] shj 0 (jobV G.sent) true = Go.Conc.served g₀ (recvd true (jobV G.sent) true) ∧ GoW P K (G.D i) (AtW P K (ks i + 1) (G.D i) (vs i)) 0 g₀ w := by
  rcases (h.wk i hi).resolve_left hna with ⟨_, _, hg⟩ | ⟨_, _, _, _, g₀, h5, hg⟩ | ⟨h1, h2, _, _, g₀, h5, hg⟩ | ⟨_, _, _, hc, g₀, h5, hg⟩ | ⟨_, hq⟩
  · have hr := hg.running
    rw [hpk] at hr; cases hr
  · have ho := (AtW.run_off hg.at0).2
    rw [hpk] at h5
    have := congrArg Goroutine.offers h5
    have e : (parked gj #[rcase K.Ch zj] shj).offers = g₀.offers := this
    rw [ho] at e; cases e
  · refine ⟨g₀, h1, h2, ?_, hg⟩
    rw [hpk] at h5
    have e1 : (parked gj #[rcase K.Ch zj] shj).offers = (parked g₀ #[rcase K.Ch K.z] (.recv true)).offers := by rw [h5]
    have e2 : zj = K.z ∧ shj = .recv true := by simpa [parked, rcase] using e1
    rw [e2.1, e2.2] at h5 ⊢
    rw [← finishComm_parked P gj #[rcase K.Ch K.z] #[rcase K.Ch K.z] (.recv true) (.recv true), h5, finishComm_parked, finishComm_recv]
  · rw [hcl] at hc; cases hc
  · have := hq.status
    rw [hpk] at this; simp [parked] at this
/-- (9b) THE STARTER COMES TO THE CHANNEL, WHERE WORKERS WAIT. -/
theorem stepMeetS (A : Arr ng gs gf) (R : TR S t ng) (h : Cx P K c id Fin S G gf w vs ks kb M t ng) (hoff : Off K c id S G gf ng) (hps : G.p = .sn) (hgo : GoS P K (AtS P K Fin (kb + 1) G.st) 0 (gf c) w) (hs : stepG P K.mn (gf c) w = .comm (gf c) #[scase K.Ch (jobV G.sent) (.tuple #[])] true .send w #[])
    (hex : ∃ i, i < G.n ∧ ((G.D i).pc = .rc ∧ (gf (id i)).status = .blocked)) : Ran P K c id Fin S G gf w vs ks M t ng c gs sl := by
  have hy := h.idc.1
  have hcl : G.closed = false := by rw [h.ok.cl, hps]; rfl
  obtain ⟨s, r, hch⟩ := h.ch
  rw [hcl] at hch
  have notbusy : ∀ i, i < G.n → (G.D i).pc = .rc → ¬ S.act (id i) := fun i hi e ha => by have := h.busy i hi ha; rw [e] at this; rcases this with e | e <;> cases e
  have hall : ∀ j k, (j, k) ∈ partners (gs.setIfInBounds c ph) K.Ch false → k = 0 ∧ j ≠ c ∧ ∃ gj zj shj, gs[j]? = some (parked gj #[rcase K.Ch zj] shj) := by
    intro j k hjk
    obtain ⟨x, hx, hk⟩ := mem_partners.1 hjk
    rcases stand_cases hx with ⟨_, rfl⟩ | ⟨hne, hg⟩
    · cases hk
    · obtain ⟨hlt, rfl⟩ := A.of hg
      rcases h.who j with e | ⟨i, hi, e, hnj⟩ | ⟨hc, hb⟩
      · exact absurd e hne
      · rw [e] at hnj
        rcases (h.offers_wk hi hnj K.Ch).2 with ⟨g₁, e1, e2⟩ | e'
        · rw [e, e1, offersAt_parked_recv, if_pos rfl] at hk
          exact ⟨by simpa using hk, hne, g₁, K.z, .recv true, by rw [hg, e, e1]⟩
        · rw [e, e'] at hk; cases hk
      · rw [hoff j hlt hc hb] at hk; cases hk
  have hne : partners (gs.setIfInBounds c ph) K.Ch false ≠ [] := by
    obtain ⟨i, hi, hrc, hb⟩ := hex
    have hyc := (h.idL hi).2.1
    rcases (h.wk i hi).resolve_left (notbusy i hi hrc) with ⟨_, _, hg⟩ | ⟨e, _⟩ | ⟨h1, h2, _, _, g₁, h5, hg⟩ | ⟨_, _, _, _, g₁, h5, hg⟩ | ⟨e, _⟩
    · have hr := hg.running
      rw [hr] at hb; cases hb
    · rw [hrc] at e; cases e
    · have hm : (id i, 0) ∈ partners (gs.setIfInBounds c ph) K.Ch false := mem_partners.2 ⟨gf (id i), stand_get hyc (A.at_ _ (h.idL hi).1), by rw [h5, offersAt_parked_recv, if_pos rfl]; simp⟩
      intro e
      rw [e] at hm; cases hm
    · rw [h5] at hb; cases hb
    · rw [hrc] at e; cases e
  obtain ⟨j, gj, zj, shj, d, hj0, hgj, hrun⟩ := crowd_send_meets_some (sl := sl) (A.at_ _ hy) (show stepG P (c == 0) (gf c) w = _ by rw [← h.mn]; exact hs) hch hne hall
  obtain ⟨hjn, hgj'⟩ := A.of hgj
  obtain ⟨i, hi, rfl, hna⟩ : ∃ i, i < G.n ∧ j = id i ∧ ¬ S.act j := by
    rcases h.who j with e | hx | ⟨hc, hb⟩
    · exact absurd e hj0
    · exact hx
    · have h1 := hoff j hjn hc hb false
      rw [← hgj', offersAt_parked_recv, if_pos rfl] at h1
      cases h1
  have hpk : gf (id i) = parked gj #[rcase K.Ch zj] shj := hgj'.symm
  obtain ⟨g₀, hp, hd, hfin, hgw⟩ := parked_wk h hi hna hcl hpk
  rw [hfin] at hrun
  have hdi : Deaf t (id i) = 0 := by rw [hd]; simp [Th.deaf, hp]
  have hSs := (GoS.stp hgo).sn hps
  have hWs := (GoW.stp hgw (by rw [hp]; simp)).rc hp
  have hRB : RB K false [] w ((w.at d).setChan K.Ch 0 #[] false (s + 1) (r + 1) false) := (RB.at false [] w d).trans (RB.of_chan (by show K.B0 ≤ w.heap.size; exact h.B) fun b hb => by cases hb)
  have A1 := A.set (id i) (Go.Conc.served g₀ (recvd true (jobV G.sent) true))
  have A2 := A1.set c ((gf c).finishComm P #[scase K.Ch (jobV G.sent) (.tuple #[])] .send 0 undef false)
  have eO : ∀ x : Array MemOp, MemOp.ofEvents c (gf c).frame.fn (gf c).frame.place #[] ++ x = x := fun x => by rw [ofEvents_none, Array.empty_append]
  rw [eO] at hrun
  exact hand_inv (sl := sl) R h hi hna hps hp hdi A2 (d := d) (s := s + 1) (r := r + 1) (fun z hz1 hz2 => by rw [upd_ne _ _ hz1, upd_ne _ _ hz2])
    (by rw [upd_same]; exact hSs.2 _ hRB)
    (by rw [upd_ne _ _ hj0, upd_same]; exact hWs.2.1 G.sent (h.ok.snt.2.1 hps) _ hRB)
    (four_ops (i := c) (j := id i) (s := s) (r := r) (c := 0) (f1 := (gf c).frame.fn) (f2 := gj.frame.fn) (f3 := (gf c).frame.fn) (f4 := gj.frame.fn) (p1 := (gf c).frame.place) (p2 := gj.frame.place) (p3 := (gf c).frame.place) (p4 := gj.frame.place) hy hjn (by rw [h.sz]; exact h.B)) hrun
/-- (10) THE STARTER CLOSES THE CHANNEL. -/
theorem stepShut (A : Arr ng gs gf) (R : TR S t ng) (h : Cx P K c id Fin S G gf w vs ks kb M t ng) (hS : StpS P K Fin (AtS P K Fin kb) (AtW P K kb) G.st (gf c) w) (hp : G.p = .cl) : Ran P K c id Fin S G gf w vs ks M t ng c gs sl := by
  have hy := h.idc.1
  have hB := h.B
  have hK := h.bl
  have hlt : K.Ch < w.heap.size := by have := K.bH; omega
  have hcl : G.closed = false := by rw [h.ok.cl, hp]; rfl
  obtain ⟨s, r, hch⟩ := h.ch
  rw [hcl] at hch
  obtain ⟨hwk, hst⟩ := hS.cl hp
  obtain ⟨g', es, hs, hr', hes, haft⟩ := hst s r hch
  obtain ⟨hok', hrk⟩ := ok_shutC h.ok hp
  have hblk : ∀ b, b ≠ K.Ch → (w.setChan K.Ch 0 #[] true s r false).heap[b]? = w.heap[b]? := fun b hb => setChan_ne _ _ _ _ _ _ _ _ _ hb
  have hsz : (w.setChan K.Ch 0 #[] true s r false).heap.size = w.heap.size := setChan_size _ _ _ _ _ _ _ _
  have hch' : HAt K G.shutC.closed (w.setChan K.Ch 0 #[] true s r false) := ⟨s, r, setChan_at _ _ _ _ _ _ _ _ hlt⟩
  obtain ⟨_, h4⟩ := h.others (G' := G.shutC) (x := gf c) (x' := g') (w₁ := w.setChan K.Ch 0 #[] true s r false) c rfl hch'
    (fun k hk ha hne => RB.of_chan hB fun b hb => (hK.ne (h.mine hk ha b hb).1).2.2.1) (fun h => absurd rfl h) (fun h => absurd rfl h) (fun h => .inl h) (.inr ⟨rfl, hwk, hr'⟩) (fun h => absurd rfl h) (fun h => absurd rfl h)
  have hrun := run_own (sl := sl) A hy h.mn.symm hs
  obtain ⟨k', hk'⟩ : ∃ k', kb = k' + 1 := ⟨kb - 1, by have := h.hk.2; omega⟩
  rw [hk'] at haft
  have hAft : ∃ m, GoS P K (AtS P K Fin (k' + 1) { G.st with p := .kd }) m g' (w.setChan K.Ch 0 #[] true s r false) := by
    unfold AfterS at haft
    rw [if_neg (by simp)] at haft
    exact haft
  obtain ⟨m, hgo⟩ := hAft
  have hσ : ({ G.st with p := .kd } : St) = G.shutC.st := rfl
  rw [hσ] at hgo
  have hmc : S.free c c := .inl rfl
  have hu : ∀ z ∈ MemOp.ofEvents c (gf c).frame.fn (gf c).frame.place es, (∀ m, z.act ≠ .mark m) ∧ (z.g = c ∧ z.act.low S.sz ∧ (∀ a, z.act ≠ .mark (.release a)) ∧ ∀ x, z.act.touch? = some x → S.touchOk c x) := fun z hz => by
    obtain ⟨e, he, rfl⟩ := Go.Conc.mem_ofEvents hz
    obtain ⟨e1, e2, e3⟩ := hes e he
    refine ⟨fun m hm => e2 m (loc_of_ofEvent hm), rfl, by rw [h.sz]; exact e3, fun a ha => e2 _ (loc_of_ofEvent ha), fun x hx => .inr ⟨K.Ch, by rw [e1 x hx]; rfl, ?_⟩⟩
    rw [hK.H]; exact rfl
  have hdf : ∀ y, Deaf (t ++ MemOp.ofEvents c (gf c).frame.fn (gf c).frame.place es) y = Deaf t y := fun y => deaf_stills (fun z hz => (hu z hz).1) y
  refine ⟨_, _, _, S, G.shutC, _, vs, ks, k', upd M c m, id, ng, hrun, A.step hy _ _ _, R.ops hy (fun z hz => (hu z hz).2) (fun _ _ _ => ⟨c, h.act, .inl rfl⟩),
    ⟨⟨rfl, rfl, by rw [hsz]; exact Nat.le_refl _, .refl _, fun k hk _ _ _ h5 => hblk k fun e => h5 (by rw [e]; exact hK.H)⟩, fun _ _ => rfl, fun _ => .rfl, fun _ _ _ => .rfl, fun z => by simp, fun _ _ => .rfl, fun _ _ => rfl, ⟨rfl, rfl⟩, fun z _ hz => upd_ne _ _ (TG.ne_free hz hmc), fun z _ hz => .inr ⟨_, _, if_neg (TG.ne_free hz hmc)⟩, fun z _ _ => hdf z, ⟨Nat.le_refl _, Nat.le_succ _⟩⟩,
    RB.of_chan hB (fun b hb => by cases hb), .inl hrk, ?_, fun k hk => ⟨rfl, hk, fun _ => ⟨rfl, rfl, rfl⟩⟩⟩
  refine { h with ok := hok', nr := by simp [GS.shutC], hk := ⟨fun y => ?_, ?_⟩, sh := h.sh.of_block (hblk _ K.hMH) (hblk _ K.hWH), ch := hch', row := fun ho => (hblk _ K.hCH).trans (h.row ho), rowJ := ?_, st := ?_, d0 := ?_, wk := fun k hk => ?_, px := fun k hk hps hb => ?_, bk := fun k hk b hb => ?_, B := by rw [hsz]; exact hB, sz := by rw [hsz]; exact h.sz }
  · have := h.hk.1 y; omega
  · have := h.hk.2; omega
  · obtain ⟨cs, hc, hs⟩ := h.rowJ
    exact ⟨cs, (hblk _ K.hCH).trans hc, hs⟩
  · simp only [if_true, upd_same]
    exact .inl hgo
  · rw [hdf, h.d0, hp]; rfl
  · have hne : id k ≠ c := (h.idc.2 k hk).2.1
    simp only [if_neg hne, upd_ne _ _ hne]
    rw [hdf]
    exact (h4 k hk hne).1
  · cases hps
  · rw [hsz]; exact h.bk k hk b hb
/-- (11) THE STARTER STARTS A WORKER. -/
theorem stepSpawn (A : Arr ng gs gf) (R : TR S t ng) (h : Cx P K c id Fin S G gf w vs ks kb M t ng) (hnew : ¬ S.act ng ∧ ¬ S.mute ng) (hS : StpS P K Fin (AtS P K Fin kb) (AtW P K kb) G.st (gf c) w) (hp : G.p = .go) : Ran P K c id Fin S G gf w vs ks M t ng c gs sl := by
  have hy := h.idc.1
  have hK := h.bl
  obtain ⟨g', child, hs, hcr, hchild, haft⟩ := hS.spawn hp
  obtain ⟨hok', hrk⟩ := ok_spawn h.ok hp
  have hrun := runT_crowd_spawn (sl := sl) (A.at_ c hy) (show stepG P (c == 0) (gf c) w = _ by rw [← h.mn]; exact hs)
  obtain ⟨k', hk'⟩ : ∃ k', kb = k' + 1 := ⟨kb - 1, by have := h.hk.2; omega⟩
  rw [hk'] at haft hchild
  have hnr : (G.spawn K.N K.J).p ≠ .ret := by show (if _ then Ps.gk else (if _ then Ps.sn else Ps.cl)) ≠ _; split <;> (try split) <;> simp
  have hd0' : (G.spawn K.N K.J).p.deaf = 0 := by show (if _ then Ps.gk else (if _ then Ps.sn else Ps.cl)).deaf = 0; split <;> (try split) <;> rfl
  have hpr : (G.spawn K.N K.J).p = (G.st.spawn K.N K.J).p := rfl
  have hσ : (G.st.spawn K.N K.J) = (G.spawn K.N K.J).st := rfl
  unfold AfterS at haft
  rw [if_neg (by rw [← hpr]; exact hnr)] at haft
  obtain ⟨m, hm⟩ := haft
  obtain ⟨mc, hmc'⟩ := hchild (vs G.n)
  have Dold : ∀ k, k < G.n → (G.spawn K.N K.J).D k = G.D k := fun k hk => upd_ne _ _ (by omega)
  have Dnew : (G.spawn K.N K.J).D G.n = { pc := .rc } := upd_same _ _ _
  have hn' : (G.spawn K.N K.J).n = G.n + 1 := rfl
  have hD0 : Deaf t c = 0 := by rw [h.d0, hp]; rfl
  have hcn : c ≠ ng := by omega
  have eO : ((MemOp.ofEvents c (gf c).frame.fn (gf c).frame.place #[]).push { g := c, fn := (gf c).frame.fn, pos := (gf c).frame.place, act := .go gs.size } |>.push { g := gs.size, fn := child.frame.fn, pos := (gf c).frame.place, act := .start }) = #[{ g := c, fn := (gf c).frame.fn, pos := (gf c).frame.place, act := .go ng }, { g := ng, fn := child.frame.fn, pos := (gf c).frame.place, act := .start }] := by
    rw [A.size]; rfl
  rw [eO] at hrun
  have hdf : ∀ y, Deaf (t ++ #[{ g := c, fn := (gf c).frame.fn, pos := (gf c).frame.place, act := .go ng }, { g := ng, fn := child.frame.fn, pos := (gf c).frame.place, act := .start }]) y = Deaf t y := fun y => deaf_stills (fun z hz m => by simp at hz; rcases hz with rfl | rfl <;> simp) y
  have idold : ∀ {k}, k < G.n → upd id G.n ng k = id k := fun hk => upd_ne _ _ (by omega)
  have idnew : upd id G.n ng G.n = ng := upd_same _ _ _
  have hidL : ∀ {k}, k < G.n → id k < ng := fun hk => (h.idc.2 _ hk).1
  refine ⟨_, w, _, S.born c ng, G.spawn K.N K.J, fun y => if y = ng then child else if y = c then g' else gf y, vs, upd ks G.n k', k', upd (upd M ng mc) c m, upd id G.n ng, ng + 1, hrun, ⟨by simp [A.size], fun y hy' => ?_⟩, R.fork (x := { g := c, fn := (gf c).frame.fn, pos := (gf c).frame.place, act := .go ng }) (y := { g := ng, fn := child.frame.fn, pos := (gf c).frame.place, act := .start }) hy ⟨rfl, rfl⟩ ⟨rfl, rfl⟩ hD0 h.act hnew.2,
    ⟨Far.refl _ _ _ _, fun _ _ => rfl, fun _ => .rfl, fun c' z hc' => ?_, fun z => ?_, fun _ _ => .rfl, fun _ _ => rfl, ⟨rfl, rfl⟩, fun z hz hzm => ?_, fun z hz hzm => ?_, fun z _ _ => hdf z, ⟨Nat.le_succ _, Nat.le_refl _⟩⟩,
    RB.refl _ _ _, .inl hrk, ?_, fun k hk => ⟨idold hk, Nat.lt_succ_of_lt hk, fun _ => ⟨Dold k hk, rfl, upd_ne _ _ (by omega)⟩⟩⟩
  · by_cases e : y = ng
    · subst e
      rw [if_pos rfl, Array.getElem?_push]
      simp [A.size]
    · rw [if_neg e]
      have hlt : y < ng := by omega
      rw [Array.getElem?_push, if_neg (by simp [A.size]; omega)]
      by_cases e0 : y = c
      · subst e0
        rw [if_pos rfl, Array.getElem?_setIfInBounds_self_of_lt (by rw [A.size]; exact hlt)]
      · rw [if_neg e0, Array.getElem?_setIfInBounds_ne (Ne.symm e0), A.at_ y hlt]
  · exact ⟨fun h => h.resolve_right fun e => hc' e.1, .inl⟩
  · exact ⟨fun h => h.imp _root_.id fun e => ⟨e.2, rfl⟩, fun h => h.imp _root_.id fun e => ⟨rfl, e.1⟩⟩
  · rw [upd_ne _ _ (TG.ne_free hzm (.inl rfl)), upd_ne _ _ (by omega)]
  · left
    show (if z = ng then child else if z = c then g' else gf z) = gf z
    rw [if_neg (by omega), if_neg (TG.ne_free hzm (.inl rfl))]
  refine { ok := hok', nr := hnr, hk := ⟨fun y => ?_, ?_⟩, sh := h.sh, ch := h.ch, row := h.row, rowJ := h.rowJ, ur := fun k hk hku => ?_, st := ?_, d0 := ?_, wk := fun k hk => ?_, busy := fun k hk ha => ?_, px := fun k hk hps hb => ?_, bk := fun k hk b hb => ?_, ow := fun k hk hk1 => ?_, ow' := fun y hy' => ?_, idc := ⟨by omega, fun k hk => ?_⟩, idJ := fun i k hi hk e => ?_, wkS := fun z => ?_, mu := fun k hk => ?_, act := h.act, adr := h.adr, mn := h.mn, bl := ⟨hK.M, hK.W, hK.H, hK.C, hK.s⟩, B := h.B, sz := h.sz }
  · by_cases e : y = G.n
    · subst e; rw [upd_same]; have := h.hk.2; omega
    · rw [upd_ne _ _ e]; have := h.hk.1 y; omega
  · have := h.hk.2; omega
  · rw [hn'] at hk
    by_cases e : k = G.n
    · subst e; rw [Dnew] at hku; cases hku
    · rw [Dold k (by omega)] at hku ⊢; exact h.ur k (by omega) hku
  · simp only [if_neg hcn, if_true, upd_same]
    exact .inl (by rw [← hσ]; exact hm)
  · rw [hdf, hd0', hD0]
  · rw [hn'] at hk
    rw [hdf]
    by_cases e : k = G.n
    · subst e
      rw [idnew, upd_ne _ _ (Ne.symm hcn), upd_same, upd_same, Dnew, R.deaf_new (Nat.le_refl _)]
      simp only [if_true]
      exact .inr (.inl ⟨by simp, by simp [Th.deaf], hmc'⟩)
    · have hk2 : k < G.n := by omega
      rw [idold hk2, Dold k hk2, upd_ne _ _ (h.idc.2 k hk2).2.1, upd_ne _ _ (show id k ≠ ng by have := hidL hk2; omega), upd_ne _ _ e]
      simp only [if_neg (show id k ≠ ng by have := hidL hk2; omega), if_neg (h.idc.2 k hk2).2.1]
      exact h.wk k hk2
  · rw [hn'] at hk
    by_cases e : k = G.n
    · subst e; rw [idnew] at ha; exact absurd ha hnew.1
    · have hk2 : k < G.n := by omega
      rw [idold hk2] at ha; rw [Dold k hk2]; exact h.busy k hk2 ha
  · simp only [if_neg hcn, if_true] at hb
    rw [hm.running] at hb; cases hb
  · rw [hn'] at hk
    by_cases e : k = G.n
    · subst e; rw [Dnew] at hb; cases hb
    · have hk2 : k < G.n := by omega
      rw [Dold k hk2] at hb; rw [idold hk2]; exact h.bk k hk2 b hb
  · rw [hn'] at hk
    by_cases e : k = G.n
    · subst e; rw [Dnew] at hk1; cases hk1
    · have hk2 : k < G.n := by omega
      rw [Dold k hk2] at hk1; rw [idold hk2]; exact h.ow k hk2 hk1
  · obtain ⟨k, hk, hk1, hk2⟩ := h.ow' y hy'
    exact ⟨k, by rw [hn']; omega, by rw [Dold k hk]; exact hk1, by rw [idold hk]; exact hk2⟩
  · rw [hn'] at hk
    by_cases e : k = G.n
    · subst e; rw [idnew]; exact ⟨by omega, Ne.symm hcn, by omega⟩
    · have hk2 : k < G.n := by omega
      rw [idold hk2]; have := h.idc.2 k hk2; exact ⟨by omega, this.2⟩
  · rw [hn'] at hi hk
    by_cases e1 : i = G.n
    · by_cases e2 : k = G.n
      · rw [e1, e2]
      · have hk2 : k < G.n := by omega
        rw [e1, idnew, idold hk2] at e; have := hidL hk2; omega
    · have hi2 : i < G.n := by omega
      by_cases e2 : k = G.n
      · rw [e2, idnew, idold hi2] at e; have := hidL hi2; omega
      · have hk2 : k < G.n := by omega
        rw [idold hi2, idold hk2] at e
        exact h.idJ _ _ hi2 hk2 e
  · show (S.wk c z ∨ (c = c ∧ z = ng)) ↔ _
    rw [h.wkS, hn']
    constructor
    · rintro (⟨i, hi, e⟩ | ⟨_, e⟩)
      · exact ⟨i, by omega, by rw [idold hi]; exact e⟩
      · exact ⟨G.n, by omega, by rw [idnew]; exact e⟩
    · rintro ⟨i, hi, e⟩
      by_cases e1 : i = G.n
      · rw [e1, idnew] at e; exact .inr ⟨rfl, e⟩
      · have hi2 : i < G.n := by omega
        exact .inl ⟨i, hi2, by rw [idold hi2] at e; exact e⟩
  · rw [hn'] at hk
    show S.mute _ ↔ _
    by_cases e : k = G.n
    · subst e; rw [idnew, Dnew]; exact ⟨fun e => absurd e hnew.2, fun e => by cases e⟩
    · have hk2 : k < G.n := by omega
      rw [idold hk2, Dold k hk2]; exact h.mu k hk2
/-- A worker at the channel. -/
theorem stepRecv (A : Arr ng gs gf) (R : TR S t ng) (h : Cx P K c id Fin S G gf w vs ks kb M t ng) (hoff : Off K c id S G gf ng) {i : Nat} (hi : i < G.n) (hna : ¬ S.act (id i)) (hp : (G.D i).pc = .rc) (hd : Deaf t (id i) = (G.D i).deaf) (hrn : (gf (id i)).status = .running) (hgo : GoW P K (G.D i) (AtW P K (ks i + 1) (G.D i) (vs i)) 0 g₀ w)
    (hs : stepG P false (gf (id i)) w = .comm g₀ #[rcase K.Ch K.z] true (.recv true) w #[]) : Ran P K c id Fin S G gf w vs ks M t ng (id i) gs sl := by
  cases hcl : G.closed with
  | true =>
    refine stepClosed A R h hoff hi hna hp hd hcl hgo hs ?_
    rcases (sitS_offers h.st K.Ch).2 with ⟨h₀, _, hps, _⟩ | h'
    · rw [h.ok.cl, hps] at hcl; cases hcl
    · exact h'
  | false =>
    rcases (sitS_offers h.st K.Ch).2 with ⟨h₀, h0, hps, hS⟩ | h'
    · exact stepMeetR A R h hoff hi hna hp hd hgo hs h0 hps hS
    · refine stepPark A R h hoff hi hna hp hd hrn hcl hgo hs h' fun hps hb => ?_
      rcases h.st with hg | ⟨e, _⟩ | ⟨_, _, h₁, e, _⟩
      · rw [hg.running] at hb; cases hb
      · rw [hps] at e; cases e
      · have := h' K.Ch
        rw [e, offersAt_parked_send, if_pos rfl] at this
        cases this
/-- ████ EVERY STEP OF THE STARTER's. ████ -/
theorem step_boss (A : Arr ng gs gf) (R : TR S t ng) (h : Cx P K c id Fin S G gf w vs ks kb M t ng) (hoff : Off K c id S G gf ng) (hnew : ¬ S.act ng ∧ ¬ S.mute ng) (hr : (gf c).status = .running) :
    Ran P K c id Fin S G gf w vs ks M t ng c gs sl ∨ Over P K c id Fin S G gf w M t ng gs sl := by
  rcases h.st with hgo | ⟨_, _, _, g₀, h5, _⟩ | ⟨_, _, g₀, h5, _⟩
  · rcases hgo.cases with hst | ⟨m', hM, hst⟩
    · have hgo0 : GoS P K (AtS P K Fin (kb + 1) G.st) 0 (gf c) w := hst
      have hS := GoS.stp hgo0
      by_cases h1 : G.p = .go
      · exact .inl (stepSpawn A R h hnew hS h1)
      by_cases h2 : G.p = .sn
      · have hs := (hS.sn h2).1
        by_cases hex : ∃ i, i < G.n ∧ ((G.D i).pc = .rc ∧ (gf (id i)).status = .blocked)
        · exact .inl (stepMeetS A R h hoff h2 hgo0 hs hex)
        · exact .inl (stepParkS A R h hoff h2 hgo0 hs fun i hi h => hex ⟨i, hi, h⟩)
      by_cases h3 : G.p = .cl
      · exact .inl (stepShut A R h hS h3)
      by_cases h4 : G.p = .w3 ∧ G.s.ws = 0
      · exact .inl (stepBlockS A R h h4.1 h4.2 hgo0 (hS.block h4.1 G.s h.sh h4.2))
      exact stepMoveS A R h hS h1 h2 h3 fun e h' => h4 ⟨e, h'⟩
    · obtain ⟨g', w', es, hs, hD, hgo'⟩ := hst w (RB.refl _ _ _)
      exact .inl (stepIdleS A R h hM hs hD hgo')
  · rw [h5] at hr; cases hr
  · rw [h5] at hr; cases hr
/-- ████ EVERY STEP OF A WORKER's; or he stands where a gang of his own begins. ████ -/
theorem step_worker (A : Arr ng gs gf) (R : TR S t ng) (h : Cx P K c id Fin S G gf w vs ks kb M t ng) (hoff : Off K c id S G gf ng) (hwkI : ∀ c' i, i < G.n → S.wk c' (id i) → c' = c) {i : Nat} (hi : i < G.n) (hna : ¬ S.act (id i)) (hr : (gf (id i)).status = .running) :
    Ran P K c id Fin S G gf w vs ks M t ng (id i) gs sl ∨ ((G.D i).pc = .bx ∧ Deaf t (id i) = 0 ∧ K.deep = true ∧ Begin P K (AtW P K (ks i)) (G.D i) (vs i) (gf (id i)) w) := by
  rcases (h.wk i hi).resolve_left hna with ⟨h1, h2, hgo⟩ | ⟨_, _, _, _, g₀, h5, _⟩ | ⟨_, _, _, _, g₀, h5, _⟩ | ⟨h1, h2, h3, h4, g₀, h5, hgo⟩ | ⟨h1, hq⟩
  · rcases hgo.cases with hst | ⟨m', hM, hst⟩
    · have hgo0 : GoW P K (G.D i) (AtW P K (ks i + 1) (G.D i) (vs i)) 0 (gf (id i)) w := hst
      rcases hgo0.at0 with hS | ⟨e, hde, hG⟩
      · by_cases e1 : (G.D i).pc = .rc
        · exact .inl (stepRecv A R h hoff hi hna e1 h2 hr hgo0 (hS.rc e1).1)
        by_cases e2 : (G.D i).pc = .s1 ∧ G.s.ms = 0
        · exact .inl (stepBlockW A R h hi hna e2.1 h2 e2.2 hgo0 (hS.block e2.1 G.s h.sh e2.2))
        exact .inl (stepMoveW A R h hwkI hi hna e1 h2 hS fun e h => e2 ⟨e, h⟩)
      · exact .inr ⟨e, by rw [h2]; simp [Th.deaf, e], hde, hG⟩
    · obtain ⟨g', w', es, hs, hD, hgo'⟩ := hst w (RB.refl _ _ _)
      exact .inl (stepIdleW A R h hi hna h1 h2 hM hs hD hgo')
  · rw [h5] at hr; cases hr
  · rw [h5] at hr; cases hr
  · have hS := GoW.stp hgo (by rw [h1]; simp)
    have hrn := hS.run
    refine .inl (stepRecv A R h hoff hi hna h1 h2 hr hgo ?_)
    rw [h5, stepG_tries]
    have : ({ g₀ with status := .running } : Goroutine) = g₀ := by rw [← hrn]
    rw [this]
    exact (hS.rc h1).1
  · obtain ⟨q, hq'⟩ : ∃ q, M (id i) = q := ⟨_, rfl⟩
    rw [hq'] at hq
    cases q with
    | zero => rw [hq.1] at hr; cases hr
    | succ q =>
      rcases hq with ⟨h, _⟩ | ⟨_, g', es, hm, hs, hq2⟩
      · rw [h] at hr; cases hr
      · exact .inl (stepLeave A R h hi hna h1 hq' hm hs hq2)
/-- Nobody of the gang sleeps; and somebody can run, or a free worker is a starter. -/
theorem awake_sit {T : Th} {v : Array Value} {k m d : Nat} {g : Goroutine} (h : SitW P K G T v k m d g w) : awake g := by
  rcases h with ⟨_, _, hg⟩ | ⟨_, _, _, _, g₀, h5, _⟩ | ⟨_, _, _, _, g₀, h5, _⟩ | ⟨_, _, _, _, g₀, h5, _⟩ | ⟨_, hq⟩
  · exact fun tt => by rw [hg.running]; simp
  · rw [h5]; intro tt; simp
  · rw [h5]; intro tt; simp [parked]
  · rw [h5]; intro tt; simp
  · exact fun tt => by rcases hq.status with e | e <;> rw [e] <;> simp
theorem awake_sitS {k m : Nat} {g : Goroutine} (h : SitS P K Fin G k m g w) : awake g := by
  rcases h with hg | ⟨_, _, _, g₀, h5, _⟩ | ⟨_, _, g₀, h5, _⟩
  · exact fun tt => by rw [hg.running]; simp
  · rw [h5]; intro tt; simp
  · rw [h5]; intro tt; simp [parked]
theorem Cx.runs (h : Cx P K c id Fin S G gf w vs ks kb M t ng) : (gf c).status = .running ∨ ∃ i, i < G.n ∧ (S.act (id i) ∨ (gf (id i)).status = .running) := by
  by_cases h0 : (gf c).status = .running
  · exact .inl h0
  right
  have hsn : (G.p = .sn ∧ (gf c).status = .blocked) ∨ (G.p = .w3 ∧ G.s.ws = 0) := by
    rcases h.st with hg | ⟨h1, _, h3, g₀, h5, _⟩ | ⟨h1, _, g₀, h5, _⟩
    · exact absurd hg.running h0
    · exact .inr ⟨h1, h3⟩
    · exact .inl ⟨h1, by rw [h5]; rfl⟩
  obtain ⟨i, hi, hl⟩ := live h.ok K.hN (hsn.imp (fun h => h.1) _root_.id)
  refine ⟨i, hi, ?_⟩
  rcases h.wk i hi with ha | h'
  · exact .inl ha
  right
  rcases h' with ⟨h1, h2, hgo⟩ | ⟨e, _, _, h4, g₀, h5, _⟩ | ⟨e, _, _, h4, g₀, h5, _⟩ | ⟨h1, h2, h3, h4, g₀, h5, hgo⟩ | ⟨e, hq⟩
  · exact hgo.running
  · rcases hl with h | ⟨h, _⟩ | ⟨_, h⟩
    · rw [e] at h; cases h
    · rw [e] at h; cases h
    · exact absurd h4 h
  · rcases hl with h' | ⟨h', h''⟩ | ⟨h', _⟩
    · rw [e] at h'; cases h'
    · rcases h'' with h'' | h''
      · rw [h4] at h''; cases h''
      · rcases hsn with ⟨_, hb⟩ | ⟨hw, _⟩
        · exact absurd ⟨e, by rw [h5]; rfl⟩ (h.px i hi h'' hb)
        · rw [h''] at hw; cases hw
    · rw [e] at h'; cases h'
  · rw [h5]
  · rcases hl with h | ⟨h, _⟩ | ⟨h, _⟩ <;> rw [e] at h <;> cases h
end
end Go.Proofs.Ytapjmifhhbpikaa

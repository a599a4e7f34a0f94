/- The gang in the machine: meetings at the channel; closing it; a worker started. -/
import Derived.Test.YtapjmifhhbpikaaBdQ
set_option linter.unusedVariables false
set_option linter.unusedSimpArgs false
namespace Go.Proofs.Ytapjmifhhbpikaa
open Go.Conc Go.ConcN Go.ConcM
open Go.ConcR (KK wgBlock WgAt stA smA rd wr g_of_ofEvents ofEvent_loc_mark ofEvent_cell ofEvent_mk loc_of_ofEvent again_blocked)
section
variable {P : Program} {K : Band} {Fin : Goroutine → World → Prop} {G G' : GS} {gs : Array Goroutine} {gf : Nat → Goroutine} {w w' w₁ : World} {sl : Option (Nat × Nat)} {vs : Nat → Array Value} {ks φ : Nat → Nat} {o : Option Nat} {ob : Nat → Option Nat} {t u : Trace} {g₀ h₀ g' : Goroutine} {es : Array Event}
theorem four_ops {n i j s r c : Nat} {f1 f2 f3 f4 : FuncId} {p1 p2 p3 p4 : String} (hi : i ≤ K.base + n) (hj : j ≤ K.base + n) {sz : Nat} (hB : K.B0 ≤ sz) : ∀ z ∈ (#[{ g := i, fn := f1, pos := p1, act := .send K.Ch s }, { g := j, fn := f2, pos := p2, act := .recv K.Ch r c }, { g := i, fn := f3, pos := p3, act := .sendDone K.Ch s }, { g := j, fn := f4, pos := p4, act := .recvDone K.Ch r }] : Array MemOp),
    (∀ m, z.act ≠ .mark m) ∧ (z.g ≤ K.base + n ∧ z.act.touch? = none ∧ (∀ a, z.act ≠ .mark (.release a)) ∧ z.act.low sz) := by
  intro z hz
  have hl : K.Ch < sz := by have := K.bH; omega
  simp at hz
  rcases hz with rfl | rfl | rfl | rfl
  · exact ⟨by simp, hi, rfl, by simp, hl⟩
  · exact ⟨by simp, hj, rfl, by simp, hl⟩
  · exact ⟨by simp, hi, rfl, by simp, hl⟩
  · exact ⟨by simp, hj, rfl, by simp, hl⟩
theorem world_at (w : World) : w.at w.drawn = w := rfl
/-- (8c) A WORKER COMES TO THE CHANNEL, WHERE THE STARTER WAITS. -/
theorem stepMeetR (A : Arr K G gs gf) (c : Cx P K Fin G gf w vs ks φ o ob t) {i : Nat} (hi : i < G.n) (hp : (G.D i).pc = .rc) (hd : Deaf t (idW K i) = (G.D i).deaf) (hgo : GoW P K (G.D i) (AtW P K (ks (idW K i) + 1) (G.D i) (vs i)) 0 g₀ w)
    (hs : stepG P false (gf (idW K i)) w = .comm g₀ #[rcase K.Ch K.z] true (.recv true) w #[]) (h0 : gf 0 = parked h₀ #[scase K.Ch (jobV G.sent) (.tuple #[])] .send) (hps : G.p = .sn) (hS : GoS P K (AtS P K Fin (ks 0 + 1) G.st) 0 h₀ w) : Goes1 P K Fin G φ gs w sl t (idW K i) := by
  have hy := c.lt hi
  have hy0 : idW K i ≠ 0 := by have := idW_pos K i; omega
  have hcl : G.closed = false := by rw [c.ok.cl, hps]; rfl
  have hlt0 : 0 < K.base + 1 + G.n := by omega
  obtain ⟨s, r, hch⟩ := c.ch
  rw [hcl] at hch
  have h00 : gs[0]? = some (parked h₀ #[scase K.Ch (jobV G.sent) (.tuple #[])] .send) := by rw [A.at_ 0 hlt0, h0]
  have hpn : partners (gs.setIfInBounds (idW K i) ph) K.Ch true = [(0, 0)] := by
    rw [partners_one (stand_get (i := idW K i) (Ne.symm hy0) h00) fun k x hk hx => ?_, offersAt_parked_send, if_pos rfl]
    · rfl
    · rcases stand_cases hx with ⟨_, rfl⟩ | ⟨hne, hg⟩
      · exact offersAt_ph _ _
      · obtain ⟨rfl, e | ⟨e1, e2⟩ | ⟨j, hj, rfl⟩⟩ := A.cases hg
        · exact absurd e hk
        · exact offers_lv c e1 e2 _ _
        · exact (offers_wk c hj _).1
  have hrun := crowd_recv_meets (sl := sl) (A.at_ _ hy) (show stepG P (idW K i == 0) (gf (idW K i)) w = _ by rw [show (idW K i == 0) = false by simpa using hy0]; exact hs) hch (Ne.symm hy0) h00 hpn
  have hdi : Deaf t (idW K i) = 0 := by rw [hd]; simp [Th.deaf, hp]
  have hSs := (GoS.stp hS).sn hps
  have hWs := (GoW.stp hgo).rc hp
  have hRB : ∀ own mine, (∀ b, b ∈ mine → K.B0 ≤ b) → RB K own mine w ((w.at w.drawn).setChan K.Ch 0 #[] false (s + 1) (r + 1) false) := fun own mine hm => (RB.at own mine w w.drawn).trans (RB.of_chan (by show K.B0 ≤ w.heap.size; exact c.mt.B) hm)
  have A1 := (A.set (G' := G.hand K.J K.nb i) rfl 0 (h₀.finishComm P #[scase K.Ch (jobV G.sent) (.tuple #[])] .send 0 undef false))
  have A2 := A1.set (G' := G.hand K.J K.nb i) rfl (idW K i) (g₀.finishComm P #[rcase K.Ch K.z] (.recv true) 0 (jobV G.sent) true)
  have eO : ∀ x : Array MemOp, MemOp.ofEvents (idW K i) (gf (idW K i)).frame.fn (gf (idW K i)).frame.place #[] ++ x = x := fun x => by rw [ofEvents_none, Array.empty_append]
  rw [eO] at hrun
  have hblk : (G.D i).blk = [] ∨ True := .inr trivial
  obtain ⟨μ', hμ, hI⟩ := hand_inv (sl := sl) c hi hps hp hdi A2 (d := w.drawn) (s := s + 1) (r := r + 1) (fun z hz1 hz2 => by rw [upd_ne _ _ hz2, upd_ne _ _ hz1])
    (by rw [upd_ne _ _ (Ne.symm hy0), upd_same]; exact hSs.2 _ (hRB _ _ fun b hb => by cases hb))
    (by rw [upd_same]; exact hWs.2.1 G.sent (c.ok.snt.2.1 hps) _ (hRB _ _ fun b hb => by cases hb))
    (four_ops (i := 0) (j := idW K i) (s := s) (r := r) (c := 0) (f1 := h₀.frame.fn) (f2 := g₀.frame.fn) (f3 := h₀.frame.fn) (f4 := g₀.frame.fn) (p1 := h₀.frame.place) (p2 := g₀.frame.place) (p3 := h₀.frame.place) (p4 := g₀.frame.place) (Nat.zero_le _) (idW_le hi) c.mt.B)
  exact ⟨_, _, μ', hrun, hμ, hI⟩
/-- (9a) THE STARTER WAITS FOR A WORKER. -/
theorem stepParkS (A : Arr K G gs gf) (c : Cx P K Fin G gf w vs ks φ o ob t) (hps : G.p = .sn) (hφ : 0 < φ 0) (hgo : GoS P K (AtS P K Fin (ks 0 + 1) G.st) 0 (gf 0) w) (hs : stepG P true (gf 0) w = .comm (gf 0) #[scase K.Ch (jobV G.sent) (.tuple #[])] true .send w #[])
    (hno : ∀ i, i < G.n → ¬ ((G.D i).pc = .rc ∧ (gf (idW K i)).status = .blocked)) : Goes1 P K Fin G φ gs w sl t 0 := by
  have hy : 0 < K.base + 1 + G.n := by omega
  have hcl : G.closed = false := by rw [c.ok.cl, hps]; rfl
  obtain ⟨s, r, hch⟩ := c.ch
  rw [hcl] at hch
  have hpn : partners (gs.setIfInBounds 0 ph) K.Ch false = [] := by
    refine partners_nil fun j g hj => ?_
    rcases stand_cases hj with ⟨_, rfl⟩ | ⟨hne, hg⟩
    · exact offersAt_ph _ _
    · obtain ⟨rfl, e | ⟨e1, e2⟩ | ⟨i, hi, rfl⟩⟩ := A.cases hg
      · exact absurd e hne
      · exact offers_lv c e1 e2 _ _
      · rcases (offers_wk c hi K.Ch).2 with ⟨g₁, e1, e2⟩ | e
        · exact absurd ⟨e2, by rw [e1]; rfl⟩ (hno i hi)
        · exact e _
  have hw : ∀ cc ∈ (#[scase K.Ch (jobV G.sent) (.tuple #[])] : Array CommCase), NoWays w (gs.setIfInBounds 0 ph) cc := by
    intro cc hcc
    simp at hcc
    subst hcc
    refine ⟨made_send _ _ hch, ?_⟩
    simp [ways, scase, hch, hpn]
  have hrun := crowd_waits (sl := sl) (A.at_ _ hy) hs hw
  refine ⟨_, _, _, hrun, .right _ (sum_upd_lt hy (a := 0) hφ), _, w, sl, G, _, vs, ks, _, o, ob, rfl, A.set rfl _ _, ?_, rfl⟩
  have et : t ++ MemOp.ofEvents 0 (gf 0).frame.fn (gf 0).frame.place #[] = t := by rw [ofEvents_none, Array.append_empty]
  rw [et]
  refine ⟨c.ok, c.nr, c.hk, c.sh, c.ch, c.row, c.rowJ, c.ur, ?_, c.d0, fun k hk => ?_, fun j j1 j2 => ?_, fun k hk _ _ => ?_, c.bk, c.ow, c.ow', c.mt⟩
  · rw [upd_same, upd_same]; exact .inr (.inr ⟨hps, rfl, _, rfl, hgo⟩)
  · have hne : idW K k ≠ 0 := by have := idW_pos K k; omega
    rw [upd_ne _ _ hne, upd_ne _ _ hne]; exact c.wk k hk
  · have hne : j ≠ 0 := by omega
    rw [upd_ne _ _ hne, upd_ne _ _ hne]; exact c.lv j j1 j2
  · have hne : idW K k ≠ 0 := by have := idW_pos K k; omega
    rw [upd_ne _ _ hne]; exact hno k hk
/-- Who is parked at the channel. -/
theorem parked_wk (c : Cx P K Fin G gf w vs ks φ o ob t) {i : Nat} (hi : i < G.n) (hcl : G.closed = false) {gj : Goroutine} {zj : Value} {shj : CommShape} (h : gf (idW K i) = parked gj #[rcase K.Ch zj] shj) :
    ∃ g₀, (G.D i).pc = .rc ∧ Deaf t (idW K i) = (G.D i).deaf ∧ gj.finishComm P #[rcase K.Ch zj] shj 0 (jobV G.sent) true = Go.Conc.served g₀ (recvd true (jobV G.sent) true) ∧ GoW P K (G.D i) (AtW P K (ks (idW K i) + 1) (G.D i) (vs i)) 0 g₀ w := by
  rcases c.wk i hi with ⟨_, _, m, _, hg⟩ | ⟨_, _, _, _, g₀, h5, hg⟩ | ⟨h1, h2, _, _, g₀, h5, hg⟩ | ⟨_, _, _, _, g₀, h5, hg⟩ | ⟨_, q, _, hq⟩
  · have hr := hg.running
    rw [h] at hr; cases hr
  · have ho := (GoW.stp hg).off
    rw [h] at h5
    have := congrArg Goroutine.offers h5
    have e : (parked gj #[rcase K.Ch zj] shj).offers = g₀.offers := this
    rw [ho] at e; cases e
  · refine ⟨g₀, h1, h2, ?_, hg⟩
    rw [h] at h5
    have e1 : (parked gj #[rcase K.Ch zj] shj).offers = (parked g₀ #[rcase K.Ch K.z] (.recv true)).offers := by rw [h5]
    have e2 : zj = K.z ∧ shj = .recv true := by simpa [parked, rcase] using e1
    rw [e2.1, e2.2] at h5 ⊢
    rw [← finishComm_parked P gj #[rcase K.Ch K.z] #[rcase K.Ch K.z] (.recv true) (.recv true), h5, finishComm_parked, finishComm_recv]
  · rename_i hc
    rw [hcl] at hc; cases hc
  · have := hq.status
    rw [h] at this; simp [parked] at this
/-- (9b) THE STARTER COMES TO THE CHANNEL, WHERE WORKERS WAIT. -/
theorem stepMeetS (A : Arr K G gs gf) (c : Cx P K Fin G gf w vs ks φ o ob t) (hps : G.p = .sn) (hgo : GoS P K (AtS P K Fin (ks 0 + 1) G.st) 0 (gf 0) w) (hs : stepG P true (gf 0) w = .comm (gf 0) #[scase K.Ch (jobV G.sent) (.tuple #[])] true .send w #[])
    (hex : ∃ i, i < G.n ∧ ((G.D i).pc = .rc ∧ (gf (idW K i)).status = .blocked)) : Goes1 P K Fin G φ gs w sl t 0 := by
  have hy : 0 < K.base + 1 + G.n := by omega
  have hcl : G.closed = false := by rw [c.ok.cl, hps]; rfl
  obtain ⟨s, r, hch⟩ := c.ch
  rw [hcl] at hch
  have hall : ∀ j k, (j, k) ∈ partners (gs.setIfInBounds 0 ph) K.Ch false → k = 0 ∧ j ≠ 0 ∧ ∃ gj zj shj, gs[j]? = some (parked gj #[rcase K.Ch zj] shj) := by
    intro j k hjk
    obtain ⟨x, hx, hk⟩ := mem_partners.1 hjk
    rcases stand_cases hx with ⟨_, rfl⟩ | ⟨hne, hg⟩
    · cases hk
    · obtain ⟨rfl, e | ⟨e1, e2⟩ | ⟨i, hi, rfl⟩⟩ := A.cases hg
      · exact absurd e hne
      · rw [offers_lv c e1 e2] at hk; cases hk
      · rcases (offers_wk c hi K.Ch).2 with ⟨g₁, e1, e2⟩ | e
        · rw [e1, offersAt_parked_recv, if_pos rfl] at hk
          exact ⟨by simpa using hk, hne, g₁, K.z, .recv true, by rw [hg, e1]⟩
        · rw [e] at hk; cases hk
  have hne : partners (gs.setIfInBounds 0 ph) K.Ch false ≠ [] := by
    obtain ⟨i, hi, hrc, hb⟩ := hex
    have hi0 : idW K i ≠ 0 := by have := idW_pos K i; omega
    rcases c.wk i hi with ⟨_, _, m, _, hg⟩ | ⟨e, _⟩ | ⟨h1, h2, _, _, g₁, h5, hg⟩ | ⟨_, _, _, _, g₁, h5, hg⟩ | ⟨e, _⟩
    · have hr := hg.running
      rw [hr] at hb; cases hb
    · rw [hrc] at e; cases e
    · have hm : (idW K i, 0) ∈ partners (gs.setIfInBounds 0 ph) K.Ch false := mem_partners.2 ⟨gf (idW K i), stand_get hi0 (A.at_ _ (c.lt hi)), by rw [h5, offersAt_parked_recv, if_pos rfl]; simp⟩
      intro e
      rw [e] at hm; cases hm
    · rw [h5] at hb; cases hb
    · rw [hrc] at e; cases e
  obtain ⟨j, gj, zj, shj, d, hj0, hgj, hrun⟩ := crowd_send_meets_some (sl := sl) (A.at_ _ hy) hs hch hne hall
  obtain ⟨i, hi, rfl⟩ : ∃ i, i < G.n ∧ j = idW K i := by
    obtain ⟨e0, e | ⟨e1, e2⟩ | h⟩ := A.cases hgj
    · exact absurd e hj0
    · obtain ⟨q, _, hq⟩ := c.lv j e1 e2
      have := hq.status
      rw [← e0] at this
      simp [parked] at this
    · exact h
  have hpk : gf (idW K i) = parked gj #[rcase K.Ch zj] shj := (A.cases hgj).1.symm
  obtain ⟨g₀, hp, hd, hfin, hgw⟩ := parked_wk c hi hcl hpk
  rw [hfin] at hrun
  have hy0 : idW K i ≠ 0 := hj0
  have hdi : Deaf t (idW K i) = 0 := by rw [hd]; simp [Th.deaf, hp]
  have hSs := (GoS.stp hgo).sn hps
  have hWs := (GoW.stp hgw).rc hp
  have hRB : ∀ own mine, (∀ b, b ∈ mine → K.B0 ≤ b) → RB K own mine w ((w.at d).setChan K.Ch 0 #[] false (s + 1) (r + 1) false) := fun own mine hm => (RB.at own mine w d).trans (RB.of_chan (by show K.B0 ≤ w.heap.size; exact c.mt.B) hm)
  have A1 := (A.set (G' := G.hand K.J K.nb i) rfl (idW K i) (Go.Conc.served g₀ (recvd true (jobV G.sent) true)))
  have A2 := A1.set (G' := G.hand K.J K.nb i) rfl 0 ((gf 0).finishComm P #[scase K.Ch (jobV G.sent) (.tuple #[])] .send 0 undef false)
  have eO : ∀ x : Array MemOp, MemOp.ofEvents 0 (gf 0).frame.fn (gf 0).frame.place #[] ++ x = x := fun x => by rw [ofEvents_none, Array.empty_append]
  rw [eO] at hrun
  obtain ⟨μ', hμ, hI⟩ := hand_inv (sl := sl) c hi hps hp hdi A2 (d := d) (s := s + 1) (r := r + 1) (fun z hz1 hz2 => by rw [upd_ne _ _ hz1, upd_ne _ _ hz2])
    (by rw [upd_same]; exact hSs.2 _ (hRB _ _ fun b hb => by cases hb))
    (by rw [upd_ne _ _ hy0, upd_same]; exact hWs.2.1 G.sent (c.ok.snt.2.1 hps) _ (hRB _ _ fun b hb => by cases hb))
    (four_ops (i := 0) (j := idW K i) (s := s) (r := r) (c := 0) (f1 := (gf 0).frame.fn) (f2 := gj.frame.fn) (f3 := (gf 0).frame.fn) (f4 := gj.frame.fn) (p1 := (gf 0).frame.place) (p2 := gj.frame.place) (p3 := (gf 0).frame.place) (p4 := gj.frame.place) (Nat.zero_le _) (idW_le hi) c.mt.B)
  exact ⟨_, _, μ', hrun, hμ, hI⟩
end
end Go.Proofs.Ytapjmifhhbpikaa

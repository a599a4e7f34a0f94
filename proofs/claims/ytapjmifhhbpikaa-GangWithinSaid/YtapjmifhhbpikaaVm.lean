/- Gangs within gangs: one gang's invariant; what a step does to those that do not make it. -/
import Derived.Test.YtapjmifhhbpikaaVc
import Derived.Test.YtapjmifhhbpikaaVt
set_option linter.unusedVariables false
set_option linter.unusedSimpArgs false
namespace Go.Proofs.Ytapjmifhhbpikaa
open Go.Conc Go.ConcN Go.ConcM
open Go.ConcR (KK wgBlock WgAt stA smA rd wr g_of_ofEvents ofEvent_loc_mark ofEvent_cell ofEvent_mk loc_of_ofEvent again_blocked)
def GS.st (G : GS) : St := ⟨G.p, G.n, G.sent⟩
section
variable (P : Program) (K : Band) (Fin : Goroutine → World → Prop)
/-- WHERE A WORKER STANDS, within m steps of its stop. -/
def SitW (G : GS) (T : Th) (v : Array Value) (k m d : Nat) (g : Goroutine) (w : World) : Prop :=
  (T.pc ≠ .quit ∧ d = T.deaf ∧ GoW P K T (AtW P K (k + 1) T v) m g w) ∨
  (T.pc = .s1 ∧ d = T.deaf ∧ m = 0 ∧ G.s.ms = 0 ∧ ∃ g₀, g = { g₀ with status := .blocked } ∧ GoW P K T (AtW P K (k + 1) T v) 0 g₀ w) ∨
  (T.pc = .rc ∧ d = T.deaf ∧ m = 0 ∧ G.closed = false ∧ ∃ g₀, g = parked g₀ #[rcase K.Ch K.z] (.recv true) ∧ GoW P K T (AtW P K (k + 1) T v) 0 g₀ w) ∨
  (T.pc = .rc ∧ d = T.deaf ∧ m = 0 ∧ G.closed = true ∧ ∃ g₀, g = { parked g₀ #[rcase K.Ch K.z] (.recv true) with status := .running } ∧ GoW P K T (AtW P K (k + 1) T v) 0 g₀ w) ∨
  (T.pc = .quit ∧ QuitsD P m d g)
/-- WHERE THE STARTER STANDS. -/
def SitS (G : GS) (k m : Nat) (g : Goroutine) (w : World) : Prop :=
  GoS P K (AtS P K Fin (k + 1) G.st) m g w ∨
  (G.p = .w3 ∧ m = 0 ∧ G.s.ws = 0 ∧ ∃ g₀, g = { g₀ with status := .blocked } ∧ GoS P K (AtS P K Fin (k + 1) G.st) 0 g₀ w) ∨
  (G.p = .sn ∧ m = 0 ∧ ∃ g₀, g = parked g₀ #[scase K.Ch (jobV G.sent) (.tuple #[])] .send ∧ GoS P K (AtS P K Fin (k + 1) G.st) 0 g₀ w)
/-- THE GANG's BLOCKS, as the trace sees them. -/
structure Blks (c : Nat) (S : TG) : Prop where
  M : S.cl K.Mu = .sh c
  W : S.cl K.Wg = .sh c
  H : S.cl K.Ch = .chan c
  C : S.cl K.C = .row c
  s : ∀ k, Still K k → S.cl k = .lent c
end
/-- WHAT A STEP OF y's, IN GANG c, LEAVES ALONE in the world. -/
structure Far (S : TG) (c y : Nat) (w w' : World) : Prop where
  tape : w'.tape = w.tape
  output : w'.output = w.output
  size : w.heap.size ≤ w'.heap.size
  os : OsLater w.os w'.os
  blk : ∀ k, k < w.heap.size → S.cl k ≠ .own y → S.cl k ≠ .row c → S.cl k ≠ .sh c → S.cl k ≠ .chan c → w'.heap[k]? = w.heap[k]?
section
variable {P : Program} {K : Band} {Fin : Goroutine → World → Prop} {G G' : GS} {w w' w₁ : World} {T : Th} {v : Array Value} {k m d c y : Nat} {g x x' : Goroutine} {S S' : TG}
theorem GoW.rely {Nx : Goroutine → World → Prop} (h : GoW P K T Nx m g w) (r : RB K T.owns T.blk w w₁) : GoW P K T Nx m g w₁ := Goes.rely (fun _ _ _ a b => a.trans b) h r
theorem GoS.rely {Nx : Goroutine → World → Prop} (h : GoS P K Nx m g w) (r : RB K false [] w w₁) : GoS P K Nx m g w₁ := Goes.rely (fun _ _ _ a b => a.trans b) h r
theorem AtW.run_off (h : AtW P K (k + 1) T v g w) : g.status = .running ∧ g.offers = none := by
  rcases h with h | h
  · exact ⟨h.run, h.off⟩
  · exact h.2.2.run
theorem GoW.running (h : GoW P K T (AtW P K (k + 1) T v) m g w) : g.status = .running := Goes.running (fun _ _ y => (AtW.run_off y).1) w (RB.refl _ _ w) h
theorem GoS.running {σ : St} (h : GoS P K (AtS P K Fin (k + 1) σ) m g w) : g.status = .running := Goes.running (fun _ _ y => y.run) w (RB.refl _ _ w) h
theorem woken_run' (h : x.status = .running ∨ x.status = .finished) {y y' : Goroutine} : woken P y y' w x = x := by unfold woken; split; exact again_running _ h; rfl
/-- ████ A WORKER, WHILE ANOTHER STEPS. ████ -/
theorem SitW.other (h : SitW P K G T v k m d g w) (r : RB K T.owns T.blk w w₁) (hc : HAt K G'.closed w₁) (hms : G.s.ms = 0 → G'.s.ms = 0 ∨ (mayWake P x = true ∧ x'.status = .running)) (hcl : G.closed = G'.closed ∨ (G'.closed = true ∧ mayWake P x = true ∧ x'.status = .running)) :
    SitW P K G' T v k m d (woken P x x' w₁ g) w₁ ∧ ((woken P x x' w₁ g).status = .blocked → g.status = .blocked) := by
  rcases h with ⟨h1, h2, hg⟩ | ⟨h1, h2, h3, h4, g₀, rfl, hg⟩ | ⟨h1, h2, h3, h4, g₀, rfl, hg⟩ | ⟨h1, h2, h3, h4, g₀, rfl, hg⟩ | ⟨h1, hq⟩
  · have e : woken P x x' w₁ g = g := woken_run' (.inl hg.running)
    rw [e]
    exact ⟨.inl ⟨h1, h2, GoW.rely hg r⟩, id⟩
  · have hg' := GoW.rely hg r
    have hst := AtW.run_off (hg' w₁ (RB.refl _ _ _))
    by_cases hcc : (mayWake P x && x'.status != .blocked && x'.status != .waiting) = true
    · have e : woken P x x' w₁ { g₀ with status := .blocked } = g₀ := by unfold woken; rw [if_pos hcc]; exact again_blocked hst.1 hst.2 _
      rw [e]
      exact ⟨.inl ⟨by rw [h1]; simp, h2, by subst h3; exact hg'⟩, fun _ => rfl⟩
    · have e : woken P x x' w₁ { g₀ with status := .blocked } = { g₀ with status := .blocked } := by unfold woken; rw [if_neg hcc]
      rw [e]
      rcases hms h4 with h5 | ⟨h5, h6⟩
      · exact ⟨.inr (.inl ⟨h1, h2, h3, h5, g₀, rfl, hg'⟩), id⟩
      · exact absurd (by simp [h5, h6]) hcc
  · have hg' := GoW.rely hg r
    obtain ⟨s, rr, hc⟩ := hc
    cases hG : G'.closed with
    | false =>
      rw [hG] at hc
      rw [woken_recv_open _ _ hc]
      exact ⟨.inr (.inr (.inl ⟨h1, h2, h3, hG, g₀, rfl, hg'⟩)), id⟩
    | true =>
      rw [hG] at hc
      rcases hcl with h5 | ⟨_, h5, h6⟩
      · rw [hG, h4] at h5; cases h5
      · have e : woken P x x' w₁ (parked g₀ #[rcase K.Ch K.z] (.recv true)) = { parked g₀ #[rcase K.Ch K.z] (.recv true) with status := .running } := by
          unfold woken
          rw [if_pos (by simp [h5, h6])]
          exact again_recv_closed hc
        rw [e]
        exact ⟨.inr (.inr (.inr (.inl ⟨h1, h2, h3, hG, g₀, rfl, hg'⟩))), fun h => by cases h⟩
  · have hg' := GoW.rely hg r
    have e : woken P x x' w₁ { parked g₀ #[rcase K.Ch K.z] (.recv true) with status := .running } = { parked g₀ #[rcase K.Ch K.z] (.recv true) with status := .running } := woken_run' (.inl rfl)
    rw [e]
    refine ⟨.inr (.inr (.inr (.inl ⟨h1, h2, h3, ?_, g₀, rfl, hg'⟩))), id⟩
    rcases hcl with h5 | ⟨h5, _⟩
    · rw [← h5]; exact h4
    · exact h5
  · rw [woken_quitsD hq]
    exact ⟨.inr (.inr (.inr (.inr ⟨h1, hq⟩))), id⟩
/-- .. and if it isn't looked at. -/
theorem SitW.rely (h : SitW P K G T v k m d g w) (r : RB K T.owns T.blk w w₁) : SitW P K G T v k m d g w₁ := by
  rcases h with ⟨h1, h2, hg⟩ | ⟨h1, h2, h3, h4, g₀, h5, hg⟩ | ⟨h1, h2, h3, h4, g₀, h5, hg⟩ | ⟨h1, h2, h3, h4, g₀, h5, hg⟩ | h
  · exact .inl ⟨h1, h2, GoW.rely hg r⟩
  · exact .inr (.inl ⟨h1, h2, h3, h4, g₀, h5, GoW.rely hg r⟩)
  · exact .inr (.inr (.inl ⟨h1, h2, h3, h4, g₀, h5, GoW.rely hg r⟩))
  · exact .inr (.inr (.inr (.inl ⟨h1, h2, h3, h4, g₀, h5, GoW.rely hg r⟩)))
  · exact .inr (.inr (.inr (.inr h)))
/-- ████ THE STARTER, WHILE ANOTHER STEPS. ████ -/
theorem SitS.other (h : SitS P K Fin G k m g w) (r : RB K false [] w w₁) (hc : HAt K G'.closed w₁) (hp : G'.p = G.p ∧ G'.n = G.n ∧ G'.sent = G.sent) (hcl : G.p = .sn → G'.closed = false) (hws : G.p = .w3 → G.s.ws = 0 → G'.s.ws = 0 ∨ (mayWake P x = true ∧ x'.status = .running)) :
    SitS P K Fin G' k m (woken P x x' w₁ g) w₁ ∧ ((woken P x x' w₁ g).status = .blocked → g.status = .blocked) := by
  have eσ : G'.st = G.st := by unfold GS.st; rw [hp.1, hp.2.1, hp.2.2]
  rcases h with hg | ⟨h1, h3, h4, g₀, rfl, hg⟩ | ⟨h1, h3, g₀, rfl, hg⟩
  · have e : woken P x x' w₁ g = g := woken_run' (.inl hg.running)
    rw [e]
    exact ⟨.inl (by rw [eσ]; exact GoS.rely hg r), id⟩
  · have hg' := GoS.rely hg r
    have hst : AtS P K Fin (k + 1) G.st g₀ w₁ := hg' w₁ (RB.refl _ _ _)
    by_cases hcc : (mayWake P x && x'.status != .blocked && x'.status != .waiting) = true
    · have e : woken P x x' w₁ { g₀ with status := .blocked } = g₀ := by unfold woken; rw [if_pos hcc]; exact again_blocked hst.run hst.off _
      rw [e]
      exact ⟨.inl (by rw [eσ, h3]; exact hg'), fun _ => rfl⟩
    · have e : woken P x x' w₁ { g₀ with status := .blocked } = { g₀ with status := .blocked } := by unfold woken; rw [if_neg hcc]
      rw [e]
      rcases hws h1 h4 with h5 | ⟨h5, h6⟩
      · exact ⟨.inr (.inl ⟨hp.1.trans h1, h3, h5, g₀, rfl, by rw [eσ]; exact hg'⟩), id⟩
      · exact absurd (by simp [h5, h6]) hcc
  · have hg' := GoS.rely hg r
    obtain ⟨s, rr, hc⟩ := hc
    rw [hcl h1] at hc
    rw [woken_send_open _ _ hc]
    exact ⟨.inr (.inr ⟨hp.1.trans h1, h3, g₀, by rw [hp.2.2], by rw [eσ]; exact hg'⟩), id⟩
theorem SitS.rely (h : SitS P K Fin G k m g w) (r : RB K false [] w w₁) : SitS P K Fin G k m g w₁ := by
  rcases h with hg | ⟨h1, h3, h4, g₀, h5, hg⟩ | ⟨h1, h3, g₀, h5, hg⟩
  · exact .inl (GoS.rely hg r)
  · exact .inr (.inl ⟨h1, h3, h4, g₀, h5, GoS.rely hg r⟩)
  · exact .inr (.inr ⟨h1, h3, g₀, h5, GoS.rely hg r⟩)
/-! ### what a step does to the world -/
theorem RB.of_idle {boss : Bool} {mine mine' : List Nat} {own own' mute : Bool} {es : Array Event} {z : Nat} (D : DB K boss mine own mute w w' es) (hK : Blks K c S) (hm : ∀ b, b ∈ mine → S.cl b = .own y) (ho : own = true → own' = false) (hzy : z ≠ y) (hm' : ∀ b, b ∈ mine' → S.cl b = .own z) : RB K own' mine' w w' := by
  have hn : ∀ {k κ}, S.cl k = κ → (∀ y, κ ≠ .own y) → k ∉ mine := fun h1 h2 h3 => h2 y ((h1.symm.trans (hm _ h3)))
  refine ⟨D.tape, D.output, by rw [D.size]; exact Nat.le_refl _, by rw [D.os]; exact .refl _, fun k hk => D.block k (hn (hK.s k hk) (by simp)) fun _ => hk.2.2.2.2.1, fun k hk => D.block k (fun e => ?_) fun _ e => ?_, fun l => ⟨?_, ?_, ?_⟩, fun h => ?_⟩
  · have h1 := hm k e
    rw [hm' k hk] at h1; cases h1; exact hzy rfl
  · subst e; have h1 := hm' _ hk; rw [hK.C] at h1; cases h1
  · obtain ⟨s, hs⟩ := l.sh
    exact ⟨s, hs.of_block (D.block _ (hn hK.M (by simp)) fun _ => K.hMC) (D.block _ (hn hK.W (by simp)) fun _ => K.hWC)⟩
  · obtain ⟨c', s, r, hc⟩ := l.ch
    exact ⟨c', s, r, (D.block _ (hn hK.H (by simp)) fun _ => K.hCH.symm).trans hc⟩
  · by_cases e : own = true
    · exact D.row e l.row
    · obtain ⟨cs, hc, hs⟩ := l.row
      exact ⟨cs, (D.block _ (hn hK.C (by simp)) fun h => absurd h e).trans hc, hs⟩
  · by_cases e : own = true
    · rw [ho e] at h; cases h
    · exact D.block _ (hn hK.C (by simp)) fun h => absurd h e
theorem RB.of_eff {new own : Bool} {mine : List Nat} {s' : Sh} (e : EffB K new w w') (hs : SAt K s' w') (hB : K.B0 ≤ w.heap.size) (hm : ∀ b, b ∈ mine → b ≠ K.Mu ∧ b ≠ K.Wg ∧ b < w.heap.size) : RB K own mine w w' := by
  have hb : ∀ k, k < K.B0 → k ≠ K.Mu → k ≠ K.Wg → w'.heap[k]? = w.heap[k]? := fun k hk => e.block k (by omega)
  refine ⟨e.tape, e.output, by rw [e.size]; omega, e.os, fun k hk => hb k hk.1 hk.2.1 hk.2.2.1, fun k hk => e.block k (hm k hk).2.2 (hm k hk).1 (hm k hk).2.1, fun l => ⟨⟨s', hs⟩, ?_, ?_⟩, fun _ => hb _ K.bC K.hMC.symm K.hWC.symm⟩
  · obtain ⟨c, s, r, hc⟩ := l.ch
    exact ⟨c, s, r, (hb _ K.bH K.hMH.symm K.hWH.symm).trans hc⟩
  · obtain ⟨cs, hc, hs⟩ := l.row
    exact ⟨cs, (hb _ K.bC K.hMC.symm K.hWC.symm).trans hc, hs⟩
theorem setChan_at (w : World) (c cap : Nat) (buf : Array Value) (cl : Bool) (s r : Nat) (tm : Bool) (h : c < w.heap.size) : (w.setChan c cap buf cl s r tm).heap[c]? = some (.chan cap buf cl s r tm) := by simp [World.setChan, h]
theorem setChan_ne (w : World) (c k cap : Nat) (buf : Array Value) (cl : Bool) (s r : Nat) (tm : Bool) (h : k ≠ c) : (w.setChan c cap buf cl s r tm).heap[k]? = w.heap[k]? := by simp [World.setChan, Array.getElem?_setIfInBounds_ne (Ne.symm h)]
theorem setChan_size (w : World) (c cap : Nat) (buf : Array Value) (cl : Bool) (s r : Nat) (tm : Bool) : (w.setChan c cap buf cl s r tm).heap.size = w.heap.size := by simp [World.setChan]
theorem RB.of_chan {own : Bool} {mine : List Nat} {cl : Bool} {s r : Nat} (hB : K.B0 ≤ w.heap.size) (hm : ∀ b, b ∈ mine → b ≠ K.Ch) : RB K own mine w (w.setChan K.Ch 0 #[] cl s r false) := by
  have hb : ∀ k, k ≠ K.Ch → (w.setChan K.Ch 0 #[] cl s r false).heap[k]? = w.heap[k]? := fun k hk => setChan_ne _ _ _ _ _ _ _ _ _ hk
  have hlt : K.Ch < w.heap.size := by have := K.bH; omega
  refine ⟨rfl, rfl, by rw [setChan_size]; exact Nat.le_refl _, .refl _, fun k hk => hb k hk.2.2.2.1, fun k hk => hb k (hm k hk), fun l => ⟨?_, ⟨cl, s, r, setChan_at _ _ _ _ _ _ _ _ hlt⟩, ?_⟩, fun _ => hb _ K.hCH⟩
  · obtain ⟨s', hs⟩ := l.sh
    exact ⟨s', hs.of_block (hb _ K.hMH) (hb _ K.hWH)⟩
  · obtain ⟨cs, hc, hs⟩ := l.row
    exact ⟨cs, (hb _ K.hCH).trans hc, hs⟩
theorem Blks.ne {k z : Nat} (hK : Blks K c S) (h : S.cl k = .own z) : k ≠ K.Mu ∧ k ≠ K.Wg ∧ k ≠ K.Ch ∧ k ≠ K.C := by
  refine ⟨?_, ?_, ?_, ?_⟩
  · rintro rfl; rw [hK.M] at h; cases h
  · rintro rfl; rw [hK.W] at h; cases h
  · rintro rfl; rw [hK.H] at h; cases h
  · rintro rfl; rw [hK.C] at h; cases h
/-- A STEP IN ANOTHER GANG leaves this one's four blocks. -/
theorem Far.four {c₁ : Nat} (F : Far S c₁ y w w') (hK : Blks K c S) (hB : K.B0 ≤ w.heap.size) (hc : c ≠ c₁) :
    w'.heap[K.Mu]? = w.heap[K.Mu]? ∧ w'.heap[K.Wg]? = w.heap[K.Wg]? ∧ w'.heap[K.Ch]? = w.heap[K.Ch]? ∧ w'.heap[K.C]? = w.heap[K.C]? ∧ ∀ k, Still K k → w'.heap[k]? = w.heap[k]? := by
  have bM := K.bM; have bW := K.bW; have bH := K.bH; have bC := K.bC
  refine ⟨F.blk _ (by omega) ?_ ?_ ?_ ?_, F.blk _ (by omega) ?_ ?_ ?_ ?_, F.blk _ (by omega) ?_ ?_ ?_ ?_, F.blk _ (by omega) ?_ ?_ ?_ ?_, fun k hk => F.blk k (by have := hk.1; omega) ?_ ?_ ?_ ?_⟩
  any_goals rw [hK.M]; simp [hc]
  any_goals rw [hK.W]; simp [hc]
  any_goals rw [hK.H]; simp [hc]
  any_goals rw [hK.C]; simp [hc]
  all_goals rw [hK.s k hk]; simp
theorem RB.of_far {c₁ z : Nat} {own : Bool} {mine : List Nat} (F : Far S c₁ y w w') (hK : Blks K c S) (hB : K.B0 ≤ w.heap.size) (hc : c ≠ c₁) (hzy : z ≠ y) (hm : ∀ b, b ∈ mine → S.cl b = .own z ∧ b < w.heap.size) : RB K own mine w w' := by
  obtain ⟨h1, h2, h3, h4, h5⟩ := F.four hK hB hc
  refine ⟨F.tape, F.output, F.size, F.os, h5, fun k hk => F.blk k (hm k hk).2 ?_ ?_ ?_ ?_, fun l => ⟨?_, ?_, ?_⟩, fun _ => h4⟩
  any_goals rw [(hm k hk).1]; simp [hzy]
  · obtain ⟨s', hs⟩ := l.sh
    exact ⟨s', hs.of_block h1 h2⟩
  · obtain ⟨c', s, r, hc⟩ := l.ch
    exact ⟨c', s, r, h3.trans hc⟩
  · obtain ⟨cs, hc, hs⟩ := l.row
    exact ⟨cs, h4.trans hc, hs⟩
end
/-! ### the invariant of one gang -/
/-- ████ ONE GANG, whose starter is c. id: its workers' numbers. Who is a starter himself is not looked at. ████ -/
structure Cx (P : Program) (K : Band) (c : Nat) (id : Nat → Nat) (Fin : Goroutine → World → Prop) (S : TG) (G : GS) (gf : Nat → Goroutine) (w : World) (vs : Nat → Array Value) (ks : Nat → Nat) (kb : Nat) (M : Nat → Nat) (t : Trace) (ng : Nat) : Prop where
  ok : Ok K.N K.J G
  nr : G.p ≠ .ret
  hk : (∀ i, G.rank K.N K.J ≤ ks i) ∧ G.rank K.N K.J ≤ kb
  sh : SAt K G.s w
  ch : HAt K G.closed w
  row : S.tok c = none → CAt K (K.row G.dn) w
  rowJ : ∃ cs, CAt K cs w ∧ cs.size = K.sz
  ur : ∀ i, i < G.n → (G.D i).pc = .ur → vs i = K.row (putDn G.dn (G.D i))
  st : SitS P K Fin G kb (M c) (gf c) w
  d0 : Deaf t c = G.p.deaf
  wk : ∀ i, i < G.n → S.act (id i) ∨ SitW P K G (G.D i) (vs i) (ks i) (M (id i)) (Deaf t (id i)) (gf (id i)) w
  busy : ∀ i, i < G.n → S.act (id i) → (G.D i).pc = .bx ∨ (G.D i).pc = .ld
  px : ∀ i, i < G.n → G.p = .sn → (gf c).status = .blocked → ¬ ((G.D i).pc = .rc ∧ (gf (id i)).status = .blocked)
  bk : ∀ i, i < G.n → ∀ b, b ∈ (G.D i).blk → b < w.heap.size ∧ (S.cl b = .own (id i) ∨ (S.act (id i) ∧ (S.cl b = .lent (id i) ∨ S.cl b = .row (id i) ∨ S.cl b = .chan (id i))))
  ow : ∀ i, i < G.n → (G.D i).owns = true → S.tok c = some (id i)
  ow' : ∀ y, S.tok c = some y → ∃ i, i < G.n ∧ (G.D i).owns = true ∧ y = id i
  idc : c < ng ∧ ∀ i, i < G.n → id i < ng ∧ id i ≠ c ∧ id i ≠ 0
  idJ : ∀ i k, i < G.n → k < G.n → id i = id k → i = k
  wkS : ∀ z, S.wk c z ↔ ∃ i, i < G.n ∧ z = id i
  mu : ∀ i, i < G.n → (S.mute (id i) ↔ (G.D i).mute = true)
  act : S.act c
  adr : S.mA c = muA K.Mu ∧ S.wA c = stA K.Wg
  mn : K.mn = (c == 0)
  bl : Blks K c S
  B : K.B0 ≤ w.heap.size
  sz : S.sz = w.heap.size
section
variable {P : Program} {K : Band} {c : Nat} {id id' : Nat → Nat} {Fin : Goroutine → World → Prop} {S S' : TG} {G G' : GS} {gf gf' : Nat → Goroutine} {w w' w₁ : World} {vs : Nat → Array Value} {ks M M' : Nat → Nat} {kb : Nat} {t t' : Trace} {ng ng' : Nat} {x x' : Goroutine}
/-- Who isn't busy has blocks of his own. -/
theorem Cx.mine (h : Cx P K c id Fin S G gf w vs ks kb M t ng) {i : Nat} (hi : i < G.n) (hb : ¬ S.act (id i)) : ∀ b, b ∈ (G.D i).blk → S.cl b = .own (id i) ∧ b < w.heap.size := fun b hbb => by
  obtain ⟨h1, h2⟩ := h.bk i hi b hbb
  exact ⟨h2.resolve_right fun h3 => hb h3.1, h1⟩
theorem Cx.mem_iff (h : Cx P K c id Fin S G gf w vs ks kb M t ng) (z : Nat) : S.mem c z ↔ (z = c ∨ ∃ i, i < G.n ∧ z = id i) := by
  unfold TG.mem
  rw [h.wkS]
/-- ████ A STEP IN ANOTHER GANG. ████ -/
theorem Cx.far (h : Cx P K c id Fin S G gf w vs ks kb M t ng) {c₁ y : Nat} (hc : c ≠ c₁) (F : Far S c₁ y w w') (hyc : y ≠ c) (hy : ∀ i, i < G.n → y = id i → S.act y)
    (hcl : ∀ k, k < S.sz → S'.cl k = S.cl k) (hact : ∀ z, S'.act z ↔ S.act z) (hwk : ∀ z, S'.wk c z ↔ S.wk c z) (hmute : ∀ z, S.wk c z → (S'.mute z ↔ S.mute z)) (htok : S'.tok c = S.tok c) (hadr : S'.mA c = S.mA c ∧ S'.wA c = S.wA c) (hsz : S'.sz = w'.heap.size) (hng : ng ≤ ng')
    (hM : ∀ z, S.mem c z → (z = c ∨ ¬ S.act z) → M' z = M z) (hgf : ∀ z, S.mem c z → (z = c ∨ ¬ S.act z) → gf' z = gf z ∨ ∃ x x', gf' z = woken P x x' w' (gf z)) (hD : ∀ z, S.mem c z → (z = c ∨ ¬ S.act z) → Deaf t' z = Deaf t z) :
    Cx P K c id Fin S' G gf' w' vs ks kb M' t' ng' := by
  obtain ⟨f1, f2, f3, f4, f5⟩ := F.four h.bl h.B hc
  have hch : HAt K G.closed w' := by
    obtain ⟨s, r, e⟩ := h.ch
    exact ⟨s, r, f3.trans e⟩
  have mc : S.mem c c := .inl rfl
  have mi : ∀ {i}, i < G.n → S.mem c (id i) := fun hi => .inr ((h.wkS _).2 ⟨_, hi, rfl⟩)
  have bM := K.bM; have bW := K.bW; have bH := K.bH; have bC := K.bC; have hB := h.B; have hs := h.sz
  have hst : SitS P K Fin G kb (M c) (gf' c) w' ∧ ((gf' c).status = .blocked → (gf c).status = .blocked) := by
    have r : RB K false [] w w' := RB.of_far F h.bl h.B hc (z := c) (Ne.symm hyc) (fun b hb => by cases hb)
    rcases hgf c mc (.inl rfl) with e | ⟨x, x', e⟩
    · rw [e]; exact ⟨h.st.rely r, fun h => h⟩
    · rw [e]; exact h.st.other r hch ⟨rfl, rfl, rfl⟩ (fun hp => by rw [h.ok.cl, hp]; rfl) (fun _ h => .inl h)
  have hwk' : ∀ i, i < G.n → ¬ S.act (id i) → SitW P K G (G.D i) (vs i) (ks i) (M (id i)) (Deaf t (id i)) (gf' (id i)) w' ∧ ((gf' (id i)).status = .blocked → (gf (id i)).status = .blocked) := fun i hi ha => by
    have hne : id i ≠ y := fun e => ha (by rw [e]; exact hy i hi e.symm)
    have r : RB K (G.D i).owns (G.D i).blk w w' := RB.of_far F h.bl h.B hc (z := id i) hne (h.mine hi ha)
    have hs := (h.wk i hi).resolve_left ha
    rcases hgf _ (mi hi) (.inr ha) with e | ⟨x, x', e⟩
    · rw [e]; exact ⟨hs.rely r, fun h => h⟩
    · rw [e]; exact hs.other r hch (fun h => .inl h) (.inl rfl)
  refine ⟨h.ok, h.nr, h.hk, h.sh.of_block f1 f2, hch, fun ht => f4.trans (h.row (by rw [← htok]; exact ht)), ?_, h.ur, ?_, ?_, fun i hi => ?_, fun i hi ha => h.busy i hi ((hact _).1 ha), fun i hi hp hb => ?_, fun i hi b hb => ?_, fun i hi ho => by rw [htok]; exact h.ow i hi ho, fun z hz => h.ow' z (by rw [← htok]; exact hz),
    ⟨Nat.lt_of_lt_of_le h.idc.1 hng, fun i hi => ⟨Nat.lt_of_lt_of_le (h.idc.2 i hi).1 hng, (h.idc.2 i hi).2⟩⟩, h.idJ, fun z => by rw [hwk]; exact h.wkS z, fun i hi => by rw [hmute _ ((h.wkS _).2 ⟨_, hi, rfl⟩)]; exact h.mu i hi, (hact _).2 h.act, by rw [hadr.1, hadr.2]; exact h.adr, h.mn, ⟨?_, ?_, ?_, ?_, fun k hk => ?_⟩, Nat.le_trans h.B F.size, hsz⟩
  · obtain ⟨cs, e, e2⟩ := h.rowJ
    exact ⟨cs, f4.trans e, e2⟩
  · rw [hM c mc (.inl rfl)]; exact hst.1
  · rw [hD c mc (.inl rfl)]; exact h.d0
  · by_cases ha : S.act (id i)
    · exact .inl ((hact _).2 ha)
    · right
      rw [hM _ (mi hi) (.inr ha), hD _ (mi hi) (.inr ha)]
      exact (hwk' i hi ha).1
  · rintro ⟨e1, e2⟩
    by_cases ha : S.act (id i)
    · have := h.busy i hi ha
      rw [e1] at this; rcases this with e | e <;> cases e
    · exact h.px i hi hp (hst.2 hb) ⟨e1, (hwk' i hi ha).2 e2⟩
  · obtain ⟨h1, h2⟩ := h.bk i hi b hb
    rw [hcl b (by omega), hact]
    exact ⟨Nat.lt_of_lt_of_le h1 F.size, h2⟩
  · rw [hcl _ (by omega)]; exact h.bl.M
  · rw [hcl _ (by omega)]; exact h.bl.W
  · rw [hcl _ (by omega)]; exact h.bl.H
  · rw [hcl _ (by omega)]; exact h.bl.C
  · rw [hcl _ (by have := hk.1; omega)]; exact h.bl.s k hk
/-- ALL OTHERS OF THE GANG, while y steps. -/
theorem Cx.others (h : Cx P K c id Fin S G gf w vs ks kb M t ng) (y : Nat) (hn : G'.n = G.n) (hc : HAt K G'.closed w₁) (hr : ∀ i, i < G.n → ¬ S.act (id i) → id i ≠ y → RB K (G.D i).owns (G.D i).blk w w₁) (hr0 : y ≠ c → RB K false [] w w₁) (hp0 : y ≠ c → G'.p = G.p ∧ G'.sent = G.sent)
    (hms : G.s.ms = 0 → G'.s.ms = 0 ∨ (mayWake P x = true ∧ x'.status = .running)) (hcl : G.closed = G'.closed ∨ (G'.closed = true ∧ mayWake P x = true ∧ x'.status = .running)) (hcl0 : y ≠ c → G.p = .sn → G'.closed = false) (hws : y ≠ c → G.p = .w3 → G.s.ws = 0 → G'.s.ws = 0 ∨ (mayWake P x = true ∧ x'.status = .running)) :
    (y ≠ c → SitS P K Fin G' kb (M c) (woken P x x' w₁ (gf c)) w₁ ∧ ((woken P x x' w₁ (gf c)).status = .blocked → (gf c).status = .blocked)) ∧
      (∀ i, i < G.n → id i ≠ y → (S.act (id i) ∨ SitW P K G' (G.D i) (vs i) (ks i) (M (id i)) (Deaf t (id i)) (woken P x x' w₁ (gf (id i))) w₁) ∧ ((G.D i).pc = .rc → (woken P x x' w₁ (gf (id i))).status = .blocked → (gf (id i)).status = .blocked)) := by
  refine ⟨fun hy => h.st.other (hr0 hy) hc ⟨(hp0 hy).1, hn, (hp0 hy).2⟩ (hcl0 hy) (hws hy), fun i hi hne => ?_⟩
  by_cases ha : S.act (id i)
  · exact ⟨.inl ha, fun e => by have := h.busy i hi ha; rw [e] at this; rcases this with e | e <;> cases e⟩
  · have := ((h.wk i hi).resolve_left ha).other (G' := G') (x := x) (x' := x') (hr i hi ha hne) hc hms hcl
    exact ⟨.inr this.1, fun _ => this.2⟩
end
end Go.Proofs.Ytapjmifhhbpikaa

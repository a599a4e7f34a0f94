/- The gang in the machine: the invariant; what one's step does to the others. -/
import Derived.Test.YtapjmifhhbpikaaBdT
set_option linter.unusedVariables false
set_option linter.unusedSimpArgs false
namespace Go.Proofs.Ytapjmifhhbpikaa
open Go.Conc Go.ConcN Go.ConcM
open Go.ConcR (KK wgBlock WgAt stA smA rd wr g_of_ofEvents ofEvent_loc_mark ofEvent_cell ofEvent_mk loc_of_ofEvent again_blocked)
section
variable (P : Program) (K : Band) (Fin : Goroutine → World → Prop)
/-- WHERE A WORKER STANDS. -/
def SitW (G : GS) (T : Th) (v : Array Value) (k φ d : Nat) (g : Goroutine) (w : World) : Prop :=
  (T.pc ≠ .quit ∧ d = T.deaf ∧ ∃ m, φ = (K.N + 3) * m + 1 ∧ GoW P K T (AtW P K (k + 1) T v) m g w) ∨
  (T.pc = .s1 ∧ d = T.deaf ∧ φ = 0 ∧ G.s.ms = 0 ∧ ∃ g₀, g = { g₀ with status := .blocked } ∧ GoW P K T (AtW P K (k + 1) T v) 0 g₀ w) ∨
  (T.pc = .rc ∧ d = T.deaf ∧ φ = 0 ∧ G.closed = false ∧ ∃ g₀, g = parked g₀ #[rcase K.Ch K.z] (.recv true) ∧ GoW P K T (AtW P K (k + 1) T v) 0 g₀ w) ∨
  (T.pc = .rc ∧ d = T.deaf ∧ φ = 1 ∧ G.closed = true ∧ ∃ g₀, g = { parked g₀ #[rcase K.Ch K.z] (.recv true) with status := .running } ∧ GoW P K T (AtW P K (k + 1) T v) 0 g₀ w) ∨
  (T.pc = .quit ∧ ∃ q, φ = (K.N + 3) * q ∧ QuitsD P q d g)
def GS.st (G : GS) : St := ⟨G.p, G.n, G.sent⟩
/-- WHERE THE STARTER STANDS. -/
def SitS (G : GS) (k φ : Nat) (g : Goroutine) (w : World) : Prop :=
  (∃ m, φ = (K.N + 3) * m + 1 ∧ GoS P K (AtS P K Fin (k + 1) G.st) m g w) ∨
  (G.p = .w3 ∧ φ = 0 ∧ G.s.ws = 0 ∧ ∃ g₀, g = { g₀ with status := .blocked } ∧ GoS P K (AtS P K Fin (k + 1) G.st) 0 g₀ w) ∨
  (G.p = .sn ∧ φ = 0 ∧ ∃ g₀, g = parked g₀ #[scase K.Ch (jobV G.sent) (.tuple #[])] .send ∧ GoS P K (AtS P K Fin (k + 1) G.st) 0 g₀ w)
/-- ████ THE INVARIANT. ████ -/
structure Cx (G : GS) (gf : Nat → Goroutine) (w : World) (vs : Nat → Array Value) (ks φ : Nat → Nat) (o : Option Nat) (ob : Nat → Option Nat) (t : Trace) : Prop where
  ok : Ok K.N K.J G
  nr : G.p ≠ .ret
  hk : ∀ y, G.rank K.N K.J ≤ ks y
  sh : SAt K G.s w
  ch : HAt K G.closed w
  row : o = none → CAt K (K.row G.dn) w
  rowJ : ∃ cs, CAt K cs w ∧ cs.size = K.sz
  ur : ∀ i, i < G.n → (G.D i).pc = .ur → vs i = K.row (putDn G.dn (G.D i))
  st : SitS P K Fin G (ks 0) (φ 0) (gf 0) w
  d0 : Deaf t 0 = G.p.deaf
  wk : ∀ i, i < G.n → SitW P K G (G.D i) (vs i) (ks (idW K i)) (φ (idW K i)) (Deaf t (idW K i)) (gf (idW K i)) w
  lv : ∀ j, 1 ≤ j → j ≤ K.base → ∃ q, φ j = (K.N + 3) * q ∧ QuitsD P q (Deaf t j) (gf j)
  px : ∀ i, i < G.n → G.p = .sn → (gf 0).status = .blocked → ¬ ((G.D i).pc = .rc ∧ (gf (idW K i)).status = .blocked)
  bk : ∀ i, i < G.n → ∀ b, b ∈ (G.D i).blk → ob b = some (idW K i)
  ow : ∀ i, i < G.n → (G.D i).owns = true → o = some (idW K i)
  ow' : ∀ y, o = some y → ∃ i, i < G.n ∧ (G.D i).owns = true ∧ y = idW K i
  mt : MTr K G.n (fun i => (G.D i).mute) o ob w.heap.size t
end
section
variable {P : Program} {K : Band} {Fin : Goroutine → World → Prop} {G G' : GS} {gf : Nat → Goroutine} {w w' w₁ : World} {vs : Nat → Array Value} {ks φ : Nat → Nat} {o : Option Nat} {ob : Nat → Option Nat} {t : Trace} {T : Th} {v : Array Value} {k f d : Nat} {g x x' : Goroutine}
theorem GoW.rely {Nx : Goroutine → World → Prop} {m : Nat} (h : GoW P K T Nx m g w) (r : RB K T.owns T.blk w w₁) : GoW P K T Nx m g w₁ := Goes.rely (fun _ _ _ a b => a.trans b) h r
theorem GoS.rely {Nx : Goroutine → World → Prop} {m : Nat} (h : GoS P K Nx m g w) (r : RB K false [] w w₁) : GoS P K Nx m g w₁ := Goes.rely (fun _ _ _ a b => a.trans b) h r
theorem GoW.running {m : Nat} (h : GoW P K T (AtW P K (k + 1) T v) m g w) : g.status = .running := Goes.running (fun _ _ y => y.run) w (RB.refl _ _ w) h
theorem GoS.running {m : Nat} {σ : St} (h : GoS P K (AtS P K Fin (k + 1) σ) m g w) : g.status = .running := Goes.running (fun _ _ y => y.run) w (RB.refl _ _ w) h
theorem woken_run' (h : x.status = .running ∨ x.status = .finished) {y y' : Goroutine} : woken P y y' w x = x := by unfold woken; split; exact again_running _ h; rfl
/-- ████ A WORKER, WHILE ANOTHER STEPS. ████ -/
theorem SitW.other (h : SitW P K G T v k f d g w) (r : RB K T.owns T.blk w w₁) (hc : HAt K G'.closed w₁) (hms : G.s.ms = 0 → G'.s.ms = 0 ∨ (mayWake P x = true ∧ x'.status = .running)) (hcl : G.closed = G'.closed ∨ (G'.closed = true ∧ mayWake P x = true ∧ x'.status = .running)) :
    ∃ f', f' ≤ f + 1 ∧ SitW P K G' T v k f' d (woken P x x' w₁ g) w₁ ∧ ((woken P x x' w₁ g).status = .blocked → g.status = .blocked) := by
  rcases h with ⟨h1, h2, m, h3, hg⟩ | ⟨h1, h2, h3, h4, g₀, rfl, hg⟩ | ⟨h1, h2, h3, h4, g₀, rfl, hg⟩ | ⟨h1, h2, h3, h4, g₀, rfl, hg⟩ | ⟨h1, q, h2, hq⟩
  · have e : woken P x x' w₁ g = g := woken_run' (.inl hg.running)
    rw [e]
    exact ⟨f, by omega, .inl ⟨h1, h2, m, h3, GoW.rely hg r⟩, id⟩
  · have hg' := GoW.rely hg r
    have hst : AtW P K (k + 1) T v g₀ w₁ := hg' w₁ (RB.refl _ _ _)
    by_cases hcc : (mayWake P x && x'.status != .blocked && x'.status != .waiting) = true
    · have e : woken P x x' w₁ { g₀ with status := .blocked } = g₀ := by unfold woken; rw [if_pos hcc]; exact again_blocked hst.run hst.off _
      rw [e]
      exact ⟨1, by omega, .inl ⟨by rw [h1]; simp, h2, 0, by omega, hg'⟩, fun _ => rfl⟩
    · have e : woken P x x' w₁ { g₀ with status := .blocked } = { g₀ with status := .blocked } := by unfold woken; rw [if_neg hcc]
      rw [e]
      rcases hms h4 with h5 | ⟨h5, h6⟩
      · exact ⟨f, by omega, .inr (.inl ⟨h1, h2, h3, h5, g₀, rfl, hg'⟩), id⟩
      · exact absurd (by simp [h5, h6]) hcc
  · have hg' := GoW.rely hg r
    obtain ⟨s, rr, hc⟩ := hc
    cases hG : G'.closed with
    | false =>
      rw [hG] at hc
      rw [woken_recv_open _ _ hc]
      exact ⟨f, by omega, .inr (.inr (.inl ⟨h1, h2, h3, hG, g₀, rfl, hg'⟩)), id⟩
    | true =>
      rw [hG] at hc
      rcases hcl with h5 | ⟨_, h5, h6⟩
      · rw [hG, h4] at h5; cases h5
      · have e : woken P x x' w₁ (parked g₀ #[rcase K.Ch K.z] (.recv true)) = { parked g₀ #[rcase K.Ch K.z] (.recv true) with status := .running } := by
          unfold woken
          rw [if_pos (by simp [h5, h6])]
          exact again_recv_closed hc
        rw [e]
        exact ⟨1, by omega, .inr (.inr (.inr (.inl ⟨h1, h2, rfl, hG, g₀, rfl, hg'⟩))), fun h => by cases h⟩
  · have hg' := GoW.rely hg r
    have e : woken P x x' w₁ { parked g₀ #[rcase K.Ch K.z] (.recv true) with status := .running } = { parked g₀ #[rcase K.Ch K.z] (.recv true) with status := .running } := woken_run' (.inl rfl)
    rw [e]
    refine ⟨f, by omega, .inr (.inr (.inr (.inl ⟨h1, h2, h3, ?_, g₀, rfl, hg'⟩))), id⟩
    rcases hcl with h5 | ⟨h5, _⟩
    · rw [← h5]; exact h4
    · exact h5
  · rw [woken_quitsD hq]
    exact ⟨f, by omega, .inr (.inr (.inr (.inr ⟨h1, q, h2, hq⟩))), id⟩
/-- ████ THE STARTER, WHILE ANOTHER STEPS. ████ -/
theorem SitS.other (h : SitS P K Fin G k f g w) (r : RB K false [] w w₁) (hc : HAt K G'.closed w₁) (hp : G'.p = G.p ∧ G'.n = G.n ∧ G'.sent = G.sent) (hcl : G.p = .sn → G'.closed = false) (hws : G.p = .w3 → G.s.ws = 0 → G'.s.ws = 0 ∨ (mayWake P x = true ∧ x'.status = .running)) :
    ∃ f', f' ≤ f + 1 ∧ SitS P K Fin G' k f' (woken P x x' w₁ g) w₁ ∧ ((woken P x x' w₁ g).status = .blocked → g.status = .blocked) := by
  have eσ : G'.st = G.st := by unfold GS.st; rw [hp.1, hp.2.1, hp.2.2]
  rcases h with ⟨m, h3, hg⟩ | ⟨h1, h3, h4, g₀, rfl, hg⟩ | ⟨h1, h3, g₀, rfl, hg⟩
  · have e : woken P x x' w₁ g = g := woken_run' (.inl hg.running)
    rw [e]
    exact ⟨f, by omega, .inl ⟨m, h3, by rw [eσ]; exact GoS.rely hg r⟩, id⟩
  · have hg' := GoS.rely hg r
    have hst : AtS P K Fin (k + 1) G.st g₀ w₁ := hg' w₁ (RB.refl _ _ _)
    by_cases hcc : (mayWake P x && x'.status != .blocked && x'.status != .waiting) = true
    · have e : woken P x x' w₁ { g₀ with status := .blocked } = g₀ := by unfold woken; rw [if_pos hcc]; exact again_blocked hst.run hst.off _
      rw [e]
      exact ⟨1, by omega, .inl ⟨0, by omega, by rw [eσ]; exact hg'⟩, fun _ => rfl⟩
    · have e : woken P x x' w₁ { g₀ with status := .blocked } = { g₀ with status := .blocked } := by unfold woken; rw [if_neg hcc]
      rw [e]
      rcases hws h1 h4 with h5 | ⟨h5, h6⟩
      · exact ⟨f, by omega, .inr (.inl ⟨hp.1.trans h1, h3, h5, g₀, rfl, by rw [eσ]; exact hg'⟩), id⟩
      · exact absurd (by simp [h5, h6]) hcc
  · have hg' := GoS.rely hg r
    obtain ⟨s, rr, hc⟩ := hc
    rw [hcl h1] at hc
    rw [woken_send_open _ _ hc]
    exact ⟨f, by omega, .inr (.inr ⟨hp.1.trans h1, h3, g₀, by rw [hp.2.2], by rw [eσ]; exact hg'⟩), id⟩
/-! ### what a step does to the world -/
theorem RB.of_idle {boss : Bool} {mine mine' : List Nat} {own own' mute : Bool} {es : Array Event} (D : DB K boss mine own mute w w' es) (hm : ∀ b, b ∈ mine → K.B0 ≤ b) (ho : own = true → own' = false) (hd : ∀ b, b ∈ mine → b ∉ mine') (hm' : ∀ b, b ∈ mine' → K.B0 ≤ b) : RB K own' mine' w w' := by
  have hb : ∀ k, k < K.B0 → (own = true → k ≠ K.C) → w'.heap[k]? = w.heap[k]? := fun k hk hc => D.block k (fun e => by have := hm k e; omega) hc
  refine ⟨D.tape, D.output, by rw [D.size]; exact Nat.le_refl _, by rw [D.os]; exact .refl _, fun k hk => hb k hk.1 fun _ => hk.2.2.2.2, fun k hk => D.block k (fun e => hd k e hk) fun hw => ?_, fun l => ⟨?_, ?_, ?_⟩, fun h => ?_⟩
  · have := hm' k hk; have := K.bC; omega
  · obtain ⟨s, hs⟩ := l.sh
    exact ⟨s, hs.of_block (hb _ K.bM fun _ => K.hMC) (hb _ K.bW fun _ => K.hWC)⟩
  · obtain ⟨c, s, r, hc⟩ := l.ch
    exact ⟨c, s, r, (hb _ K.bH fun _ => K.hCH.symm).trans hc⟩
  · by_cases e : own = true
    · exact D.row e l.row
    · obtain ⟨cs, hc, hs⟩ := l.row
      exact ⟨cs, (hb _ K.bC fun h => absurd h e).trans hc, hs⟩
  · by_cases e : own = true
    · rw [ho e] at h; cases h
    · exact hb _ K.bC fun h => absurd h e
theorem RB.of_eff {new own : Bool} {mine : List Nat} {s' : Sh} (e : EffB K new w w') (hs : SAt K s' w') (hB : K.B0 ≤ w.heap.size) (hm : ∀ b, b ∈ mine → K.B0 ≤ b ∧ b < w.heap.size) : RB K own mine w w' := by
  have hb : ∀ k, k < K.B0 → k ≠ K.Mu → k ≠ K.Wg → w'.heap[k]? = w.heap[k]? := fun k hk => e.block k (by omega)
  refine ⟨e.tape, e.output, by rw [e.size]; omega, e.os, fun k hk => hb k hk.1 hk.2.1 hk.2.2.1, fun k hk => ?_, fun l => ⟨⟨s', hs⟩, ?_, ?_⟩, fun _ => hb _ K.bC K.hMC.symm K.hWC.symm⟩
  · have h1 := hm k hk; have := K.bM; have := K.bW
    exact e.block k h1.2 (by omega) (by omega)
  · obtain ⟨c, s, r, hc⟩ := l.ch
    exact ⟨c, s, r, (hb _ K.bH K.hMH.symm K.hWH.symm).trans hc⟩
  · obtain ⟨cs, hc, hs⟩ := l.row
    exact ⟨cs, (hb _ K.bC K.hMC.symm K.hWC.symm).trans hc, hs⟩
theorem setChan_at (w : World) (c cap : Nat) (buf : Array Value) (cl : Bool) (s r : Nat) (tm : Bool) (h : c < w.heap.size) : (w.setChan c cap buf cl s r tm).heap[c]? = some (.chan cap buf cl s r tm) := by simp [World.setChan, h]
theorem setChan_ne (w : World) (c k cap : Nat) (buf : Array Value) (cl : Bool) (s r : Nat) (tm : Bool) (h : k ≠ c) : (w.setChan c cap buf cl s r tm).heap[k]? = w.heap[k]? := by simp [World.setChan, Array.getElem?_setIfInBounds_ne (Ne.symm h)]
theorem setChan_size (w : World) (c cap : Nat) (buf : Array Value) (cl : Bool) (s r : Nat) (tm : Bool) : (w.setChan c cap buf cl s r tm).heap.size = w.heap.size := by simp [World.setChan]
theorem RB.of_chan {own : Bool} {mine : List Nat} {cl : Bool} {s r : Nat} (hB : K.B0 ≤ w.heap.size) (hm : ∀ b, b ∈ mine → K.B0 ≤ b) : RB K own mine w (w.setChan K.Ch 0 #[] cl s r false) := by
  have hb : ∀ k, k ≠ K.Ch → (w.setChan K.Ch 0 #[] cl s r false).heap[k]? = w.heap[k]? := fun k hk => setChan_ne _ _ _ _ _ _ _ _ _ hk
  have hlt : K.Ch < w.heap.size := by have := K.bH; omega
  refine ⟨rfl, rfl, by rw [setChan_size]; exact Nat.le_refl _, .refl _, fun k hk => hb k hk.2.2.2.1, fun k hk => hb k (by have := hm k hk; have := K.bH; omega), fun l => ⟨?_, ⟨cl, s, r, setChan_at _ _ _ _ _ _ _ _ hlt⟩, ?_⟩, fun _ => hb _ K.hCH⟩
  · obtain ⟨s', hs⟩ := l.sh
    exact ⟨s', hs.of_block (hb _ K.hMH) (hb _ K.hWH)⟩
  · obtain ⟨cs, hc, hs⟩ := l.row
    exact ⟨cs, (hb _ K.hCH).trans hc, hs⟩
/-- Who may be woken. -/
def bmp (K : Band) (x : Nat) : Nat := if x = 0 ∨ K.base < x then 1 else 0
theorem sum_bmp (K : Band) : ∀ n, sumTo (K.base + 1 + n) (bmp K) = n + 1 := by
  have h0 : ∀ b, b ≤ K.base → sumTo (b + 1) (bmp K) = 1 := by
    intro b
    induction b with
    | zero => intro _; simp [sumTo, bmp]
    | succ b ih =>
      intro hb
      have := ih (by omega)
      show sumTo (b + 1) (bmp K) + bmp K (b + 1) = 1
      rw [this]
      simp [bmp]
      omega
  intro n
  induction n with
  | zero => exact h0 _ (Nat.le_refl _)
  | succ n ih =>
    show sumTo (K.base + 1 + n) (bmp K) + bmp K (K.base + 1 + n) = n + 1 + 1
    rw [ih]
    have : bmp K (K.base + 1 + n) = 1 := by unfold bmp; rw [if_pos (.inr (by omega))]
    rw [this]
theorem sum_add_le {f g h : Nat → Nat} : ∀ {n : Nat}, (∀ i, i < n → f i ≤ g i + h i) → sumTo n f ≤ sumTo n g + sumTo n h
  | 0, _ => by simp [sumTo]
  | n + 1, hh => by
    have := sum_add_le (n := n) fun i hi => hh i (by omega)
    have := hh n (by omega)
    simp only [sumTo]
    omega
/-- ████ ALL OTHERS, WHILE y STEPS. ████ -/
theorem Cx.others (c : Cx P K Fin G gf w vs ks φ o ob t) (y : Nat) (hn : G'.n = G.n) (hc : HAt K G'.closed w₁) (hr : ∀ k, k < G.n → idW K k ≠ y → RB K (G.D k).owns (G.D k).blk w w₁) (hr0 : y ≠ 0 → RB K false [] w w₁) (hp0 : y ≠ 0 → G'.p = G.p ∧ G'.sent = G.sent)
    (hms : G.s.ms = 0 → G'.s.ms = 0 ∨ (mayWake P x = true ∧ x'.status = .running)) (hcl : G.closed = G'.closed ∨ (G'.closed = true ∧ mayWake P x = true ∧ x'.status = .running)) (hcl0 : y ≠ 0 → G.p = .sn → G'.closed = false) (hws : y ≠ 0 → G.p = .w3 → G.s.ws = 0 → G'.s.ws = 0 ∨ (mayWake P x = true ∧ x'.status = .running)) :
    ∃ φ' : Nat → Nat, (∀ z, φ' z ≤ φ z + bmp K z) ∧ φ' y = φ y ∧
      (y ≠ 0 → SitS P K Fin G' (ks 0) (φ' 0) (woken P x x' w₁ (gf 0)) w₁ ∧ ((woken P x x' w₁ (gf 0)).status = .blocked → (gf 0).status = .blocked)) ∧
      (∀ k, k < G.n → idW K k ≠ y → SitW P K G' (G.D k) (vs k) (ks (idW K k)) (φ' (idW K k)) (Deaf t (idW K k)) (woken P x x' w₁ (gf (idW K k))) w₁ ∧ ((woken P x x' w₁ (gf (idW K k))).status = .blocked → (gf (idW K k)).status = .blocked)) ∧
      (∀ j, 1 ≤ j → j ≤ K.base → φ' j = φ j ∧ woken P x x' w₁ (gf j) = gf j) := by
  have key : ∀ z, ∃ f', f' ≤ φ z + bmp K z ∧ (z = y → f' = φ y) ∧ (z = 0 → y ≠ 0 → SitS P K Fin G' (ks 0) f' (woken P x x' w₁ (gf 0)) w₁ ∧ ((woken P x x' w₁ (gf 0)).status = .blocked → (gf 0).status = .blocked)) ∧
      (∀ k, k < G.n → idW K k ≠ y → z = idW K k → SitW P K G' (G.D k) (vs k) (ks (idW K k)) f' (Deaf t (idW K k)) (woken P x x' w₁ (gf (idW K k))) w₁ ∧ ((woken P x x' w₁ (gf (idW K k))).status = .blocked → (gf (idW K k)).status = .blocked)) ∧ (1 ≤ z → z ≤ K.base → f' = φ z) := by
    intro z
    by_cases hzy : z = y
    · subst hzy
      exact ⟨φ z, by omega, fun _ => rfl, fun h1 h2 => absurd h1 h2, fun k _ h1 h2 => absurd h2.symm h1, fun _ _ => rfl⟩
    · by_cases hz0 : z = 0
      · subst hz0
        have hy0 : y ≠ 0 := fun e => hzy e.symm
        obtain ⟨f', h1, h2, h3⟩ := c.st.other (G' := G') (x := x) (x' := x') (hr0 hy0) hc ⟨(hp0 hy0).1, hn, (hp0 hy0).2⟩ (hcl0 hy0) (hws hy0)
        exact ⟨f', by simp [bmp]; exact h1, fun e => absurd e hzy, fun _ _ => ⟨h2, h3⟩, fun k _ _ e => by have := idW_pos K k; omega, fun h => by omega⟩
      · by_cases hzb : z ≤ K.base
        · exact ⟨φ z, by omega, fun e => absurd e hzy, fun e => absurd e hz0, fun k _ _ e => by unfold idW at e; omega, fun _ _ => rfl⟩
        · by_cases hzn : z < K.base + 1 + G.n
          · obtain ⟨k, hk, rfl⟩ : ∃ k, k < G.n ∧ z = idW K k := ⟨z - (K.base + 1), by omega, by unfold idW; omega⟩
            obtain ⟨f', h1, h2, h3⟩ := (c.wk k hk).other (G' := G') (x := x) (x' := x') (hr k hk hzy) hc hms hcl
            refine ⟨f', by rw [show bmp K (idW K k) = 1 by unfold bmp idW; rw [if_pos (.inr (by omega))]]; exact h1, fun e => absurd e hzy, fun e => absurd e hz0, fun k' _ _ e => ?_, fun _ h => absurd h hzb⟩
            cases idW_inj e
            exact ⟨h2, h3⟩
          · exact ⟨φ z, by omega, fun e => absurd e hzy, fun e => absurd e hz0, fun k hk _ e => by unfold idW at e; omega, fun _ h => absurd h hzb⟩
  obtain ⟨φ', hφ⟩ := Classical.axiomOfChoice key
  refine ⟨φ', fun z => (hφ z).1, (hφ y).2.1 rfl, fun h => (hφ 0).2.2.1 rfl h, fun k hk h => (hφ (idW K k)).2.2.2.1 k hk h rfl, fun j h1 h2 => ⟨(hφ j).2.2.2.2 h1 h2, ?_⟩⟩
  obtain ⟨q, _, hq⟩ := c.lv j h1 h2
  exact woken_quitsD hq
/-- The sum falls. -/
theorem sum_falls {φ φ' : Nat → Nat} {n y a : Nat} (hy : y < K.base + 1 + n) (hn : n ≤ K.N) (h : ∀ z, φ' z ≤ φ z + bmp K z) (hφ : φ' y = φ y) (hlt : a + K.N + 1 < φ y) : sumTo (K.base + 1 + n) (upd φ' y a) < sumTo (K.base + 1 + n) φ := by
  have e1 := sumTo_upd φ' a id hy
  have e2 := sum_add_le (n := K.base + 1 + n) (f := φ') (g := φ) (h := bmp K) fun i _ => h i
  rw [sum_bmp] at e2
  simp only [id] at e1
  have e3 : sumTo (K.base + 1 + n) (fun z => upd φ' y a z) = sumTo (K.base + 1 + n) (upd φ' y a) := rfl
  have e4 : sumTo (K.base + 1 + n) (fun z => φ' z) = sumTo (K.base + 1 + n) φ' := rfl
  rw [e3, e4] at e1
  omega
end
end Go.Proofs.Ytapjmifhhbpikaa

/- Gangs within gangs: what a step is asked for; idle steps, leaving, blocking. -/
import Derived.Test.YtapjmifhhbpikaaVm
set_option linter.unusedVariables false
set_option linter.unusedSimpArgs false
namespace Go.Proofs.Ytapjmifhhbpikaa
open Go.Conc Go.ConcN Go.ConcM
open Go.ConcR (KK wgBlock WgAt stA smA rd wr g_of_ofEvents ofEvent_loc_mark ofEvent_cell ofEvent_mk loc_of_ofEvent again_blocked)
/-- The goroutines' records by their numbers. -/
structure Arr (ng : Nat) (gs : Array Goroutine) (gf : Nat → Goroutine) : Prop where
  size : gs.size = ng
  at_ : ∀ y, y < ng → gs[y]? = some (gf y)
def nrun (gf : Nat → Goroutine) (n : Nat) : Nat := sumTo n fun z => if (gf z).status = .running then 1 else 0
/-- Of the gang, and no starter of another. -/
def TG.free (S : TG) (c z : Nat) : Prop := z = c ∨ (S.wk c z ∧ ¬ S.act z)
/-- WHAT A STEP OF y's, IN GANG c, LEAVES ALONE. -/
structure Frm (P : Program) (c y : Nat) (S S' : TG) (gf gf' : Nat → Goroutine) (w w' : World) (M M' : Nat → Nat) (t t' : Trace) (ng ng' : Nat) : Prop where
  far : Far S c y w w'
  cl : ∀ k, k < S.sz → S'.cl k = S.cl k
  act : ∀ z, S'.act z ↔ S.act z
  wk : ∀ c' z, c' ≠ c → (S'.wk c' z ↔ S.wk c' z)
  wkc : ∀ z, S'.wk c z ↔ (S.wk c z ∨ (z = ng ∧ ng' = ng + 1))
  mute : ∀ z, ¬ S.wk c z → (S'.mute z ↔ S.mute z)
  tok : ∀ c', c' ≠ c → S'.tok c' = S.tok c'
  adr : S'.mA = S.mA ∧ S'.wA = S.wA
  M : ∀ z, z < ng → ¬ S.free c z → M' z = M z
  gf : ∀ z, z < ng → ¬ S.free c z → gf' z = gf z ∨ ∃ x x', gf' z = woken P x x' w' (gf z)
  deaf : ∀ z, z < ng → ¬ S.free c z → Deaf t' z = Deaf t z
  ng : ng ≤ ng' ∧ ng' ≤ ng + 1
/-- THE MEASURE FALLS. -/
def Low (K : Band) (G G' : GS) (gf gf' : Nat → Goroutine) (M M' : Nat → Nat) (ng ng' : Nat) : Prop :=
  G'.rank K.N K.J < G.rank K.N K.J ∨ (G'.rank K.N K.J = G.rank K.N K.J ∧ ng' = ng ∧ (sumTo ng M' < sumTo ng M ∨ (sumTo ng M' ≤ sumTo ng M ∧ nrun gf' ng < nrun gf ng)))
/-- ████ y STEPS, and the gang stands. ████ -/
def Ran (P : Program) (K : Band) (c : Nat) (id : Nat → Nat) (Fin : Goroutine → World → Prop) (S : TG) (G : GS) (gf : Nat → Goroutine) (w : World) (vs : Nat → Array Value) (ks : Nat → Nat) (M : Nat → Nat) (t : Trace) (ng : Nat) (y : Nat) (gs : Array Goroutine) (sl : Option (Nat × Nat)) : Prop :=
  ∃ gs' w' ops S' G' gf' vs' ks' kb' M' id' ng', runT P (crowd gs w sl) y = (.next (crowd gs' w' sl), ops) ∧ Arr ng' gs' gf' ∧ TR S' (t ++ ops) ng' ∧ Frm P c y S S' gf gf' w w' M M' t (t ++ ops) ng ng' ∧ RB K false [] w w' ∧ Low K G G' gf gf' M M' ng ng' ∧
    Cx P K c id' Fin S' G' gf' w' vs' ks' kb' M' (t ++ ops) ng' ∧ ∀ i, i < G.n → id' i = id i ∧ i < G'.n ∧ (S.act (id i) → G'.D i = G.D i ∧ vs' i = vs i ∧ ks' i = ks i)
section
variable {P : Program} {K : Band} {c : Nat} {id : Nat → Nat} {Fin : Goroutine → World → Prop} {S S' : TG} {G G' : GS} {gs : Array Goroutine} {gf gf' : Nat → Goroutine} {w w' w₁ : World} {sl : Option (Nat × Nat)} {vs : Nat → Array Value} {ks M M' : Nat → Nat} {kb : Nat} {t t' u : Trace} {ng ng' : Nat} {g' : Goroutine} {es : Array Event}
theorem Arr.step (A : Arr ng gs gf) {y : Nat} (hy : y < ng) (x x' : Goroutine) (w₁ : World) : Arr ng ((gs.map (woken P x x' w₁)).setIfInBounds y x') (fun z => if z = y then x' else woken P x x' w₁ (gf z)) := by
  refine ⟨by simp [A.size], fun z hz => ?_⟩
  by_cases e : z = y
  · subst e
    rw [if_pos rfl, Array.getElem?_setIfInBounds_self_of_lt (by simp [A.size]; exact hy)]
  · rw [if_neg e, Array.getElem?_setIfInBounds_ne (Ne.symm e), Array.getElem?_map, A.at_ z hz]
    rfl
theorem Arr.set (A : Arr ng gs gf) (y : Nat) (x : Goroutine) : Arr ng (gs.setIfInBounds y x) (upd gf y x) := by
  refine ⟨by simp [A.size], fun z hz => ?_⟩
  by_cases e : z = y
  · subst e
    rw [upd_same, Array.getElem?_setIfInBounds_self_of_lt (by rw [A.size]; exact hz)]
  · rw [upd_ne _ _ e, Array.getElem?_setIfInBounds_ne (Ne.symm e), A.at_ z hz]
theorem run_own (A : Arr ng gs gf) {y : Nat} {mn : Bool} (hy : y < ng) (hmn : (y == 0) = mn) (hs : stepG P mn (gf y) w = .go g' w' es) :
    runT P (crowd gs w sl) y = (.next (crowd ((gs.map (woken P (gf y) g' w')).setIfInBounds y g') w' sl), MemOp.ofEvents y (gf y).frame.fn (gf y).frame.place es) := runT_crowd_go (A.at_ y hy) (by rw [hmn]; exact hs)
theorem deaf_others {y z : Nat} (h : z ≠ y) (fn : FuncId) (pos : String) (es : Array Event) : Deaf (t ++ MemOp.ofEvents y fn pos es) z = Deaf t z := Deaf_other t (Ne.symm h) _ g_of_ofEvents
theorem still_deaf {boss : Bool} {mine : List Nat} {own : Bool} {sz : Nat} (h : ∀ e ∈ es, EvT K boss mine own sz e) (y : Nat) (fn : FuncId) (pos : String) : Deaf (t ++ MemOp.ofEvents y fn pos es) y = Deaf t y := by
  rw [Deaf_own]
  exact deafBehind_still (fun e he => ⟨(h e he).1, (h e he).2.1⟩) _
theorem TG.ne_free {S : TG} {c y z : Nat} (hz : ¬ S.free c z) (hy : S.free c y) : z ≠ y := fun e => hz (e ▸ hy)
theorem Cx.idL (h : Cx P K c id Fin S G gf w vs ks kb M t ng) {i : Nat} (hi : i < G.n) : id i < ng ∧ id i ≠ c ∧ (id i == 0) = false := ⟨(h.idc.2 i hi).1, (h.idc.2 i hi).2.1, by simpa using (h.idc.2 i hi).2.2⟩
theorem Cx.memI (h : Cx P K c id Fin S G gf w vs ks kb M t ng) {i : Nat} (hi : i < G.n) : S.wk c (id i) := (h.wkS _).2 ⟨i, hi, rfl⟩
theorem Cx.one (h : Cx P K c id Fin S G gf w vs ks kb M t ng) {i k : Nat} (hi : i < G.n) (hk : k < G.n) (h1 : (G.D i).owns = true) (hne : k ≠ i) : (G.D k).owns = false := by
  cases e : (G.D k).owns with
  | false => rfl
  | true =>
    have a := h.ow i hi h1
    have b := h.ow k hk e
    rw [a] at b
    exact absurd (h.idJ _ _ hi hk (Option.some.inj b)).symm hne
/-- A worker that isn't mute lives. -/
theorem Cx.memL (h : Cx P K c id Fin S G gf w vs ks kb M t ng) {i : Nat} (hi : i < G.n) (hm : (G.D i).mute = false) : S.memL c (id i) := .inr ⟨h.memI hi, fun e => by rw [h.mu i hi, hm] at e; cases e⟩
/-- AN IDLE STEP, in the trace. -/
theorem TR.idle' (R : TR S t ng) (hK : Blks K c S) {sz : Nat} (hsz : S.sz = sz) (ha : S.act c) {y : Nat} (hy : y < ng) {boss own mute : Bool} {mine : List Nat} (hm : mute = true → es = #[]) (hl : mute = false → S.memL c y) (hev : ∀ e ∈ es, EvT K boss mine own sz e) (hboss : boss = true → y = c)
    (hmine : ∀ b, b ∈ mine → S.cl b = .own y) (hown : own = true → S.tok c = some y) (fn : FuncId) (pos : String) : TR S (t ++ MemOp.ofEvents y fn pos es) ng := by
  cases hmu : mute with
  | true =>
    rw [hm hmu, ofEvents_none, Array.append_empty]; exact R
  | false =>
    have hL := hl hmu
    refine R.ops hy (fun op hop => ?_) fun q _ _ => ⟨c, ha, hL⟩
    obtain ⟨e, he, rfl⟩ := Go.Conc.mem_ofEvents hop
    obtain ⟨h1, h2, h4, h5, h6⟩ := hev e he
    refine ⟨rfl, by rw [hsz]; exact h5, fun a hm' => h4 a (loc_of_ofEvent hm'), fun x hx => ?_⟩
    obtain ⟨hmm, a | a | a | a⟩ := h6 x hx
    · obtain ⟨⟨ad, e1, e2⟩, e3, e4⟩ := a
      refine .inr ⟨ad.block, by rw [e1]; rfl, ?_⟩
      have hcl : S.cl ad.block = .sh c := by rcases e2 with e2 | e2 <;> rw [e2]; exact hK.M; exact hK.W
      rw [hcl]
      refine ⟨hL.mem, e3, fun e5 => ?_⟩
      cases hb : boss with
      | true => exact hboss hb
      | false => exact absurd e5 (e4 hb)
    · obtain ⟨ad, e1, hh⟩ := a
      refine .inr ⟨ad.block, by rw [e1]; rfl, ?_⟩
      rw [hmine _ hh]; exact rfl
    · obtain ⟨ad, e1, hs, hn, hw⟩ := a
      refine .inr ⟨ad.block, by rw [e1]; rfl, ?_⟩
      rw [hK.s _ hs]; exact ⟨hL, hw⟩
    · obtain ⟨ad, e1, hC, hh⟩ := a
      refine .inr ⟨ad.block, by rw [e1]; rfl, ?_⟩
      rw [hC, hK.C]; exact ⟨hL, hown hh⟩
theorem Far.of_idle {boss own mute : Bool} {mine : List Nat} {y : Nat} (hK : Blks K c S) (D : DB K boss mine own mute w w' es) (hm : ∀ b, b ∈ mine → S.cl b = .own y) : Far S c y w w' :=
  ⟨D.tape, D.output, by rw [D.size]; exact Nat.le_refl _, by rw [D.os]; exact .refl _, fun k _ h1 h2 _ _ => D.block k (fun e => h1 (hm k e)) fun _ e => h2 (by rw [e]; exact hK.C)⟩
theorem Far.refl (S : TG) (c y : Nat) (w : World) : Far S c y w w := ⟨rfl, rfl, Nat.le_refl _, .refl _, fun _ _ _ _ _ _ => rfl⟩
theorem sum_upd_lt {φ : Nat → Nat} {n y a : Nat} (hy : y < n) (hlt : a < φ y) : sumTo n (upd φ y a) < sumTo n φ := by
  have e1 := sumTo_upd φ a _root_.id hy
  simp only [_root_.id] at e1
  have e3 : sumTo n (fun z => upd φ y a z) = sumTo n (upd φ y a) := rfl
  have e4 : sumTo n (fun z => φ z) = sumTo n φ := rfl
  rw [e3, e4] at e1
  omega
theorem sum_upd_le {φ : Nat → Nat} {n y : Nat} (hy : y < n) : sumTo n (upd φ y 0) ≤ sumTo n φ := by
  have e1 := sumTo_upd φ 0 _root_.id hy
  simp only [_root_.id] at e1
  have e3 : sumTo n (fun z => upd φ y 0 z) = sumTo n (upd φ y 0) := rfl
  have e4 : sumTo n (fun z => φ z) = sumTo n φ := rfl
  rw [e3, e4] at e1
  omega
/-- One less runs. -/
theorem nrun_falls {n y : Nat} (hy : y < n) {x : Goroutine} (hr : (gf y).status = .running) (hb : x.status = .blocked) : nrun (upd gf y x) n < nrun gf n := by
  have e1 := sumTo_upd gf x (fun g => if g.status = .running then 1 else 0) hy
  simp only [hr, hb, if_true] at e1
  show sumTo n (fun z => if (upd gf y x z).status = .running then 1 else 0) < sumTo n (fun z => if (gf z).status = .running then 1 else 0)
  simp at e1
  omega
/-- (1) AN IDLE STEP OF A WORKER's. -/
theorem stepIdleW (A : Arr ng gs gf) (R : TR S t ng) (h : Cx P K c id Fin S G gf w vs ks kb M t ng) {i m' : Nat} (hi : i < G.n) (hna : ¬ S.act (id i)) (hnq : (G.D i).pc ≠ .quit) (hd : Deaf t (id i) = (G.D i).deaf) (hM : M (id i) = m' + 1)
    (hs : stepG P false (gf (id i)) w = .go g' w' es) (hD : DB K false (G.D i).blk (G.D i).owns (G.D i).mute w w' es) (hgo : GoW P K (G.D i) (AtW P K (ks i + 1) (G.D i) (vs i)) m' g' w') : Ran P K c id Fin S G gf w vs ks M t ng (id i) gs sl := by
  obtain ⟨hy, hyc, hy0⟩ := h.idL hi
  have hK := h.bl
  have hmine := fun b hb => (h.mine hi hna b hb).1
  have hlow : ∀ k κ, S.cl k = κ → (∀ y, κ ≠ .own y) → ((G.D i).owns = true → k ≠ K.C) → w'.heap[k]? = w.heap[k]? := fun k κ hk hκ hc => hD.block k (fun e => hκ _ (hk.symm.trans (hmine k e))) hc
  have hsh : SAt K G.s w' := h.sh.of_block (hlow _ _ hK.M (by simp) fun _ => K.hMC) (hlow _ _ hK.W (by simp) fun _ => K.hWC)
  have hch : HAt K G.closed w' := by
    obtain ⟨s, r, e⟩ := h.ch
    exact ⟨s, r, (hlow _ _ hK.H (by simp) fun _ => K.hCH.symm).trans e⟩
  obtain ⟨h3, h4⟩ := h.others (G' := G) (x := gf (id i)) (x' := g') (w₁ := w') (id i) rfl hch
    (fun k hk ha hne => RB.of_idle hD hK hmine (fun ho => h.one hi hk ho fun e => hne (by rw [e])) hne fun b hb => (h.mine hk ha b hb).1)
    (fun hy => RB.of_idle hD hK hmine (fun _ => rfl) (Ne.symm hy) (fun b hb => by cases hb)) (fun _ => ⟨rfl, rfl⟩) (fun h => .inl h) (.inl rfl) (fun _ hp => by rw [h.ok.cl, hp]; rfl) (fun _ _ h => .inl h)
  have hst := h3 hyc
  have hdf := still_deaf (t := t) hD.ev (id i) (gf (id i)).frame.fn (gf (id i)).frame.place
  refine ⟨_, w', _, S, G, _, vs, ks, kb, upd M (id i) m', id, ng, run_own A hy hy0 hs, A.step hy _ _ _, R.idle' hK h.sz h.act hy hD.quiet (h.memL hi) hD.ev (fun e => by cases e) hmine (h.ow i hi) _ _,
    ⟨Far.of_idle hK hD hmine, fun _ _ => rfl, fun _ => .rfl, fun _ _ _ => .rfl, fun z => by simp, fun _ _ => .rfl, fun _ _ => rfl, ⟨rfl, rfl⟩, fun z _ hz => upd_ne _ _ (TG.ne_free hz (.inr ⟨h.memI hi, hna⟩)), fun z _ hz => .inr ⟨_, _, if_neg (TG.ne_free hz (.inr ⟨h.memI hi, hna⟩))⟩, fun z _ hz => deaf_others (TG.ne_free hz (.inr ⟨h.memI hi, hna⟩)) _ _ _, ⟨Nat.le_refl _, Nat.le_succ _⟩⟩,
    RB.of_idle hD hK hmine (fun _ => rfl) (Ne.symm hyc) (fun b hb => by cases hb), .inr ⟨rfl, rfl, .inl (sum_upd_lt hy (by omega))⟩, ?_, fun k hk => ⟨rfl, hk, fun _ => ⟨rfl, rfl, rfl⟩⟩⟩
  refine { h with sh := hsh, ch := hch, row := fun ho => ?_, rowJ := ?_, st := ?_, d0 := ?_, wk := fun k hk => ?_, px := fun k hk hp hb => ?_, bk := fun k hk b hb => ?_, B := by rw [hD.size]; exact h.B, sz := by rw [hD.size]; exact h.sz }
  · have hno : (G.D i).owns = true → False := fun e => by have := h.ow i hi e; rw [ho] at this; cases this
    exact (hlow _ _ hK.C (by simp) fun e => (hno e).elim).trans (h.row ho)
  · by_cases e : (G.D i).owns = true
    · exact hD.row e h.rowJ
    · obtain ⟨cs, hc, hs⟩ := h.rowJ
      exact ⟨cs, (hlow _ _ hK.C (by simp) fun h => absurd h e).trans hc, hs⟩
  · simp only [if_neg (Ne.symm hyc), upd_ne _ _ (Ne.symm hyc)]
    exact hst.1
  · rw [deaf_others (Ne.symm hyc)]; exact h.d0
  · by_cases e : k = i
    · subst e
      simp only [if_true, upd_same]
      rw [hdf]
      exact .inr (.inl ⟨hnq, hd, hgo⟩)
    · have hne : id k ≠ id i := fun e' => e (h.idJ _ _ hk hi e')
      simp only [if_neg hne, upd_ne _ _ hne]
      rw [deaf_others hne]
      exact (h4 k hk hne).1
  · simp only [if_neg (Ne.symm hyc)] at hb
    have hb' := hst.2 hb
    by_cases e : k = i
    · subst e
      simp only [if_true]
      rintro ⟨_, hbl⟩
      rw [hgo.running] at hbl; cases hbl
    · have hne : id k ≠ id i := fun e' => e (h.idJ _ _ hk hi e')
      simp only [if_neg hne]
      rintro ⟨hrc, hbl⟩
      exact h.px k hk hp hb' ⟨hrc, (h4 k hk hne).2 hrc hbl⟩
  · have := h.bk k hk b hb
    rw [hD.size]; exact this
/-- (2) AN IDLE STEP OF THE STARTER's. -/
theorem stepIdleS (A : Arr ng gs gf) (R : TR S t ng) (h : Cx P K c id Fin S G gf w vs ks kb M t ng) {m' : Nat} (hM : M c = m' + 1)
    (hs : stepG P K.mn (gf c) w = .go g' w' es) (hD : DB K true [] false false w w' es) (hgo : GoS P K (AtS P K Fin (kb + 1) G.st) m' g' w') : Ran P K c id Fin S G gf w vs ks M t ng c gs sl := by
  have hy := h.idc.1
  have hK := h.bl
  have hlow : ∀ k, w'.heap[k]? = w.heap[k]? := fun k => hD.block k (fun e => by cases e) (fun e => by cases e)
  have hsh : SAt K G.s w' := h.sh.of_block (hlow _) (hlow _)
  have hch : HAt K G.closed w' := by
    obtain ⟨s, r, e⟩ := h.ch
    exact ⟨s, r, (hlow _).trans e⟩
  obtain ⟨h3, h4⟩ := h.others (G' := G) (x := gf c) (x' := g') (w₁ := w') c rfl hch
    (fun k hk ha hne => RB.of_idle hD hK (y := c) (fun b hb => by cases hb) (fun ho => by cases ho) hne fun b hb => (h.mine hk ha b hb).1)
    (fun h => absurd rfl h) (fun h => absurd rfl h) (fun h => .inl h) (.inl rfl) (fun h => absurd rfl h) (fun h => absurd rfl h)
  have hdf := still_deaf (t := t) hD.ev c (gf c).frame.fn (gf c).frame.place
  have hmc : S.free c c := .inl rfl
  refine ⟨_, w', _, S, G, _, vs, ks, kb, upd M c m', id, ng, run_own A hy h.mn.symm hs, A.step hy _ _ _, R.idle' hK h.sz h.act hy (mute := false) (fun e => by cases e) (fun _ => .inl rfl) hD.ev (fun _ => rfl) (fun b hb => by cases hb) (fun e => by cases e) _ _,
    ⟨Far.of_idle hK hD (fun b hb => by cases hb), fun _ _ => rfl, fun _ => .rfl, fun _ _ _ => .rfl, fun z => by simp, fun _ _ => .rfl, fun _ _ => rfl, ⟨rfl, rfl⟩, fun z _ hz => upd_ne _ _ (TG.ne_free hz hmc), fun z _ hz => .inr ⟨_, _, if_neg (TG.ne_free hz hmc)⟩, fun z _ hz => deaf_others (TG.ne_free hz hmc) _ _ _, ⟨Nat.le_refl _, Nat.le_succ _⟩⟩,
    RB.of_idle hD hK (y := c) (z := c + 1) (fun b hb => by cases hb) (fun ho => by cases ho) (by omega) (fun b hb => by cases hb), .inr ⟨rfl, rfl, .inl (sum_upd_lt hy (by omega))⟩, ?_, fun k hk => ⟨rfl, hk, fun _ => ⟨rfl, rfl, rfl⟩⟩⟩
  refine { h with sh := hsh, ch := hch, row := fun ho => (hlow _).trans (h.row ho), rowJ := ?_, st := ?_, d0 := ?_, wk := fun k hk => ?_, px := fun k hk hp hb => ?_, bk := fun k hk b hb => ?_, B := by rw [hD.size]; exact h.B, sz := by rw [hD.size]; exact h.sz }
  · obtain ⟨cs, hc, hs⟩ := h.rowJ
    exact ⟨cs, (hlow _).trans hc, hs⟩
  · simp only [if_true, upd_same]
    exact .inl hgo
  · rw [hdf]; exact h.d0
  · have hne : id k ≠ c := (h.idc.2 k hk).2.1
    simp only [if_neg hne, upd_ne _ _ hne]
    rw [deaf_others hne]
    exact (h4 k hk hne).1
  · simp only [if_true] at hb
    rw [hgo.running] at hb; cases hb
  · have := h.bk k hk b hb
    rw [hD.size]; exact this
/-- Mute entries touch nothing. -/
theorem mute_ops {y : Nat} {fn : FuncId} {pos : String} {sz : Nat} (hm : ∀ e ∈ es, Event.mute e = true) (hy : y < ng) : ∀ z ∈ MemOp.ofEvents y fn pos es, z.g < ng ∧ z.act.low sz ∧ (∀ a, z.act ≠ .mark (.release a)) ∧ z.act.touch? = none := by
  intro z hz
  obtain ⟨e, he, rfl⟩ := Go.Conc.mem_ofEvents hz
  refine ⟨hy, low_mute (hm e he) sz, fun a ha => ?_, touch_mute (hm e he)⟩
  have := loc_of_ofEvent ha
  have h2 := hm e he
  obtain ⟨l, x, s⟩ := e
  simp only at this
  subst this
  simp [Event.mute] at h2
/-- (3) A STEP OF A WORKER THAT ONLY LEAVES. -/
theorem stepLeave (A : Arr ng gs gf) (R : TR S t ng) (h : Cx P K c id Fin S G gf w vs ks kb M t ng) {i q : Nat} (hi : i < G.n) (hna : ¬ S.act (id i)) (hqt : (G.D i).pc = .quit) (hM : M (id i) = q + 1) (hm : ∀ e ∈ es, Event.mute e = true) (hs : ∀ w, stepG P false (gf (id i)) w = .go g' w es) (hq : QuitsD P q (deafBehind (Deaf t (id i)) es) g') : Ran P K c id Fin S G gf w vs ks M t ng (id i) gs sl := by
  obtain ⟨hy, hyc, hy0⟩ := h.idL hi
  obtain ⟨h3, h4⟩ := h.others (G' := G) (x := gf (id i)) (x' := g') (w₁ := w) (id i) rfl h.ch
    (fun k hk ha hne => RB.refl _ _ _) (fun _ => RB.refl _ _ _) (fun _ => ⟨rfl, rfl⟩) (fun h => .inl h) (.inl rfl) (fun _ hp => by rw [h.ok.cl, hp]; rfl) (fun _ _ h => .inl h)
  have hst := h3 hyc
  refine ⟨_, w, _, S, G, _, vs, ks, kb, upd M (id i) q, id, ng, run_own A hy hy0 (hs w), A.step hy _ _ _, R.still (mute_ops hm hy),
    ⟨Far.refl _ _ _ _, fun _ _ => rfl, fun _ => .rfl, fun _ _ _ => .rfl, fun z => by simp, fun _ _ => .rfl, fun _ _ => rfl, ⟨rfl, rfl⟩, fun z _ hz => upd_ne _ _ (TG.ne_free hz (.inr ⟨h.memI hi, hna⟩)), fun z _ hz => .inr ⟨_, _, if_neg (TG.ne_free hz (.inr ⟨h.memI hi, hna⟩))⟩, fun z _ hz => deaf_others (TG.ne_free hz (.inr ⟨h.memI hi, hna⟩)) _ _ _, ⟨Nat.le_refl _, Nat.le_succ _⟩⟩,
    RB.refl _ _ _, .inr ⟨rfl, rfl, .inl (sum_upd_lt hy (by omega))⟩, ?_, fun k hk => ⟨rfl, hk, fun _ => ⟨rfl, rfl, rfl⟩⟩⟩
  refine { h with st := ?_, d0 := ?_, wk := fun k hk => ?_, px := fun k hk hp hb => ?_ }
  · simp only [if_neg (Ne.symm hyc), upd_ne _ _ (Ne.symm hyc)]
    exact hst.1
  · rw [deaf_others (Ne.symm hyc)]; exact h.d0
  · by_cases e : k = i
    · subst e
      simp only [if_true, upd_same]
      refine .inr (.inr (.inr (.inr (.inr ⟨hqt, ?_⟩))))
      rw [Deaf_own]; exact hq
    · have hne : id k ≠ id i := fun e' => e (h.idJ _ _ hk hi e')
      simp only [if_neg hne, upd_ne _ _ hne]
      rw [deaf_others hne]
      exact (h4 k hk hne).1
  · simp only [if_neg (Ne.symm hyc)] at hb
    have hb' := hst.2 hb
    by_cases e : k = i
    · subst e
      rintro ⟨hrc, _⟩
      rw [hqt] at hrc; cases hrc
    · have hne : id k ≠ id i := fun e' => e (h.idJ _ _ hk hi e')
      simp only [if_neg hne]
      rintro ⟨hrc, hbl⟩
      exact h.px k hk hp hb' ⟨hrc, (h4 k hk hne).2 hrc hbl⟩
/-- Who blocks wakes nobody. -/
theorem blocked_fun (y : Nat) (x : Goroutine) : (fun z => if z = y then { x with status := .blocked } else woken P (gf y) { x with status := .blocked } w (gf z)) = upd gf y { x with status := .blocked } := by
  funext z
  by_cases e : z = y
  · simp [e, upd]
  · simp only [if_neg e, upd_ne _ _ e]
    exact woken_by_blocked rfl
/-- A step of y's that does nothing but to y. -/
theorem Frm.self {y : Nat} (hy : S.free c y) (x : Goroutine) (m : Nat) : Frm P c y S S gf (upd gf y x) w w M (upd M y m) t t ng ng :=
  ⟨Far.refl _ _ _ _, fun _ _ => rfl, fun _ => .rfl, fun _ _ _ => .rfl, fun z => by simp, fun _ _ => .rfl, fun _ _ => rfl, ⟨rfl, rfl⟩, fun z _ hz => upd_ne _ _ (TG.ne_free hz hy), fun z _ hz => .inl (upd_ne _ _ (TG.ne_free hz hy)), fun z _ hz => rfl, ⟨Nat.le_refl _, Nat.le_succ _⟩⟩
/-- (4) A WORKER WAITS FOR THE LOCK. -/
theorem stepBlockW (A : Arr ng gs gf) (R : TR S t ng) (h : Cx P K c id Fin S G gf w vs ks kb M t ng) {i : Nat} (hi : i < G.n) (hna : ¬ S.act (id i)) (hp : (G.D i).pc = .s1) (hd : Deaf t (id i) = (G.D i).deaf) (h0 : G.s.ms = 0)
    (hgo : GoW P K (G.D i) (AtW P K (ks i + 1) (G.D i) (vs i)) 0 (gf (id i)) w) (hs : stepG P false (gf (id i)) w = .go { gf (id i) with status := .blocked } w #[]) : Ran P K c id Fin S G gf w vs ks M t ng (id i) gs sl := by
  obtain ⟨hy, hyc, hy0⟩ := h.idL hi
  have hA := A.step (P := P) hy (gf (id i)) { gf (id i) with status := .blocked } w
  rw [blocked_fun] at hA
  have et : t ++ MemOp.ofEvents (id i) (gf (id i)).frame.fn (gf (id i)).frame.place #[] = t := by rw [ofEvents_none, Array.append_empty]
  refine ⟨_, w, _, S, G, _, vs, ks, kb, upd M (id i) 0, id, ng, run_own A hy hy0 hs, hA, by rw [et]; exact R, by rw [et]; exact Frm.self (.inr ⟨h.memI hi, hna⟩) _ _, RB.refl _ _ _, .inr ⟨rfl, rfl, .inr ⟨sum_upd_le hy, nrun_falls hy hgo.running rfl⟩⟩, ?_, fun k hk => ⟨rfl, hk, fun _ => ⟨rfl, rfl, rfl⟩⟩⟩
  rw [et]
  refine { h with st := ?_, wk := fun k hk => ?_, px := fun k hk hps hb => ?_ }
  · rw [upd_ne _ _ (Ne.symm hyc), upd_ne _ _ (Ne.symm hyc)]; exact h.st
  · by_cases e : k = i
    · subst e
      rw [upd_same, upd_same]
      exact .inr (.inr (.inl ⟨hp, hd, rfl, h0, _, rfl, hgo⟩))
    · have hne : id k ≠ id i := fun e' => e (h.idJ _ _ hk hi e')
      rw [upd_ne _ _ hne, upd_ne _ _ hne]; exact h.wk k hk
  · rw [upd_ne _ _ (Ne.symm hyc)] at hb
    by_cases e : k = i
    · subst e
      rintro ⟨hrc, _⟩
      rw [hp] at hrc; cases hrc
    · have hne : id k ≠ id i := fun e' => e (h.idJ _ _ hk hi e')
      rw [upd_ne _ _ hne]; exact h.px k hk hps hb
/-- (5) THE STARTER WAITS FOR THE GROUP. -/
theorem stepBlockS (A : Arr ng gs gf) (R : TR S t ng) (h : Cx P K c id Fin S G gf w vs ks kb M t ng) (hp : G.p = .w3) (h0 : G.s.ws = 0)
    (hgo : GoS P K (AtS P K Fin (kb + 1) G.st) 0 (gf c) w) (hs : stepG P K.mn (gf c) w = .go { gf c with status := .blocked } w #[]) : Ran P K c id Fin S G gf w vs ks M t ng c gs sl := by
  have hy := h.idc.1
  have hA := A.step (P := P) hy (gf c) { gf c with status := .blocked } w
  rw [blocked_fun] at hA
  have et : t ++ MemOp.ofEvents c (gf c).frame.fn (gf c).frame.place #[] = t := by rw [ofEvents_none, Array.append_empty]
  refine ⟨_, w, _, S, G, _, vs, ks, kb, upd M c 0, id, ng, run_own A hy h.mn.symm hs, hA, by rw [et]; exact R, by rw [et]; exact Frm.self (.inl rfl) _ _, RB.refl _ _ _, .inr ⟨rfl, rfl, .inr ⟨sum_upd_le hy, nrun_falls hy hgo.running rfl⟩⟩, ?_, fun k hk => ⟨rfl, hk, fun _ => ⟨rfl, rfl, rfl⟩⟩⟩
  rw [et]
  refine { h with st := ?_, wk := fun k hk => ?_, px := fun k hk hps hb => ?_ }
  · rw [upd_same, upd_same]
    exact .inr (.inl ⟨hp, rfl, h0, _, rfl, hgo⟩)
  · have hne : id k ≠ c := (h.idc.2 k hk).2.1
    rw [upd_ne _ _ hne, upd_ne _ _ hne]; exact h.wk k hk
  · rw [hp] at hps; cases hps
end
end Go.Proofs.Ytapjmifhhbpikaa

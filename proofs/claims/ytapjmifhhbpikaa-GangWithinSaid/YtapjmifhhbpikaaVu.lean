/- Gangs within gangs: a gang within ends; one begins; the great end; the run. -/
import Derived.Test.YtapjmifhhbpikaaVs
set_option linter.unusedVariables false
set_option linter.unusedSimpArgs false
namespace Go.Proofs.Ytapjmifhhbpikaa
open Go.Conc Go.ConcN Go.ConcM
open Go.ConcR (KK wgBlock WgAt stA smA rd wr g_of_ofEvents ofEvent_loc_mark ofEvent_cell ofEvent_mk loc_of_ofEvent again_blocked)
/-- The beginning. -/
def G₀ : GS := { n := 0, D := fun _ => { pc := .quit }, p := .gk, s := ⟨.zero, 0, 0, false, 0⟩, sent := 0, closed := false, dn := fun _ => false }
theorem ok_G₀ {N J : Nat} (hN : 1 ≤ N) : Ok N J G₀ := by
  refine ⟨⟨fun _ => ?_, fun h => (by cases h), fun _ _ _ h => absurd rfl h, fun i hi => absurd hi (Nat.not_lt_zero _)⟩, ?_, by simp [G₀], rfl, Nat.zero_le _, fun _ => hN, by simp [G₀, Ps.shut], ⟨Nat.zero_le _, by simp [G₀], by simp [G₀, Ps.shut], fun _ => rfl⟩, fun i hi => absurd hi (Nat.not_lt_zero _), fun j hj => absurd hj (Nat.not_lt_zero _), fun j h => (by cases h), fun i hi => absurd hi (Nat.not_lt_zero _)⟩
  · simp [G₀, sumTo, Mx.zero]
  · simp [WNum, G₀, sumTo, Ps.open, Ps.fin, Ps.pend]
/-- ████ ALL HAS ENDED: all others only leave. ████ -/
def Ended (P : Program) (K : Band) (Z : Aim) (m : Machine) (t : Trace) : Prop :=
  ∃ (gs : Array Goroutine) (a : Goroutine) (w : World) (sl : Option (Nat × Nat)) (q : Nat → Nat) (Shun : Loc → Prop), m = crowd gs w sl ∧ gs[0]? = some a ∧ Z.fin a w ∧ CAt K (full K) w ∧ Leavers P t gs q ∧ Past Shun w.heap.size t ∧ (∀ a, NoRelease a t) ∧ (∀ op ∈ t, op.g < gs.size) ∧ ∀ l, Shun l → ∃ b, locB l = some b ∧ b < w.heap.size ∧ (b < Z.s0 → Z.c0 b = .old ∨ Z.c0 b = .sh 0)
section
variable {P : Program} {K0 : Band} {Fin0 : Aim} {F : FD} {S S' : TG} {gf gf' : Nat → Goroutine} {w w' : World} {M M' : Nat → Nat} {t t' : Trace} {ng ng' : Nat} {gs : Array Goroutine} {sl : Option (Nat × Nat)}
theorem Cx.reM {K : Band} {c : Nat} {id : Nat → Nat} {Fin : Goroutine → World → Prop} {G : GS} {vs : Nat → Array Value} {ks : Nat → Nat} {kb : Nat} (h : Cx P K c id Fin S G gf w vs ks kb M t ng) (hM : ∀ z, S.mem c z → M' z = M z) : Cx P K c id Fin S G gf w vs ks kb M' t ng :=
  { h with st := by rw [hM c (.inl rfl)]; exact h.st, wk := fun i hi => by rw [hM _ (.inr (h.memI hi))]; exact h.wk i hi }
theorem mute_low {T : Th} (h : T.pc = .bx ∨ T.pc = .ld) : T.mute = false ∧ T.deaf = 0 ∧ T.pc ≠ .quit ∧ T.owns = false ∧ T.pc ≠ .rc := by
  rcases h with h | h <;> simp [Th.mute, Th.deaf, Th.owns, h]
/-- A GANG WITHIN ENDS: the gang of its starter. -/
theorem Cx.back {K : Band} {id : Nat → Nat} {Fin : Goroutine → World → Prop} {G : GS} {vs : Nat → Array Value} {ks : Nat → Nat} {kb : Nat} (h : Cx P K 0 id Fin S G gf w vs ks kb M t ng) {i m : Nat} (hi : i < G.n) (ha : S.act (id i)) (hM : M (id i) = m) (hd : Deaf t (id i) = 0)
    (hgo : GoW P K (G.D i) (AtW P K (ks i + 1) (G.D i) (vs i)) m (gf (id i)) w) : Cx P K 0 id Fin (S.shut (id i)) G gf w vs ks kb M t ng := by
  have hne0 : id i ≠ 0 := (h.idc.2 i hi).2.2
  have hlow := mute_low (h.busy i hi ha)
  have hcl : ∀ b, (S.shut (id i)).cl b = (S.cl b).shut (id i) := fun _ => rfl
  have hne : ∀ k, k < G.n → k ≠ i → id k ≠ id i := fun k hk e e' => e (h.idJ _ _ hk hi e')
  refine { h with row := h.row, wk := fun k hk => ?_, busy := fun k hk hb => h.busy k hk hb.1, bk := fun k hk b hb => ?_, ow := h.ow, ow' := h.ow', wkS := fun z => ?_, mu := h.mu, act := ⟨h.act, Ne.symm hne0⟩, adr := h.adr, bl := ⟨?_, ?_, ?_, ?_, fun k hk => ?_⟩, sz := h.sz }
  · by_cases e : k = i
    · subst e
      refine .inr (.inl ⟨hlow.2.2.1, ?_, by rw [hM]; exact hgo⟩)
      rw [hd, hlow.2.1]
    · rcases h.wk k hk with hb | hs
      · exact .inl ⟨hb, hne k hk e⟩
      · exact .inr hs
  · obtain ⟨h1, h2⟩ := h.bk k hk b hb
    refine ⟨h1, ?_⟩
    rw [hcl]
    by_cases e : k = i
    · subst e
      rcases h2 with h2 | ⟨_, h2 | h2 | h2⟩ <;> rw [h2] <;> simp [Cls.shut]
    · rcases h2 with h2 | ⟨hb, h2⟩
      · rw [h2]; exact .inl rfl
      · refine .inr ⟨⟨hb, hne k hk e⟩, ?_⟩
        have hn := hne k hk e
        rcases h2 with h2 | h2 | h2 <;> rw [h2] <;> simp [Cls.shut, hn]
  · show (S.wk 0 z ∧ 0 ≠ id i) ↔ _
    rw [h.wkS]
    exact ⟨fun h => h.1, fun h => ⟨h, Ne.symm hne0⟩⟩
  · rw [hcl, h.bl.M]; simp [Cls.shut, Ne.symm hne0]
  · rw [hcl, h.bl.W]; simp [Cls.shut, Ne.symm hne0]
  · rw [hcl, h.bl.H]; simp [Cls.shut, Ne.symm hne0]
  · rw [hcl, h.bl.C]; simp [Cls.shut, Ne.symm hne0]
  · rw [hcl, h.bl.s k hk]; simp [Cls.shut, Ne.symm hne0]
/-- ████ A GANG WITHIN ENDS. ████ -/
theorem Forest.over (Fo : Forest P K0 Fin0 F S gf w M t ng) {c : Nat} (hc : S.act c) (hc0 : c ≠ 0) (h : Over P (F.Ks c) c (F.ids c) (F.Fs c) S (F.Gs c) gf w M t ng gs sl) :
    ∃ m₁ ops, runT P (crowd gs w sl) c = (.next m₁, ops) ∧ Falls P K0 Fin0 (mu4 K0 F S gf M ng) m₁ (t ++ ops) := by
  obtain ⟨gs', w', ops, gf', M', hrun, A', R', fr, rb, hF, hrow, hsz, hd, hall⟩ := h
  obtain ⟨hdeep, i, wb, hi, e, hwb, eF⟩ := Fo.link c hc hc0
  have cx0 := Fo.gang 0 Fo.a0
  have eK : F.Ks 0 = K0 := Fo.k0.1
  have cxc := Fo.gang c hc
  have hlow := mute_low (cx0.busy i hi (e ▸ hc))
  have hwk0 := Fo.inner hc hc0
  obtain ⟨m, hm⟩ : ∃ m, GoW P K0 ((F.Gs 0).D i) (AtW P K0 (F.ks 0 i + 1) ((F.Gs 0).D i) (F.vs 0 i)) m (gf' c) w' := by
    rw [eF] at hF
    replace hF := hF (hwb.trans (Fo.rb hc fr rb))
    unfold AfterW at hF
    rw [if_neg hlow.2.2.1] at hF
    exact hF
  have hnm : ¬ S.mute c := fun h => by
    rw [e, cx0.mu i hi, hlow.1] at h; cases h
  have hwc : ∀ z, S.wk c z → ∃ k, k < (F.Gs c).n ∧ z = F.ids c k := fun z hz => (cxc.wkS z).1 hz
  have hrk : ∀ c'', c'' ≠ c → rk1 F (S.shut c) c'' = rk1 F S c'' := fun c'' hne => by
    by_cases h : c'' ≠ 0 ∧ S.act c''
    · rw [rk1_pos h.1 h.2, rk1_pos h.1 (show (S.shut c).act c'' from ⟨h.2, hne⟩)]
    · have h1 : c'' = 0 ∨ ¬ S.act c'' := by
        by_cases e : c'' = 0
        · exact .inl e
        · exact .inr fun ha => h ⟨e, ha⟩
      rw [rk1_zero h1, rk1_zero (h1.imp _root_.id fun h2 (h3 : S.act c'' ∧ c'' ≠ c) => h2 h3.1)]
  have hrz : rk1 F (S.shut c) c = 0 := rk1_zero (.inr fun (h : S.act c ∧ c ≠ c) => h.2 rfl)
  refine ⟨_, ops, hrun, mu4 K0 F (S.shut c) gf' (upd M' c m) ng, ?_, F, S.shut c, gf', w', upd M' c m, ng, gs', sl, rfl, A', ⟨Fo.k0, R'.shut (c := c) (c₀ := 0) (fun z hz => ?_) ⟨Fo.a0, Ne.symm hc0, hwk0, hnm⟩, fun c'' ha => ?_, ⟨Fo.a0, Ne.symm hc0⟩, fun c'' ha hn0 => ?_, fun c1 c2 z h1 h2 => Fo.one _ _ _ h1.1 h2.1, fun z hz hz0 hw => ?_, Fo.low, ⟨Fo.fix.1, fun b hb => ?_⟩, Fo.fx0⟩, rfl⟩
  · unfold mu4
    refine .right _ (.left _ _ ?_)
    exact sum_lt_of (fun k _ => by
      by_cases e : k = c
      · subst e; rw [hrz]; exact Nat.zero_le _
      · rw [hrk k e]; exact Nat.le_refl _) ⟨c, Fo.act_lt hc, by rw [hrz, rk1_pos hc0 hc]; omega⟩
  · obtain ⟨k, hk, rfl⟩ := hwc z hz
    exact ⟨(hall k hk).2.2.1, (hall k hk).2.2.2⟩
  · obtain ⟨ha, hne⟩ := ha
    have hfar := Fo.far hc (.inl rfl) fr hsz ha hne (upd M' c m) (fun z hz => upd_ne _ _ hz)
    by_cases e0 : c'' = 0
    · subst e0
      unfold FD.cx at hfar ⊢
      have := Cx.back (m := m) hfar hi (e ▸ hc) (by rw [← e]; exact upd_same _ _ _) (by rw [← e]; exact hd) (by rw [eK, ← e]; exact hm)
      rw [← e] at this
      exact this
    · have hcid : ∀ k, k < (F.Gs c'').n → F.ids c'' k ≠ c := fun k hk e' => e0 (Fo.one _ _ _ (((Fo.gang c'' ha).wkS c).2 ⟨k, hk, e'.symm⟩) hwk0)
      refine hfar.reS (fun b hb => ?_) (fun z hz => ?_) (fun z => ⟨fun h => h.1, fun h => ⟨h, hne⟩⟩) (fun z hz => .rfl) rfl ⟨rfl, rfl⟩ rfl
      · show (S.cl b).shut c = S.cl b
        rcases hb with hb | hb | hb | hb | ⟨k, hk, hb | hb | hb | hb⟩ <;> rw [hb] <;> simp [Cls.shut, hne]
        all_goals exact fun h => absurd h (hcid k hk)
      · refine ⟨fun h => h.1, fun h => ⟨h, ?_⟩⟩
        rcases hz with rfl | hz
        · exact hne
        · rintro rfl; exact e0 (Fo.one _ _ _ hz hwk0)
  · obtain ⟨h1, i', wb', h2, h3, h4, h5⟩ := Fo.link c'' ha.1 hn0
    exact ⟨h1, i', wb', h2, h3, h4.trans (Fo.rb hc fr rb), h5⟩
  · have hzc : z ≠ c := fun e => hw 0 ⟨e ▸ hwk0, Ne.symm hc0⟩
    rw [upd_ne _ _ hzc]
    by_cases hwz : S.wk c z
    · obtain ⟨k, hk, rfl⟩ := hwc z hwz
      exact (hall k hk).2.1
    · exact Fo.lvs hc fr hz hz0 fun c' h => by
        by_cases e' : c' = c
        · exact hwz (e' ▸ h)
        · exact hw c' ⟨h, e'⟩
  · show (S.cl b).shut c = _
    rw [Fo.fix.2 b hb]
    rcases Fo.fx0 b hb with e' | e' | e' | e' | e' <;> rw [e'] <;> simp [Cls.shut, Ne.symm hc0]
/-- What the blocks become where y begins a gang. -/
def clOpen (K : Band) (y : Nat) (cl : Nat → Cls) (b : Nat) : Cls :=
  if b = K.Mu ∨ b = K.Wg then .sh y else if b = K.Ch then .chan y else if b = K.C then .row y else
    match cl b with
    | .own z => if z = y then .lent y else .own z
    | κ => κ
theorem clOpen_other {K : Band} {y b : Nat} {cl : Nat → Cls} (h4 : cl K.Mu = .own y ∧ cl K.Wg = .own y ∧ cl K.Ch = .own y ∧ cl K.C = .own y) (hb : cl b ≠ .own y) : clOpen K y cl b = cl b := by
  have h1 : b ≠ K.Mu := fun e => hb (by rw [e]; exact h4.1)
  have h2 : b ≠ K.Wg := fun e => hb (by rw [e]; exact h4.2.1)
  have h3 : b ≠ K.Ch := fun e => hb (by rw [e]; exact h4.2.2.1)
  have h5 : b ≠ K.C := fun e => hb (by rw [e]; exact h4.2.2.2)
  unfold clOpen
  rw [if_neg (fun h => h.elim h1 h2), if_neg h3, if_neg h5]
  cases hκ : cl b with
  | own z => rw [hκ] at hb; simp only; rw [if_neg fun e => hb (by rw [e])]
  | _ => rfl
theorem clOpen_mine {K : Band} {y b : Nat} {cl : Nat → Cls} (h1 : b ≠ K.Mu) (h2 : b ≠ K.Wg) (hb : cl b = .own y) : clOpen K y cl b = .chan y ∧ b = K.Ch ∨ clOpen K y cl b = .row y ∧ b = K.C ∨ clOpen K y cl b = .lent y ∧ b ≠ K.Ch ∧ b ≠ K.C := by
  unfold clOpen
  rw [if_neg (fun h => h.elim h1 h2)]
  by_cases h3 : b = K.Ch
  · rw [if_pos h3]; exact .inl ⟨rfl, h3⟩
  · rw [if_neg h3]
    by_cases h5 : b = K.C
    · rw [if_pos h5]; exact .inr (.inl ⟨rfl, h5⟩)
    · rw [if_neg h5, hb]; simp only [if_true]; exact .inr (.inr ⟨trivial, h3, h5⟩)
/-- A GANG WITHIN BEGINS: the gang of its starter. -/
theorem Cx.forth {K K1 : Band} {id : Nat → Nat} {Fin : Goroutine → World → Prop} {G : GS} {vs : Nat → Array Value} {ks : Nat → Nat} {kb : Nat} (h : Cx P K 0 id Fin S G gf w vs ks kb M t ng) {i m : Nat} (hi : i < G.n) (hna : ¬ S.act (id i)) (hp : (G.D i).pc = .bx) {p : Pc} {n : Nat} {bl : List Nat} (hn : n < (G.D i).it) (hpp : p = .bx ∨ p = .ld)
    (h4 : K1.Mu ∈ (G.D i).blk ∧ K1.Wg ∈ (G.D i).blk ∧ K1.Ch ∈ (G.D i).blk ∧ K1.C ∈ (G.D i).blk) (hbl : ∀ b, b ∈ bl → b ∈ (G.D i).blk ∧ b ≠ K1.Mu ∧ b ≠ K1.Wg) :
    Cx P K 0 id Fin (S.open (id i) (clOpen K1 (id i) S.cl) (muA K1.Mu) (stA K1.Wg)) (G.work i { pc := p, it := if p = .bx then n else 0, job := (G.D i).job, blk := bl } G.s) gf w vs (upd ks i (ks i - 1)) kb (upd M (id i) m) t ng ∧
      (G.work i { pc := p, it := if p = .bx then n else 0, job := (G.D i).job, blk := bl } G.s).rank K.N K.J < G.rank K.N K.J := by
  obtain ⟨hy, hyc, hy0⟩ := h.idL hi
  obtain ⟨T', hT'⟩ : ∃ T' : Th, T' = { pc := p, it := if p = .bx then n else 0, job := (G.D i).job, blk := bl } := ⟨_, rfl⟩
  have hTp : T'.pc = .bx ∨ T'.pc = .ld := by rw [hT']; exact hpp
  have hTb : T'.blk = bl := by rw [hT']
  have hm : Mw G.closed (G.D i) G.s T' G.s := by rw [hT']; exact .bx bl p n hp hn hpp
  rw [← hT']
  have hlow := mute_low hTp
  have hlow0 := mute_low (.inl hp)
  have hrk := rank_work h.ok hi hm
  have Dsame : (G.work i T' G.s).D i = T' := upd_same _ _ _
  have Dne : ∀ k, k ≠ i → (G.work i T' G.s).D k = G.D k := fun k hk => upd_ne _ _ hk
  have hdn : (G.work i T' G.s).dn = G.dn := putDn_other _ (by rw [hp]; simp)
  have hne : ∀ k, k < G.n → k ≠ i → id k ≠ id i := fun k hk e e' => e (h.idJ _ _ hk hi e')
  have hmine := fun b hb => (h.mine hi hna b hb).1
  have h4c : S.cl K1.Mu = .own (id i) ∧ S.cl K1.Wg = .own (id i) ∧ S.cl K1.Ch = .own (id i) ∧ S.cl K1.C = .own (id i) := ⟨hmine _ h4.1, hmine _ h4.2.1, hmine _ h4.2.2.1, hmine _ h4.2.2.2⟩
  have ho : ∀ {b κ}, S.cl b = κ → κ ≠ .own (id i) → clOpen K1 (id i) S.cl b = κ := fun h1 h2 => by rw [clOpen_other h4c (by rw [h1]; exact h2)]; exact h1
  have ht0 : upd S.tok (id i) none 0 = S.tok 0 := upd_ne _ _ (Ne.symm hyc)
  refine ⟨{ h with ok := ok_work h.ok hi hm, nr := h.nr, hk := ⟨fun y => ?_, ?_⟩, row := fun ht => ?_, ur := fun k hk hu => ?_, st := ?_, wk := fun k hk => ?_, busy := fun k hk hb => ?_, px := fun k hk hps hb => ?_, bk := fun k hk b hb => ?_, ow := fun k hk hk1 => ?_, ow' := fun y hy' => ?_, mu := fun k hk => ?_, act := .inl h.act, adr := ?_, bl := ⟨?_, ?_, ?_, ?_, fun k hk => ?_⟩, sz := h.sz }, hrk⟩
  · by_cases e : y = i
    · subst e; rw [upd_same]; have := h.hk.1 y; omega
    · rw [upd_ne _ _ e]; have := h.hk.1 y; omega
  · have := h.hk.2; omega
  · rw [hdn]; exact h.row (by rw [← ht0]; exact ht)
  · by_cases e : k = i
    · subst e; rw [Dsame] at hu; rcases hTp with h' | h' <;> rw [h'] at hu <;> cases hu
    · rw [Dne k e] at hu ⊢; rw [hdn]; exact h.ur k hk hu
  · rw [upd_ne _ _ (Ne.symm hyc)]; exact h.st
  · by_cases e : k = i
    · subst e; exact .inl (.inr rfl)
    · rw [Dne k e, upd_ne _ _ e, upd_ne _ _ (hne k hk e)]
      exact (h.wk k hk).imp .inl _root_.id
  · by_cases e : k = i
    · subst e; rw [Dsame]; exact hTp
    · rw [Dne k e]
      rcases hb with hb | hb
      · exact h.busy k hk hb
      · exact absurd hb (hne k hk e)
  · by_cases e : k = i
    · subst e; rw [Dsame]; exact fun h' => hlow.2.2.2.2 h'.1
    · rw [Dne k e]; exact h.px k hk hps hb
  · by_cases e : k = i
    · subst e
      rw [Dsame, hTb] at hb
      obtain ⟨b1, b2, b3⟩ := hbl b hb
      refine ⟨(h.mine hk hna b b1).2, .inr ⟨.inr rfl, ?_⟩⟩
      rcases clOpen_mine b2 b3 (hmine b b1) with ⟨x, _⟩ | ⟨x, _⟩ | ⟨x, _⟩
      · exact .inr (.inr x)
      · exact .inr (.inl x)
      · exact .inl x
    · rw [Dne k e] at hb
      obtain ⟨h1, h2⟩ := h.bk k hk b hb
      have hn := hne k hk e
      refine ⟨h1, ?_⟩
      rcases h2 with h2 | ⟨ha, h2⟩
      · exact .inl (ho h2 (by simp [hn]))
      · exact .inr ⟨.inl ha, by rcases h2 with h2 | h2 | h2 <;> simp [TG.open, ho h2]⟩
  · by_cases e : k = i
    · subst e; rw [Dsame, hlow.2.2.2.1] at hk1; cases hk1
    · rw [Dne k e] at hk1
      show upd S.tok (id i) none 0 = _
      rw [ht0]; exact h.ow k hk hk1
  · have hy2 : upd S.tok (id i) none 0 = some y := hy'
    rw [ht0] at hy2
    obtain ⟨k, hk, hk1, hk2⟩ := h.ow' y hy2
    have e : k ≠ i := fun e => by subst e; rw [hlow0.2.2.2.1] at hk1; cases hk1
    exact ⟨k, hk, by rw [Dne k e]; exact hk1, hk2⟩
  · by_cases e : k = i
    · subst e
      show S.mute _ ↔ _
      rw [Dsame, hlow.1, h.mu k hk, hlow0.1]
    · rw [Dne k e]; exact h.mu k hk
  · show upd S.mA (id i) _ 0 = _ ∧ upd S.wA (id i) _ 0 = _
    rw [upd_ne _ _ (Ne.symm hyc), upd_ne _ _ (Ne.symm hyc)]; exact h.adr
  · exact ho h.bl.M (by simp)
  · exact ho h.bl.W (by simp)
  · exact ho h.bl.H (by simp)
  · exact ho h.bl.C (by simp)
  · exact ho (h.bl.s k hk) (by simp)
/-- ████ A GANG WITHIN BEGINS. ████ -/
theorem Forest.begin (A : Arr ng gs gf) (Fo : Forest P K0 Fin0 F S gf w M t ng) {i : Nat} (hi : i < (F.Gs 0).n) (hna : ¬ S.act (F.ids 0 i)) (hp : ((F.Gs 0).D i).pc = .bx) (hd : Deaf t (F.ids 0 i) = 0) (hB : Begin P K0 (AtW P K0 (F.ks 0 i)) ((F.Gs 0).D i) (F.vs 0 i) (gf (F.ids 0 i)) w) :
    Falls P K0 Fin0 (mu4 K0 F S gf M ng) (crowd gs w sl) t := by
  obtain ⟨K1, p, n, bl, b1, b2, b3, b4, b5, b6, b7, b8, b9, b10, b11, b12, b13, b14⟩ := hB
  have cx0 : Cx P (F.Ks 0) 0 (F.ids 0) (F.Fs 0) S (F.Gs 0) gf w (F.vs 0) (F.ks 0) (F.kb 0) M t ng := Fo.gang 0 Fo.a0
  obtain ⟨eK, eFs⟩ := Fo.k0
  rw [eK, eFs] at cx0
  obtain ⟨hy, hyc, hy0⟩ := cx0.idL hi
  obtain ⟨y, hyy⟩ : ∃ y, y = F.ids 0 i := ⟨_, rfl⟩
  obtain ⟨m, hm⟩ := b14 (G₀.rank K1.N K1.J + 1)
  obtain ⟨c0, hrk⟩ := cx0.forth (m := m) hi hna hp b3 b4 b5 b6
  rw [← hyy] at c0 hna hd hy hyc hy0 hm
  have hmine := fun b hb => (cx0.mine hi (hyy ▸ hna) b hb).1
  rw [← hyy] at hmine
  have hwy : S.wk 0 y := hyy ▸ cx0.memI hi
  have hyn0 : y ≠ 0 := hyc
  have h4c : S.cl K1.Mu = .own y ∧ S.cl K1.Wg = .own y ∧ S.cl K1.Ch = .own y ∧ S.cl K1.C = .own y := ⟨hmine _ b5.1, hmine _ b5.2.1, hmine _ b5.2.2.1, hmine _ b5.2.2.2⟩
  have hidle := Fo.tr.idle y hna
  have hks : F.ks 0 i - 1 + 1 = F.ks 0 i := by have := cx0.hk.1 i; omega
  obtain ⟨T', hT'⟩ : ∃ T' : Th, T' = { pc := p, it := if p = .bx then n else 0, job := ((F.Gs 0).D i).job, blk := bl } := ⟨_, rfl⟩
  rw [← hT'] at c0 hrk hm
  have hF' : Forest P K0 Fin0 { Ks := upd F.Ks y K1, ids := upd F.ids y (fun _ => 0), Fs := upd F.Fs y (fun g' w' => RB K0 false [] w w' → AfterW P K0 (AtW P K0 (F.ks 0 i)) T' (F.vs 0 i) g' w'), Gs := upd (upd F.Gs 0 ((F.Gs 0).work i T' (F.Gs 0).s)) y G₀, vs := F.vs, ks := upd (upd F.ks 0 (upd (F.ks 0) i (F.ks 0 i - 1))) y (fun _ => G₀.rank K1.N K1.J), kb := upd F.kb y (G₀.rank K1.N K1.J) }
      (S.open y (clOpen K1 y S.cl) (muA K1.Mu) (stA K1.Wg)) gf w (upd M y m) t ng := by
    have e0 : ∀ {α : Type} (f : Nat → α) (x : α), upd f y x 0 = f 0 := fun f x => upd_ne _ _ (Ne.symm hyn0)
    refine ⟨⟨by simp only [e0]; exact eK, by simp only [e0]; exact eFs⟩, Fo.tr.open hna fun b => ?_, fun c'' ha => ?_, .inl Fo.a0, fun c'' ha hc0 => ?_, Fo.one, fun z hz hz0 hw => ?_, Fo.low, ⟨Fo.fix.1, fun b hb => ?_⟩, Fo.fx0⟩
    · by_cases e : S.cl b = .own y
      · refine .inr ⟨e, ?_⟩
        by_cases e1 : b = K1.Mu ∨ b = K1.Wg
        · exact .inr (.inr (.inl (by unfold clOpen; rw [if_pos e1])))
        · rcases clOpen_mine (fun h => e1 (.inl h)) (fun h => e1 (.inr h)) e with ⟨x, _⟩ | ⟨x, _⟩ | ⟨x, _⟩
          · exact .inr (.inr (.inr x))
          · exact .inr (.inl x)
          · exact .inl x
      · exact .inl (clOpen_other h4c e)
    · by_cases ey : c'' = y
      · subst ey
        unfold FD.cx
        simp only [upd_same]
        have hMW := K1.hMW; have hMH := K1.hMH; have hMC := K1.hMC; have hWH := K1.hWH; have hWC := K1.hWC; have hCH := K1.hCH
        refine { ok := ok_G₀ K1.hN, nr := by simp [G₀], hk := ⟨fun _ => Nat.le_refl _, Nat.le_refl _⟩, sh := b9, ch := b10, row := fun _ => b11, rowJ := ⟨_, b11, K1.hrow _⟩, ur := fun k hk => absurd hk (Nat.not_lt_zero _), st := .inl ?_, d0 := hd, wk := fun k hk => absurd hk (Nat.not_lt_zero _), busy := fun k hk => absurd hk (Nat.not_lt_zero _), px := fun k hk => absurd hk (Nat.not_lt_zero _), bk := fun k hk => absurd hk (Nat.not_lt_zero _), ow := fun k hk => absurd hk (Nat.not_lt_zero _), ow' := fun z hz => ?_, idc := ⟨hy, fun k hk => absurd hk (Nat.not_lt_zero _)⟩, idJ := fun k _ hk => absurd hk (Nat.not_lt_zero _), wkS := fun z => ⟨fun h => absurd h (hidle.1 z), fun ⟨k, hk, _⟩ => absurd hk (Nat.not_lt_zero _)⟩, mu := fun k hk => absurd hk (Nat.not_lt_zero _), act := .inr rfl, adr := ⟨upd_same _ _ _, upd_same _ _ _⟩, mn := by rw [b1, hy0], bl := ⟨?_, ?_, ?_, ?_, fun k hk => ?_⟩, B := b8, sz := cx0.sz }
        · rw [atS_flat b2, upd_same]; exact hm
        · have hz' : upd S.tok c'' none c'' = some z := hz
          rw [upd_same] at hz'; cases hz'
        · show clOpen _ _ _ _ = _; unfold clOpen; rw [if_pos (.inl rfl)]
        · show clOpen _ _ _ _ = _; unfold clOpen; rw [if_pos (.inr rfl)]
        · show clOpen _ _ _ _ = _; unfold clOpen; rw [if_neg (fun h => h.elim (Ne.symm hMH) (Ne.symm hWH)), if_pos rfl]
        · show clOpen _ _ _ _ = _; unfold clOpen; rw [if_neg (fun h => h.elim (Ne.symm hMC) (Ne.symm hWC)), if_neg hCH, if_pos rfl]
        · rcases clOpen_mine hk.2.1 hk.2.2.1 (hmine _ (b7 k hk)) with ⟨_, x⟩ | ⟨_, x⟩ | ⟨x, _⟩
          · exact absurd x hk.2.2.2.1
          · exact absurd x hk.2.2.2.2.1
          · exact x
      · have ha' : S.act c'' := ha.resolve_right ey
        by_cases ec : c'' = 0
        · subst ec
          unfold FD.cx
          simp only [upd_ne _ _ ey, upd_same]
          rw [eK, eFs]
          exact c0
        · have cx'' : Cx P (F.Ks c'') c'' (F.ids c'') (F.Fs c'') S (F.Gs c'') gf w (F.vs c'') (F.ks c'') (F.kb c'') M t ng := Fo.gang c'' ha'
          have hnm : ∀ z, S.mem c'' z → z ≠ y := fun z hz => by
            rintro rfl
            rcases hz with e | hz
            · exact ey e.symm
            · exact ec (Fo.one _ _ _ hz hwy)
          have c1 := (cx''.reM (M' := upd M y m) fun z hz => upd_ne _ _ (hnm z hz)).reS (S' := S.open y (clOpen K1 y S.cl) (muA K1.Mu) (stA K1.Wg)) (fun b hb => ?_) (fun z hz => ⟨fun h => h.resolve_right (hnm z hz), .inl⟩) (fun z => .rfl) (fun z hz => .rfl) (upd_ne _ _ ey) ⟨upd_ne _ _ ey, upd_ne _ _ ey⟩ rfl
          · unfold FD.cx
            simp only [upd_ne _ _ ey, upd_ne _ _ ec]
            exact c1
          · refine clOpen_other h4c fun e => ?_
            rw [e] at hb
            rcases hb with hb | hb | hb | hb | ⟨k, hk, hb | hb | hb | hb⟩ <;> first | cases hb | skip
            exact hnm _ (.inr ((cx''.wkS _).2 ⟨k, hk, rfl⟩)) rfl
    · by_cases ey : c'' = y
      · subst ey
        simp only [upd_same, e0]
        refine ⟨b2, i, w, hi, hyy, RB.refl _ _ _, ?_⟩
        rw [upd_same, hks]
        funext g' w'
        show (_ → _) = (_ → AfterW P K0 _ (upd _ i T' i) _ _ _)
        rw [upd_same]
      · have ha' : S.act c'' := ha.resolve_right ey
        obtain ⟨l1, k, wb, hk, l2, l4, l3⟩ := Fo.link c'' ha' hc0
        have hki : k ≠ i := fun e => ey (by rw [l2, e, hyy])
        simp only [upd_ne _ _ ey, e0, upd_same]
        refine ⟨l1, k, wb, hk, l2, l4, ?_⟩
        rw [upd_ne _ _ hki]
        show _ = fun g' w' => (_ → AfterW P K0 _ (upd _ i T' k) _ _ _)
        rw [upd_ne _ _ hki]
        exact l3
    · have hzy : z ≠ y := fun e => hw 0 (e ▸ hwy)
      rw [upd_ne _ _ hzy]
      exact Fo.lv z hz hz0 hw
    · rw [← Fo.fix.2 b hb]
      refine clOpen_other h4c fun e => ?_
      rw [Fo.fix.2 b hb] at e
      rcases Fo.fx0 b hb with e' | e' | e' | e' | e' <;> rw [e'] at e <;> cases e
  refine ⟨mu4 K0 _ _ gf (upd M y m) ng, .left _ _ ?_, _, _, gf, w, upd M y m, ng, gs, sl, rfl, A, hF', rfl⟩
  show (upd (upd F.Gs 0 _) y G₀ 0).rank _ _ < _
  rw [upd_ne _ _ (Ne.symm hyn0), upd_same]
  exact hrk
/-- ████ ALL ENDS. ████ -/
theorem Forest.ended (Fo : Forest P K0 Fin0 F S gf w M t ng) (h : Over P (F.Ks 0) 0 (F.ids 0) (F.Fs 0) S (F.Gs 0) gf w M t ng gs sl) : ∃ m₁ ops, runT P (crowd gs w sl) 0 = (.next m₁, ops) ∧ Ended P K0 Fin0 m₁ (t ++ ops) := by
  obtain ⟨gs', w', ops, gf', M', hrun, A', R', fr, rb, hF, hrow, hsz, hd, hall⟩ := h
  have cx0 := Fo.gang 0 Fo.a0
  obtain ⟨eK, eFs⟩ := Fo.k0
  rw [eFs] at hF
  rw [eK] at hrow
  have hact : ∀ c, S.act c → c = 0 := fun c hc => by
    apply Classical.byContradiction
    intro hc0
    obtain ⟨_, i, _, hi, e, _⟩ := Fo.link c hc hc0
    exact (hall i hi).1 (e ▸ hc)
  have hwk : ∀ z, S.wk 0 z → ∃ i, i < (F.Gs 0).n ∧ z = F.ids 0 i := fun z hz => (cx0.wkS z).1 hz
  have hwk0 : ∀ c z, S.wk c z → c = 0 := fun c z hz => hact c (Fo.wk_lt hz).1
  have hng : 0 < ng := Fo.act_lt Fo.a0
  have hP := R'.join hact (fun z hz => by obtain ⟨i, hi, rfl⟩ := hwk z hz; exact ⟨(hall i hi).2.2.1, (hall i hi).2.2.2⟩) hd
  refine ⟨_, ops, hrun, gs', gf' 0, w', sl, M', fun l => S.shish l ∧ ∃ b, locB l = some b ∧ b < w'.heap.size ∧ (b < Fin0.s0 → Fin0.c0 b = .old ∨ Fin0.c0 b = .sh 0), rfl, A'.at_ 0 hng, hF, hrow, ⟨fun z x hz0 hx => ?_, fun z hz => ?_⟩, ?_, R'.nrA, fun op hop => by rw [A'.size]; exact R'.gs op hop, fun l hl => hl.2⟩
  · obtain ⟨hlt, rfl⟩ := A'.of hx
    by_cases hw : S.wk 0 z
    · obtain ⟨i, hi, rfl⟩ := hwk z hw
      exact (hall i hi).2.1
    · exact Fo.lvs Fo.a0 fr hlt (by omega) fun c h => hw (hwk0 c z h ▸ h)
  · rw [A'.size] at hz
    exact R'.deaf_new hz
  · rw [← hsz]
    refine ⟨hP.clean, fun q x hx hm => ?_, hP.over, hP.hears, hP.seen⟩
    rcases hP.known q x hx hm with h1 | ⟨h1, h2⟩
    · exact .inl h1
    · obtain ⟨b, hb⟩ := locB_mem hm
      refine .inr ⟨⟨h1, b, hb, no_touch_new hP.seen hx hb, fun hlt => ?_⟩, h2⟩
      obtain ⟨b', hb', hs⟩ := h1
      rw [hb] at hb'; cases hb'
      rw [Fo.fix.2 b hlt] at hs
      rcases hs with ⟨c, e⟩ | e
      · rcases Fo.fx0 b hlt with e' | e' | e' | e' | e' <;> rw [e'] at e <;> first | cases e | skip
        exact .inr e'
      · exact .inl e
/-- Nobody outside a gang offers anything at its channel. -/
theorem Forest.off (Fo : Forest P K0 Fin0 F S gf w M t ng) {c : Nat} (hc : S.act c) : Off (F.Ks c) c (F.ids c) S (F.Gs c) gf ng := by
  intro z hz hzc hb b
  have cxc := Fo.gang c hc
  have hch : ∀ c', S.act c' → c' ≠ c → (F.Ks c').Ch ≠ (F.Ks c).Ch := fun c' hc' hne e => by
    have h1 := (Fo.gang c' hc').bl.H
    have h2 := cxc.bl.H
    rw [e, h2] at h1
    cases h1; exact hne rfl
  by_cases ha : S.act z
  · have hs := sitS_offers (Fo.gang z ha).st (F.Ks c).Ch
    cases b with
    | false => exact hs.1
    | true =>
      rcases hs.2 with ⟨g₀, e, _⟩ | e
      · rw [e, offersAt_parked_send, if_neg (hch z ha hzc)]
      · exact e _
  · by_cases hw : ∃ c', S.wk c' z
    · obtain ⟨c', hw⟩ := hw
      have hac := (Fo.wk_lt hw).1
      have hne : c' ≠ c := by
        rintro rfl
        obtain ⟨i, hi, e⟩ := (cxc.wkS z).1 hw
        exact ha (hb i hi e)
      have cx' := Fo.gang c' hac
      obtain ⟨i, hi, e⟩ := (cx'.wkS z).1 hw
      have hs := sit_offers ((cx'.wk i hi).resolve_left (e ▸ ha)) (F.Ks c).Ch
      rw [e]
      cases b with
      | true => exact hs.1
      | false =>
        rcases hs.2 with ⟨g₀, e, _⟩ | e
        · rw [e, offersAt_parked_recv, if_neg (hch c' hac hne)]
        · exact e _
    · have hz0 : z ≠ 0 := fun e => ha (e ▸ Fo.a0)
      have hq := Fo.lv z hz hz0 fun c' h => hw ⟨c', h⟩
      exact offersAt_of_not_blocked (by rcases hq.status with e | e <;> rw [e] <;> simp) _ _
/-- Nobody sleeps. -/
theorem Forest.awake (A : Arr ng gs gf) (Fo : Forest P K0 Fin0 F S gf w M t ng) : ∀ g ∈ gs, awake g := by
  intro g hg
  obtain ⟨z, hz⟩ := Array.mem_iff_getElem?.1 hg
  obtain ⟨hlt, rfl⟩ := A.of hz
  by_cases ha : S.act z
  · exact awake_sitS (Fo.gang z ha).st
  · by_cases hw : ∃ c', S.wk c' z
    · obtain ⟨c', hw⟩ := hw
      have cx' := Fo.gang c' (Fo.wk_lt hw).1
      obtain ⟨i, hi, e⟩ := (cx'.wkS z).1 hw
      have := awake_sit ((cx'.wk i hi).resolve_left (e ▸ ha))
      rw [e]; exact this
    · have hz0 : z ≠ 0 := fun e => ha (e ▸ Fo.a0)
      have hq := Fo.lv z hlt hz0 fun c' h => hw ⟨c', h⟩
      exact fun tt => by rcases hq.status with e | e <;> rw [e] <;> simp
/-- Somebody can run. -/
theorem Forest.runs (A : Arr ng gs gf) (Fo : Forest P K0 Fin0 F S gf w M t ng) : ∃ (i : Nat) (g : Goroutine), gs[i]? = some g ∧ g.status = .running := by
  have cx0 := Fo.gang 0 Fo.a0
  rcases cx0.runs with h | ⟨i, hi, h | h⟩
  · exact ⟨0, _, A.at_ 0 (Fo.act_lt Fo.a0), h⟩
  · have hi0 := (cx0.idc.2 i hi).2.2
    have cxi := Fo.gang _ h
    rcases cxi.runs with h' | ⟨k, hk, h' | h'⟩
    · exact ⟨_, _, A.at_ _ (Fo.act_lt h), h'⟩
    · exact absurd h' (Fo.flat (cxi.memI hk) hi0)
    · exact ⟨_, _, A.at_ _ (cxi.idc.2 k hk).1, h'⟩
  · exact ⟨_, _, A.at_ _ (cx0.idc.2 i hi).1, h⟩
theorem Begin.unat {K : Band} {Nx : Th → Array Value → Goroutine → World → Prop} {T : Th} {v : Array Value} {g : Goroutine} {d : Nat} (h : Begin P K Nx T v g (w.at d)) : Begin P K Nx T v g w := by
  obtain ⟨K1, p, n, bl, b1, b2, b3, b4, b5, b6, b7, b8, b9, b10, b11, b12, b13, b14⟩ := h
  refine ⟨K1, p, n, bl, b1, b2, b3, b4, b5, b6, b7, b8, b9, b10, b11, b12, b13, fun k => ?_⟩
  obtain ⟨m, hm⟩ := b14 k
  exact ⟨m, goes_mono_stop (fun g w' => AtSf.mono fun g w' x r => x ((RB.at _ _ (w.at d) w.drawn).trans r)) (GoS.rely hm (RB.at _ _ (w.at d) w.drawn))⟩
/-- ████ A STEP OF THE MACHINE's; or a gang begins; or all ends. ████ -/
theorem forest_step {μ : Nat × Nat × Nat × Nat} {m : Machine} (h : FInv P K0 Fin0 μ m t) :
    (∃ m₁ ops, stepT P m = (.next m₁, ops) ∧ Falls P K0 Fin0 μ m₁ (t ++ ops)) ∨ Falls P K0 Fin0 μ m t ∨ ∃ m₁ ops, stepT P m = (.next m₁, ops) ∧ Ended P K0 Fin0 m₁ (t ++ ops) := by
  obtain ⟨F, S, gf, w, M, ng, gs, sl, rfl, A, Fo, rfl⟩ := h
  obtain ⟨y, g, d, sl', hg, hr, hst⟩ := crowd_pick (P := P) (w := w) (sl := sl) (Fo.awake A) (Fo.runs A)
  have Fo' := Fo.at' d
  obtain ⟨hlt, rfl⟩ := A.of hg
  have hnew : ¬ S.act ng ∧ ¬ S.mute ng := ⟨fun h => by have := Fo.act_lt h; omega, fun h => by have := Fo.low ng h; omega⟩
  have fin : (∃ m₁ ops, runT P (crowd gs (w.at d) sl') y = (.next m₁, ops) ∧ Falls P K0 Fin0 (mu4 K0 F S gf M ng) m₁ (t ++ ops)) → ∃ m₁ ops, stepT P (crowd gs w sl) = (.next m₁, ops) ∧ Falls P K0 Fin0 (mu4 K0 F S gf M ng) m₁ (t ++ ops) := fun ⟨m₁, ops, h1, h2⟩ => ⟨m₁, ops, hst.trans h1, h2⟩
  by_cases ha : S.act y
  · rcases step_boss (sl := sl') A Fo'.tr (Fo'.gang y ha) (Fo'.off ha) hnew hr with h | h
    · exact .inl (fin (Fo'.ran ha (.inl rfl) h))
    · by_cases hy0 : y = 0
      · subst hy0
        obtain ⟨m₁, ops, h1, h2⟩ := Fo'.ended h
        exact .inr (.inr ⟨m₁, ops, hst.trans h1, h2⟩)
      · exact .inl (fin (Fo'.over ha hy0 h))
  · by_cases hw : ∃ c', S.wk c' y
    · obtain ⟨c, hw⟩ := hw
      have hc := (Fo.wk_lt hw).1
      have cx := Fo'.gang c hc
      obtain ⟨i, hi, e⟩ := (cx.wkS y).1 hw
      rcases step_worker (sl := sl') A Fo'.tr cx (Fo'.off hc) (fun c' k hk h => Fo.one _ _ _ h ((cx.wkS _).2 ⟨k, hk, rfl⟩)) hi (e ▸ ha) (e ▸ hr) with h | ⟨h1, h2, h3, h4⟩
      · rw [← e] at h
        exact .inl (fin (Fo'.ran hc (.inr ⟨hw, ha⟩) h))
      · by_cases hc0 : c = 0
        · subst hc0
          rw [Fo.k0.1] at h4
          exact .inr (.inl (Fo.begin A hi (e ▸ ha) h1 h2 h4.unat))
        · have := (Fo.link c hc hc0).1
          rw [this] at h3; cases h3
    · have hy0 : y ≠ 0 := fun e => ha (e ▸ Fo.a0)
      have hq := Fo.lv y hlt hy0 fun c' h => hw ⟨c', h⟩
      obtain ⟨q, hMq⟩ : ∃ q, M y = q := ⟨_, rfl⟩
      rw [hMq] at hq
      cases q with
      | zero => rw [hq.1] at hr; cases hr
      | succ q =>
        rcases hq with ⟨hf, _⟩ | ⟨_, g', es, hm, hs, hq2⟩
        · rw [hf] at hr; cases hr
        have hrun := run_own (P := P) (sl := sl') A hlt (show (y == 0) = false by simpa using hy0) (hs (w.at d))
        have hfar : ∀ c'', S.act c'' → Cx P (F.Ks c'') c'' (F.ids c'') (F.Fs c'') S (F.Gs c'') (fun z => if z = y then g' else woken P (gf y) g' (w.at d) (gf z)) (w.at d) (F.vs c'') (F.ks c'') (F.kb c'') (upd M y q) (t ++ MemOp.ofEvents y (gf y).frame.fn (gf y).frame.place es) ng := fun c'' hc'' => by
          have cx := Fo'.gang c'' hc''
          have hne : ∀ z, S.mem c'' z → z ≠ y := fun z hz => by
            rintro rfl
            rcases hz with e | hz
            · exact ha (e ▸ hc'')
            · exact hw ⟨_, hz⟩
          exact cx.far (c₁ := c'' + 1) (y := y) (by omega) (Far.refl _ _ _ _) (Ne.symm (hne _ (.inl rfl))) (fun i hi e => absurd e.symm (hne _ (.inr ((cx.wkS _).2 ⟨i, hi, rfl⟩)))) (fun _ _ => rfl) (fun _ => .rfl) (fun _ => .rfl) (fun _ _ => .rfl) rfl ⟨rfl, rfl⟩ cx.sz (Nat.le_refl _) (fun z hz _ => upd_ne _ _ (hne z hz)) (fun z hz _ => .inr ⟨_, _, if_neg (hne z hz)⟩) (fun z hz _ => deaf_others (hne z hz) _ _ _)
        refine .inl ⟨_, _, hst.trans hrun, mu4 K0 F S (fun z => if z = y then g' else woken P (gf y) g' (w.at d) (gf z)) (upd M y q) ng, .right _ (.right _ (.left _ _ (sum_upd_lt hlt (by omega)))), F, S, _, w.at d, upd M y q, ng, _, sl', rfl, A.step hlt _ _ _, ⟨Fo.k0, Fo.tr.still (mute_ops hm hlt), hfar, Fo.a0, Fo'.link, Fo.one, fun z hz hz0 hwz => ?_, Fo.low, Fo.fix, Fo.fx0⟩, rfl⟩
        by_cases e : z = y
        · subst e
          simp only [if_true, upd_same]
          rw [Deaf_own]; exact hq2
        · simp only [if_neg e, upd_ne _ _ e]
          have hqz := Fo.lv z hz hz0 hwz
          rw [deaf_others e, woken_quitsD hqz]; exact hqz
/-- ████ THE WHOLE. ████ -/
theorem forest_run : ∀ {μ : Nat × Nat × Nat × Nat} {m : Machine} {t : Trace}, FInv P K0 Fin0 μ m t → ∃ n m' t', runNT P n m t = (.next m', t') ∧ Ended P K0 Fin0 m' t' := by
  intro μ
  induction μ using wf4.induction with
  | _ μ ih =>
    intro m t h
    rcases forest_step h with ⟨m₁, ops, h1, μ', h2, h3⟩ | ⟨μ', h2, h3⟩ | ⟨m₁, ops, h1, h2⟩
    · obtain ⟨n, m', t', h4, h5⟩ := ih μ' h2 h3
      exact ⟨n + 1, m', t', by simp only [runNT, h1]; exact h4, h5⟩
    · exact ih μ' h2 h3
    · exact ⟨1, m₁, t ++ ops, by simp only [runNT, h1], h2⟩
end
end Go.Proofs.Ytapjmifhhbpikaa

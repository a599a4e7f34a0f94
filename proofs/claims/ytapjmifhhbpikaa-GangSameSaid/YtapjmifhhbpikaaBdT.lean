/- The gang in the machine: the trace. -/
import Derived.Test.YtapjmifhhbpikaaBdC
set_option linter.unusedVariables false
set_option linter.unusedSimpArgs false
namespace Go.Proofs.Ytapjmifhhbpikaa
open Go.Conc Go.ConcN Go.ConcM
open Go.ConcR (KK wgBlock WgAt stA smA rd wr mk g_of_ofEvents ofEvent_loc_mark ofEvent_cell ofEvent_mk loc_of_ofEvent)
section
variable (K : Band)
def PrB (l : Loc) : Prop := ∃ ad, l = .cell ad ∧ ad.block = K.C
def OwnB (ob : Nat → Option Nat) (y : Nat) (l : Loc) : Prop := ∃ ad, l = .cell ad ∧ ob ad.block = some y
def RdB (y : Nat) (l : Loc) : Prop := K.base < y ∧ ∃ ad, l = .cell ad ∧ Still K ad.block ∧ ¬ K.Shun l
def idW (i : Nat) : Nat := K.base + 1 + i
structure MTr (n : Nat) (mu : Nat → Bool) (o : Option Nat) (ob : Nat → Option Nat) (sz : Nat) (t : Trace) : Prop where
  lt : LT K.Shun (PrB K) (OwnB ob) (RdB K) (muA K.Mu) t (K.base + n) o
  hi : ∀ b y, ob b = some y → K.B0 ≤ b ∧ b < sz
  B : K.B0 ≤ sz
  seen : ∀ op ∈ t, op.act.low sz
  mem : ∀ q x, touchAt t q = some x → x.loc.isMemory = true ∨ t.g? q = some 0
  nrA : ∀ a, NoRelease a t
  rel : ∀ i, i < n → mu i = true → ∃ r, RelBy (stA K.Wg) t (idW K i) r ∧ ∀ q x, r < q → t.g? q = some (idW K i) → touchAt t q = some x → K.Shun x.loc ∧ x.kind = .atomic
  who : ∀ q x, touchAt t q = some x → t.g? q = some 0 ∨ Knows t 0 q ∨ (K.Shun x.loc ∧ x.kind = .atomic) ∨ ∃ i, i < n ∧ t.g? q = some (idW K i)
  over : ∀ q g, t.g? q = some g → g ≠ 0 → t.counts q → (∃ j, t.g? j = some 0 ∧ HappensBefore t q j) ∨ ∃ i, i < n ∧ g = idW K i
end
section
variable {K : Band} {n : Nat} {mu mu' : Nat → Bool} {o o' : Option Nat} {ob : Nat → Option Nat} {sz : Nat} {t u : Trace}
theorem apartB (hi : ∀ b y, ob b = some y → K.B0 ≤ b ∧ b < sz) : ApartL K.Shun (PrB K) (OwnB ob) (RdB K) := by
  have e : ∀ {a b : Addr}, Loc.cell a = Loc.cell b → a = b := fun h => by cases h; rfl
  refine ⟨⟨fun k k' l h h' => ?_, fun k k' l h h' => ?_, fun k l h => ?_, fun k l h => h.2.elim fun ad h => h.2.2⟩, fun l h => ?_, fun k l h h' => ?_, fun k l h h' => ?_⟩
  · obtain ⟨a, rfl, ha⟩ := h
    obtain ⟨b, eb, hb⟩ := h'
    cases e eb
    rw [ha] at hb; cases hb; rfl
  · obtain ⟨a, rfl, ha⟩ := h
    obtain ⟨_, b, eb, hb, _⟩ := h'
    cases e eb
    have := (hi _ _ ha).1; have := hb.1; omega
  · obtain ⟨a, rfl, ha⟩ := h
    exact K.sB a (hi _ _ ha).1
  · obtain ⟨a, rfl, ha⟩ := h
    exact K.sC a ha
  · obtain ⟨a, rfl, ha⟩ := h
    obtain ⟨b, eb, hb⟩ := h'
    cases e eb
    have := (hi _ _ ha).1; have := K.bC; omega
  · obtain ⟨_, a, rfl, ha, _⟩ := h
    obtain ⟨b, eb, hb⟩ := h'
    cases e eb
    exact ha.2.2.2.2 hb
theorem MTr.apart (h : MTr K n mu o ob sz t) : ApartL K.Shun (PrB K) (OwnB ob) (RdB K) := apartB h.hi
/-- A mute worker's release stands, where it touches nothing. -/
theorem rel_stands {i r : Nat} (h : RelBy (stA K.Wg) t (idW K i) r ∧ ∀ q x, r < q → t.g? q = some (idW K i) → touchAt t q = some x → K.Shun x.loc ∧ x.kind = .atomic) (hu : ∀ op ∈ u, op.g = idW K i → op.act.touch? = none) :
    RelBy (stA K.Wg) (t ++ u) (idW K i) r ∧ ∀ q x, r < q → (t ++ u).g? q = some (idW K i) → touchAt (t ++ u) q = some x → K.Shun x.loc ∧ x.kind = .atomic := by
  refine ⟨h.1.app fun q hq hg hc => ?_, fun q x hrq hg hx => ?_⟩
  · obtain ⟨x, hx, _⟩ := hc
    obtain ⟨op, hop, hox⟩ := touch_of hx
    rcases getElem?_append_cases hop with ⟨hlt, _⟩ | ⟨_, hou⟩
    · omega
    · have : op.g = idW K i := by simpa [Trace.g?, hop] using hg
      rw [hu op hou this] at hox; cases hox
  · obtain ⟨op, hop, hox⟩ := touch_of hx
    rcases getElem?_append_cases hop with ⟨hlt, hop'⟩ | ⟨_, hou⟩
    · exact h.2 q x hrq (by rw [← Go.Conc.g?_old (u := u) hlt]; exact hg) (by rw [touchAt_of hop']; exact hox)
    · have : op.g = idW K i := by simpa [Trace.g?, hop] using hg
      rw [hu op hou this] at hox; cases hox
/-- THE TRACE GROWS. -/
theorem MTr.gen (h : MTr K n mu o ob sz t) {sz' : Nat} (hsz : sz ≤ sz') (hlt : LT K.Shun (PrB K) (OwnB ob) (RdB K) (muA K.Mu) (t ++ u) (K.base + n) o') (hlow : ∀ op ∈ u, op.act.low sz') (hmem : ∀ op ∈ u, ∀ x, op.act.touch? = some x → x.loc.isMemory = true ∨ op.g = 0) (hnr : ∀ op ∈ u, ∀ a, op.act ≠ .mark (.release a))
    (hwho : ∀ op ∈ u, ∀ x, op.act.touch? = some x → op.g = 0 ∨ ∃ i, i < n ∧ op.g = idW K i)
    (hrel : ∀ i, i < n → mu' i = true → ∃ r, RelBy (stA K.Wg) (t ++ u) (idW K i) r ∧ ∀ q x, r < q → (t ++ u).g? q = some (idW K i) → touchAt (t ++ u) q = some x → K.Shun x.loc ∧ x.kind = .atomic) : MTr K n mu' o' ob sz' (t ++ u) := by
  refine ⟨hlt, fun b y hb => ⟨(h.hi b y hb).1, by have := (h.hi b y hb).2; omega⟩, Nat.le_trans h.B hsz, fun op hop => ?_, fun q x hx => ?_, fun a => (h.nrA a).app fun op hop => hnr op hop a, hrel, fun q x hx => ?_, fun q g hg hne hc => ?_⟩
  · rcases Array.mem_append.1 hop with h1 | h1
    · exact MemAct.low_mono hsz (h.seen op h1)
    · exact hlow op h1
  · obtain ⟨op, hop, hox⟩ := touch_of hx
    rcases getElem?_append_cases hop with ⟨hl, hop'⟩ | ⟨_, hou⟩
    · exact (h.mem q x (by rw [touchAt_of hop']; exact hox)).imp id fun e => by rw [Go.Conc.g?_old hl]; exact e
    · exact (hmem op hou x hox).imp id fun e => by simp [Trace.g?, hop, e]
  · obtain ⟨op, hop, hox⟩ := touch_of hx
    rcases getElem?_append_cases hop with ⟨hl, hop'⟩ | ⟨_, hou⟩
    · rcases h.who q x (by rw [touchAt_of hop']; exact hox) with h1 | h1 | h1 | ⟨i, hi, h1⟩
      · exact .inl (by rw [Go.Conc.g?_old hl]; exact h1)
      · exact .inr (.inl (h1.app u))
      · exact .inr (.inr (.inl h1))
      · exact .inr (.inr (.inr ⟨i, hi, by rw [Go.Conc.g?_old hl]; exact h1⟩))
    · have hg : (t ++ u).g? q = some op.g := by simp [Trace.g?, hop]
      rcases hwho op hou x hox with h1 | ⟨i, hi, h1⟩
      · exact .inl (by rw [hg, h1])
      · exact .inr (.inr (.inr ⟨i, hi, by rw [hg, h1]⟩))
  · have hc' := hc
    obtain ⟨x, hx, _⟩ := hc
    obtain ⟨op, hop, hox⟩ := touch_of hx
    rcases getElem?_append_cases hop with ⟨hl, hop'⟩ | ⟨_, hou⟩
    · rcases h.over q g (by rw [← Go.Conc.g?_old (u := u) hl]; exact hg) hne ((counts_old hl).1 hc') with ⟨j, hj, hb⟩ | h1
      · have hjl : j < t.size := by
          unfold Trace.g? at hj
          obtain ⟨z, hz, _⟩ := Option.map_eq_some_iff.1 hj
          exact lt_size_of_getElem? hz
        exact .inl ⟨j, by rw [Go.Conc.g?_old hjl]; exact hj, hb_app u hb⟩
      · exact .inr h1
    · have hgg : op.g = g := by simpa [Trace.g?, hop] using hg
      rcases hwho op hou x hox with h1 | ⟨i, hi, h1⟩
      · exact absurd (hgg ▸ h1) hne
      · exact .inr ⟨i, hi, by rw [← hgg, h1]⟩
/-- Operations that touch nothing and are no plain release. -/
theorem LT.stills (A : ApartL K.Shun (PrB K) (OwnB ob) (RdB K)) {j : Nat} : ∀ (l : List MemOp) {t : Trace}, LT K.Shun (PrB K) (OwnB ob) (RdB K) (muA K.Mu) t j o → (∀ z ∈ l, z.g ≤ j ∧ z.act.touch? = none ∧ z.act ≠ .mark (.release (muA K.Mu))) → LT K.Shun (PrB K) (OwnB ob) (RdB K) (muA K.Mu) (t ++ l.toArray) j o
  | [], t, h, _ => by simpa using h
  | z :: l, t, h, hl => by
    have hz := hl z (by simp)
    have := LT.stills A l (h.still A hz.1 hz.2.1 hz.2.2) (fun y hy => hl y (by simp [hy]))
    have e : t ++ (z :: l).toArray = (t ++ #[z]) ++ l.toArray := by simp
    rw [e]; exact this
theorem MTr.stills (h : MTr K n mu o ob sz t) {sz' : Nat} (hsz : sz ≤ sz') (hu : ∀ z ∈ u, z.g ≤ K.base + n ∧ z.act.touch? = none ∧ (∀ a, z.act ≠ .mark (.release a)) ∧ z.act.low sz') : MTr K n mu o ob sz' (t ++ u) := by
  refine h.gen hsz ?_ (fun op hop => (hu op hop).2.2.2) (fun op hop x hx => by rw [(hu op hop).2.1] at hx; cases hx) (fun op hop => (hu op hop).2.2.1) (fun op hop x hx => by rw [(hu op hop).2.1] at hx; cases hx) (fun i hi hm => ?_)
  · have := LT.stills h.apart u.toList h.lt (fun z hz => by have := hu z (by simpa using hz); exact ⟨this.1, this.2.1, this.2.2.1 _⟩)
    simpa using this
  · obtain ⟨r, hr⟩ := h.rel i hi hm
    exact ⟨r, rel_stands hr fun op hop _ => (hu op hop).2.1⟩
theorem idW_pos (K : Band) (i : Nat) : 1 ≤ idW K i := by unfold idW; omega
theorem idW_le {K : Band} {i n : Nat} (h : i < n) : idW K i ≤ K.base + n := by unfold idW; omega
theorem idW_inj {K : Band} {i k : Nat} (h : idW K i = idW K k) : i = k := by unfold idW at h; omega
/-- An idle step of the starter's. -/
theorem MTr.idle0 (h : MTr K n mu o ob sz t) {fn : FuncId} {pos : String} {es : Array Event} (hev : ∀ e ∈ es, EvT K true [] false sz e) : MTr K n mu o ob sz (t ++ MemOp.ofEvents 0 fn pos es) := by
  have ho : ∀ op ∈ MemOp.ofEvents 0 fn pos es, ∃ e ∈ es, op = { g := 0, fn, pos, act := .ofEvent e } := fun op hop => Go.Conc.mem_ofEvents hop
  refine h.gen (Nat.le_refl _) (h.lt.app0 h.apart fun op hop => ?_) (fun op hop => ?_) (fun op hop x hx => ?_) (fun op hop => ?_) (fun op hop x hx => ?_) (fun i hi hm => ?_)
  · obtain ⟨e, he, rfl⟩ := ho op hop
    obtain ⟨h1, h2, h4, h5, h6⟩ := hev e he
    refine ⟨rfl, fun hm => h4 _ (loc_of_ofEvent hm), fun x hx => ?_⟩
    obtain ⟨hm, a | a | a | a⟩ := h6 x hx
    · exact .inl ⟨a.1, a.2.1⟩
    · obtain ⟨ad, _, hh⟩ := a; cases hh
    · obtain ⟨ad, e1, hs, hn, hw⟩ := a
      refine .inr (.inl ⟨hn, ?_, fun k k1 kj hk => ?_, fun hww => by rw [hw] at hww; cases hww⟩)
      · rintro ⟨ad', e2, hC⟩
        rw [e1] at e2; cases e2
        exact hs.2.2.2.2 hC
      · obtain ⟨ad', e2, hob⟩ := hk
        rw [e1] at e2; cases e2
        have := (h.hi _ _ hob).1; have := hs.1; omega
    · obtain ⟨ad, _, _, hh⟩ := a; cases hh
  · obtain ⟨e, he, rfl⟩ := ho op hop; exact (hev e he).2.2.2.1
  · obtain ⟨e, he, rfl⟩ := ho op hop; exact .inl ((hev e he).2.2.2.2 x hx).1
  · obtain ⟨e, he, rfl⟩ := ho op hop; exact fun a hm => (hev e he).2.2.1 a (loc_of_ofEvent hm)
  · obtain ⟨e, he, rfl⟩ := ho op hop; exact .inl rfl
  · obtain ⟨r, hr⟩ := h.rel i hi hm
    exact ⟨r, rel_stands hr fun op hop hg => by obtain ⟨e, he, rfl⟩ := ho op hop; exact absurd hg (by have := idW_pos K i; simp; omega)⟩
/-- Goroutine 0 closes the channel. -/
theorem MTr.objs (h : MTr K n mu o ob sz t) (hu : ∀ op ∈ u, op.g = 0 ∧ (∀ a, op.act ≠ .mark (.release a)) ∧ op.act.low sz ∧ ∀ x, op.act.touch? = some x → ∃ b, x.loc = .obj b ∧ ¬ K.Shun (.obj b)) : MTr K n mu o ob sz (t ++ u) := by
  refine h.gen (Nat.le_refl _) (h.lt.app0 h.apart fun op hop => ?_) (fun op hop => (hu op hop).2.2.1) (fun op hop x hx => .inr (hu op hop).1) (fun op hop => (hu op hop).2.1) (fun op hop x hx => .inl (hu op hop).1) (fun i hi hm => ?_)
  · obtain ⟨h1, h2, h3, h4⟩ := hu op hop
    refine ⟨h1, h2 _, fun x hx => ?_⟩
    obtain ⟨b, e, hn⟩ := h4 x hx
    refine .inr (.inl ⟨by rw [e]; exact hn, ?_, fun k k1 kj hk => ?_, fun _ k k1 kj hk => ?_⟩)
    · rintro ⟨ad, e2, _⟩; rw [e] at e2; cases e2
    · obtain ⟨ad, e2, _⟩ := hk; rw [e] at e2; cases e2
    · obtain ⟨_, ad, e2, _⟩ := hk; rw [e] at e2; cases e2
  · obtain ⟨r, hr⟩ := h.rel i hi hm
    exact ⟨r, rel_stands hr fun op hop hg => absurd hg (by rw [(hu op hop).1]; have := idW_pos K i; omega)⟩
/-- An idle step of a worker's. -/
theorem MTr.idleW (h : MTr K n mu o ob sz t) {i : Nat} (hi : i < n) {fn : FuncId} {pos : String} {es : Array Event} {mine : List Nat} {own : Bool} (hev : ∀ e ∈ es, EvT K false mine own sz e) (hmine : ∀ b, b ∈ mine → ob b = some (idW K i)) (hown : own = true → o = some (idW K i)) (hmu : mu i = true → es = #[]) :
    MTr K n mu o ob sz (t ++ MemOp.ofEvents (idW K i) fn pos es) := by
  have ho : ∀ op ∈ MemOp.ofEvents (idW K i) fn pos es, ∃ e ∈ es, op = { g := idW K i, fn, pos, act := .ofEvent e } := fun op hop => Go.Conc.mem_ofEvents hop
  refine h.gen (Nat.le_refl _) (h.lt.appW h.apart (idW_pos K i) (idW_le hi) fun op hop => ?_) (fun op hop => ?_) (fun op hop x hx => ?_) (fun op hop => ?_) (fun op hop x hx => ?_) (fun k hk hm => ?_)
  · obtain ⟨e, he, rfl⟩ := ho op hop
    obtain ⟨h1, h2, h4, h5, h6⟩ := hev e he
    refine ⟨rfl, fun hm => h4 _ (loc_of_ofEvent hm), fun x hx => ?_⟩
    obtain ⟨hm, a | a | a | a⟩ := h6 x hx
    · exact .inl ⟨a.1, a.2.1, a.2.2 rfl⟩
    · obtain ⟨ad, e1, hh⟩ := a
      exact .inr (.inl ⟨ad, e1, hmine _ hh⟩)
    · obtain ⟨ad, e1, hs, hn, hw⟩ := a
      exact .inr (.inr (.inl ⟨⟨by unfold idW; omega, ad, e1, hs, hn⟩, hw⟩))
    · obtain ⟨ad, e1, hC, hh⟩ := a
      exact .inr (.inr (.inr ⟨⟨ad, e1, hC⟩, hown hh⟩))
  · obtain ⟨e, he, rfl⟩ := ho op hop; exact (hev e he).2.2.2.1
  · obtain ⟨e, he, rfl⟩ := ho op hop; exact .inl ((hev e he).2.2.2.2 x hx).1
  · obtain ⟨e, he, rfl⟩ := ho op hop; exact fun a hm => (hev e he).2.2.1 a (loc_of_ofEvent hm)
  · obtain ⟨e, he, rfl⟩ := ho op hop; exact .inr ⟨i, hi, rfl⟩
  · obtain ⟨r, hr⟩ := h.rel k hk hm
    refine ⟨r, rel_stands hr fun op hop hg => ?_⟩
    obtain ⟨e, he, rfl⟩ := ho op hop
    have hik : i = k := idW_inj hg
    subst hik
    rw [hmu hm] at he; simp at he
theorem bk2_cases {e : Event} (h : Bk2 K.Mu K.Wg e) : (e.loc = .mark .disable ∨ e.loc = .mark .enable) ∨ ∃ a x, e = ⟨.cell a, x, true⟩ ∧ (a.block = K.Mu ∨ a.block = K.Wg) := by
  rcases h with h | h | h
  · exact .inl (.inl h)
  · exact .inl (.inr h)
  · exact .inr h
theorem bk2_act {e : Event} (h : Bk2 K.Mu K.Wg e) (hB : K.B0 ≤ sz) : (∀ a, MemAct.ofEvent e ≠ .mark (.release a)) ∧ (MemAct.ofEvent e).low sz ∧
    ∀ x, (MemAct.ofEvent e).touch? = some x → K.Shun x.loc ∧ x.kind = .atomic ∧ x.loc.isMemory = true := by
  rcases h with h1 | h1 | ⟨a, x, rfl, ha⟩
  · rw [ofEvent_loc_mark h1]; exact ⟨by simp, trivial, fun x hx => by cases hx⟩
  · rw [ofEvent_loc_mark h1]; exact ⟨by simp, trivial, fun x hx => by cases hx⟩
  · rw [ofEvent_cell]
    refine ⟨by simp, ?_, fun y hy => ?_⟩
    · show a.block < sz
      have := K.bM; have := K.bW
      rcases ha with ha | ha <;> rw [ha] <;> omega
    · simp only [MemAct.touch?, Option.some.injEq] at hy
      subst hy
      exact ⟨ha.elim (K.sM a) (K.sW a), rfl, rfl⟩
/-- A mute worker's release stands through its own book-keeping. -/
theorem rel_book' {i r : Nat} {fn : FuncId} {pos : String} {es : Array Event} (h : RelBy (stA K.Wg) t (idW K i) r ∧ ∀ q x, r < q → t.g? q = some (idW K i) → touchAt t q = some x → K.Shun x.loc ∧ x.kind = .atomic) (hbk : ∀ e ∈ es, Bk2 K.Mu K.Wg e)
    (hto : ∀ j e, es[j]? = some e → (MemAct.ofEvent e).touch? = none ∨ 0 < deafBehind (Deaf t (idW K i)) (es.extract 0 j)) :
    RelBy (stA K.Wg) (t ++ MemOp.ofEvents (idW K i) fn pos es) (idW K i) r ∧ ∀ q x, r < q → (t ++ MemOp.ofEvents (idW K i) fn pos es).g? q = some (idW K i) → touchAt (t ++ MemOp.ofEvents (idW K i) fn pos es) q = some x → K.Shun x.loc ∧ x.kind = .atomic := by
  refine ⟨h.1.appOwn fn pos es fun j e he => ?_, fun q x hrq hg hx => ?_⟩
  · rcases hto j e he with h0 | h1
    · exact .inl h0
    · rcases hbk e (Array.mem_of_getElem? he) with h2 | h2 | ⟨a, x, rfl, _⟩
      · exact .inl (by rw [ofEvent_loc_mark h2]; rfl)
      · exact .inl (by rw [ofEvent_loc_mark h2]; rfl)
      · exact .inr ⟨⟨a, x, rfl⟩, h1⟩
  · obtain ⟨op, hop, hox⟩ := touch_of hx
    rcases getElem?_append_cases hop with ⟨hlt, hop'⟩ | ⟨_, hou⟩
    · exact h.2 q x hrq (by rw [← Go.Conc.g?_old (u := MemOp.ofEvents (idW K i) fn pos es) hlt]; exact hg) (by rw [touchAt_of hop']; exact hox)
    · obtain ⟨e, he, rfl⟩ := Go.Conc.mem_ofEvents hou
      have := (bk2_act (K := K) (sz := K.B0) (hbk e he) (Nat.le_refl _)).2.2 x hox
      exact ⟨this.1, this.2.1⟩
/-- BOOK-KEEPING, by the starter or a worker. y: who; d: how deaf it is. -/
theorem MTr.book (h : MTr K n mu o ob sz t) {y d d' : Nat} (hy : y = 0 ∨ ∃ i, i < n ∧ y = idW K i) (hd : Deaf t y = d) {fn : FuncId} {pos : String} {es : Array Event} (hb : Book K d d' es) (hmu : ∀ i, i < n → mu' i = true → mu i = true) :
    MTr K n mu' o ob sz (t ++ MemOp.ofEvents y fn pos es) ∧ Deaf (t ++ MemOp.ofEvents y fn pos es) y = d' := by
  have hs : ∀ op ∈ MemOp.ofEvents y fn pos es, ∃ e ∈ es, op = { g := y, fn, pos, act := .ofEvent e } := fun op hop => Go.Conc.mem_ofEvents hop
  constructor
  · refine h.gen (Nat.le_refl _) ?_ (fun op hop => ?_) (fun op hop x hx => ?_) (fun op hop => ?_) (fun op hop x hx => ?_) (fun k hk hm => ?_)
    · rcases hy with rfl | ⟨i, hi, rfl⟩
      · exact h.lt.app0 h.apart fun op hop => by
          obtain ⟨e, he, rfl⟩ := hs op hop
          have := bk2_act (hb.1 e he) h.B
          exact ⟨rfl, this.1 _, fun x hx => .inl ⟨(this.2.2 x hx).1, by rw [(this.2.2 x hx).2.1]; simp⟩⟩
      · exact h.lt.appW h.apart (idW_pos K i) (idW_le hi) fun op hop => by
          obtain ⟨e, he, rfl⟩ := hs op hop
          have := bk2_act (hb.1 e he) h.B
          exact ⟨rfl, this.1 _, fun x hx => .inl ⟨(this.2.2 x hx).1, by rw [(this.2.2 x hx).2.1]; simp, by rw [(this.2.2 x hx).2.1]; simp⟩⟩
    · obtain ⟨e, he, rfl⟩ := hs op hop; exact (bk2_act (hb.1 e he) h.B).2.1
    · obtain ⟨e, he, rfl⟩ := hs op hop; exact .inl (((bk2_act (hb.1 e he) h.B).2.2 x hx).2.2)
    · obtain ⟨e, he, rfl⟩ := hs op hop; exact (bk2_act (hb.1 e he) h.B).1
    · obtain ⟨e, he, rfl⟩ := hs op hop; exact hy
    · obtain ⟨r, hr⟩ := h.rel k hk (hmu k hk hm)
      by_cases e : y = idW K k
      · subst e
        exact ⟨r, rel_book' hr hb.1 (by rw [hd]; exact hb.2.2)⟩
      · exact ⟨r, rel_stands hr fun op hop hg => by obtain ⟨e', he, rfl⟩ := hs op hop; exact absurd hg e⟩
  · rw [Deaf_own, hd]; exact hb.2.1
/-- One word. -/
theorem MTr.word (h : MTr K n mu o ob sz t) {z : MemOp} {o' : Option Nat} (hlt : LT K.Shun (PrB K) (OwnB ob) (RdB K) (muA K.Mu) (t ++ #[z]) (K.base + n) o') (hn : z.act.touch? = none) (h1 : ∀ a, z.act ≠ .mark (.release a)) (hl : z.act.low sz) :
    MTr K n mu o' ob sz (t ++ #[z]) :=
  h.gen (Nat.le_refl _) hlt (fun op hop => by simp at hop; subst hop; exact hl) (fun op hop x hx => by simp at hop; subst hop; rw [hn] at hx; cases hx) (fun op hop => by simp at hop; subst hop; exact h1) (fun op hop x hx => by simp at hop; subst hop; rw [hn] at hx; cases hx)
    (fun i hi hm => let ⟨r, hr⟩ := h.rel i hi hm; ⟨r, rel_stands hr fun op hop _ => by simp at hop; subst hop; exact hn⟩)
theorem deaf_word {z : MemOp} (g : Nat) (h1 : z.act ≠ .mark .disable) (h2 : z.act ≠ .mark .enable) : Deaf (t ++ #[z]) g = Deaf t g :=
  Go.ConcN.Deaf_still t g #[z] fun op hop => by simp at hop; subst hop; exact ⟨h1, h2⟩
theorem MTr.la (h : MTr K n mu none ob sz t) {i : Nat} (hi : i < n) (hd : Deaf t (idW K i) = 0) (fn : FuncId) (pos : String) : MTr K n mu (some (idW K i)) ob sz (t ++ MemOp.ofEvents (idW K i) fn pos #[Go.ConcR.mk (.acquire (muA K.Mu))]) := by
  rw [ofEvents_mk]
  exact h.word (h.lt.acquire h.apart (z := { g := idW K i, fn, pos, act := .mark (.acquire (muA K.Mu)) }) (idW_le hi) rfl hd) rfl (by simp) (by show K.Mu < sz; have := K.bM; have := h.B; omega)
theorem MTr.ur {i : Nat} (h : MTr K n mu (some (idW K i)) ob sz t) (hi : i < n) (hd : Deaf t (idW K i) = 0) (fn : FuncId) (pos : String) : MTr K n mu none ob sz (t ++ MemOp.ofEvents (idW K i) fn pos #[Go.ConcR.mk (.releaseMerge (muA K.Mu))]) := by
  rw [ofEvents_mk]
  exact h.word (h.lt.release h.apart (y := { g := idW K i, fn, pos, act := .mark (.releaseMerge (muA K.Mu)) }) rfl rfl hd) rfl (by simp) (by show K.Mu < sz; have := K.bM; have := h.B; omega)
/-- The worker's release on the group. -/
theorem MTr.wr (h : MTr K n mu o ob sz t) {i : Nat} (hi : i < n) (hd : Deaf t (idW K i) = 0) (fn : FuncId) (pos : String) (hmu : ∀ k, k < n → mu' k = true → k = i ∨ mu k = true) : MTr K n mu' o ob sz (t ++ MemOp.ofEvents (idW K i) fn pos #[Go.ConcR.mk (.releaseMerge (stA K.Wg))]) := by
  have hnew := RelBy.new (a := stA K.Wg) hd fn pos
  have e := ofEvents_mk (idW K i) fn pos (.releaseMerge (stA K.Wg))
  have hm : ∀ op ∈ MemOp.ofEvents (idW K i) fn pos #[Go.ConcR.mk (.releaseMerge (stA K.Wg))], op = { g := idW K i, fn, pos, act := .mark (.releaseMerge (stA K.Wg)) } := fun op hop => by rw [e] at hop; simpa using hop
  refine h.gen (Nat.le_refl _) ?_ (fun op hop => ?_) (fun op hop x hx => ?_) (fun op hop => ?_) (fun op hop x hx => ?_) (fun k hk hmk => ?_)
  · rw [e]; exact h.lt.still h.apart (z := { g := idW K i, fn, pos, act := .mark (.releaseMerge (stA K.Wg)) }) (idW_le hi) rfl (by simp)
  · rw [hm op hop]; show K.Wg < sz; have := K.bW; have := h.B; omega
  · rw [hm op hop] at hx; cases hx
  · rw [hm op hop]; simp
  · rw [hm op hop] at hx; cases hx
  · by_cases hki : k = i
    · subst hki
      refine ⟨t.size, hnew, fun q x hq hg hx => ?_⟩
      obtain ⟨op, hop, hox⟩ := touch_of hx
      rcases getElem?_append_cases hop with ⟨hlt, _⟩ | ⟨_, hou⟩
      · omega
      · rw [hm op hou] at hox; cases hox
    · obtain ⟨r, hr⟩ := h.rel k hk ((hmu k hk hmk).resolve_left hki)
      exact ⟨r, rel_stands hr fun op hop _ => by rw [hm op hop]; rfl⟩
/-- A new block. -/
theorem MTr.grow (h : MTr K n mu o ob sz t) (y : Nat) : MTr K n mu o (fun b => if b = sz then some y else ob b) (sz + 1) t := by
  have none_at : ∀ q x ad, touchAt t q = some x → x.loc = .cell ad → ad.block ≠ sz := by
    intro q x ad hx hl hb
    obtain ⟨op, hop, hox⟩ := touch_of hx
    have hlow := h.seen op (Array.mem_of_getElem? hop)
    have hm := h.mem q x hx
    have : op.act.low sz → False := by
      cases ha : op.act with
      | access e =>
        rw [ha] at hox
        simp only [MemAct.touch?, Option.some.injEq] at hox
        subst hox
        intro hl'
        have hl2 : e.loc.low sz := hl'
        have hl3 : e.loc = .cell ad := hl
        rw [hl3] at hl2
        have : ad.block < sz := hl2
        omega
      | mark m =>
        rw [ha] at hox
        cases m <;> simp [MemAct.touch?] at hox
        all_goals
          subst hox
          intro hl'
          have hl3 : Loc.cell _ = Loc.cell ad := hl
          cases hl3
          have : ad.block < sz := hl'
          omega
      | _ => rw [ha] at hox; cases hox
    exact this hlow
  have key : ∀ k l, OwnB (fun b => if b = sz then some y else ob b) k l → OwnB ob k l ∨ ∀ q x, touchAt t q = some x → x.loc ≠ l := by
    rintro k l ⟨ad, rfl, hh⟩
    by_cases hb : ad.block = sz
    · exact .inr fun q x hx hl => none_at q x ad hx hl hb
    · simp only [if_neg hb] at hh
      exact .inl ⟨ad, rfl, hh⟩
  have keep : ∀ k l, OwnB ob k l → OwnB (fun b => if b = sz then some y else ob b) k l := by
    rintro k l ⟨ad, rfl, hh⟩
    have := (h.hi _ _ hh).2
    exact ⟨ad, rfl, by show (if ad.block = sz then some y else ob ad.block) = _; rw [if_neg (by omega)]; exact hh⟩
  refine ⟨⟨h.lt.quiet, fun k k1 kj l hl => ?_, h.lt.rd, fun l hs hp hl => h.lt.free l hs hp fun k k1 kj => ⟨fun ho => (hl k k1 kj).1 (keep k l ho), (hl k k1 kj).2⟩, fun l hs hp hl => h.lt.mine l hs hp fun k k1 kj ho => hl k k1 kj (keep k l ho), h.lt.tok, h.lt.norel, h.lt.nr, h.lt.gs⟩, fun b z hb => ?_, by have := h.B; omega, fun op hop => MemAct.low_mono (Nat.le_succ _) (h.seen op hop), h.mem, h.nrA, h.rel, h.who, h.over⟩
  · rcases key k l hl with ho | hn
    · exact h.lt.own k k1 kj l ho
    · exact fun q x hx e => absurd e (hn q x hx)
  · by_cases e : b = sz
    · subst e; exact ⟨h.B, Nat.lt_succ_self _⟩
    · simp only [if_neg e] at hb
      have := h.hi b z hb
      omega
theorem deaf_new (h : MTr K n mu o ob sz t) {y : Nat} (hy : K.base + n < y) : Deaf t y = 0 := Deaf_absent fun i op hi e => by have := h.lt.gs i op hi; omega
/-- A worker is started. -/
theorem MTr.fork (h : MTr K n mu o ob sz t) {x y : MemOp} (hx : x.g = 0 ∧ x.act = .go (idW K n)) (hy : y.g = idW K n ∧ y.act = .start) (h0 : Deaf t 0 = 0) (hmu : mu n = false) : MTr K (n + 1) mu o ob sz (t ++ #[x, y]) := by
  have e1 : K.base + n + 1 = idW K n := by unfold idW; omega
  have hlt := h.lt.fork h.apart (x := x) (y := y) (by rw [e1]; exact hx) (by rw [e1]; exact hy) h0
  have hm : ∀ op ∈ #[x, y], op = x ∨ op = y := by intro op hop; simpa using hop
  have hn : ∀ op ∈ #[x, y], op.act.touch? = none := fun op hop => by rcases hm op hop with rfl | rfl; rw [hx.2]; rfl; rw [hy.2]; rfl
  refine ⟨hlt, h.hi, h.B, fun op hop => ?_, fun q z hz => ?_, fun a => (h.nrA a).app fun op hop => ?_, fun i hi hmi => ?_, fun q z hz => ?_, fun q g hg hne hc => ?_⟩
  · rcases Array.mem_append.1 hop with h1 | h1
    · exact h.seen op h1
    · rcases hm op h1 with rfl | rfl
      · rw [hx.2]; trivial
      · rw [hy.2]; trivial
  · obtain ⟨op, hop, hox⟩ := touch_of hz
    rcases getElem?_append_cases hop with ⟨hl, hop'⟩ | ⟨_, hou⟩
    · exact (h.mem q z (by rw [touchAt_of hop']; exact hox)).imp id fun e => by rw [Go.Conc.g?_old hl]; exact e
    · rw [hn op hou] at hox; cases hox
  · rcases hm op hop with rfl | rfl
    · rw [hx.2]; simp
    · rw [hy.2]; simp
  · have hin : i ≠ n := fun e => by subst e; rw [hmu] at hmi; cases hmi
    obtain ⟨r, hr⟩ := h.rel i (by omega) hmi
    exact ⟨r, rel_stands hr fun op hop _ => hn op hop⟩
  · obtain ⟨op, hop, hox⟩ := touch_of hz
    rcases getElem?_append_cases hop with ⟨hl, hop'⟩ | ⟨_, hou⟩
    · rcases h.who q z (by rw [touchAt_of hop']; exact hox) with h1 | h1 | h1 | ⟨i, hi, h1⟩
      · exact .inl (by rw [Go.Conc.g?_old hl]; exact h1)
      · exact .inr (.inl (h1.app _))
      · exact .inr (.inr (.inl h1))
      · exact .inr (.inr (.inr ⟨i, by omega, by rw [Go.Conc.g?_old hl]; exact h1⟩))
    · rw [hn op hou] at hox; cases hox
  · have hc' := hc
    obtain ⟨z, hz, _⟩ := hc
    obtain ⟨op, hop, hox⟩ := touch_of hz
    rcases getElem?_append_cases hop with ⟨hl, hop'⟩ | ⟨_, hou⟩
    · rcases h.over q g (by rw [← Go.Conc.g?_old (u := #[x, y]) hl]; exact hg) hne ((counts_old hl).1 hc') with ⟨j, hj, hb⟩ | ⟨i, hi, h1⟩
      · have hjl : j < t.size := by
          unfold Trace.g? at hj
          obtain ⟨z', hz', _⟩ := Option.map_eq_some_iff.1 hj
          exact lt_size_of_getElem? hz'
        exact .inl ⟨j, by rw [Go.Conc.g?_old hjl]; exact hj, hb_app _ hb⟩
      · exact .inr ⟨i, by omega, h1⟩
    · rw [hn op hou] at hox; cases hox
/-- WHAT IS HELD BETWEEN TWO GANGS, of the trace. Fresh: places that nobody has touched. -/
structure Pq (Shun Fresh : Loc → Prop) (B : Nat) (t : Trace) : Prop where
  past : Past Shun B t
  quiet : Quiet Shun t
  mem : ∀ q x, touchAt t q = some x → x.loc.isMemory = true ∨ t.g? q = some 0
  nrA : ∀ a, NoRelease a t
  fresh : ∀ q x, touchAt t q = some x → ¬ Fresh x.loc
/-- THE GANG's BEGINNING. -/
theorem MTr.start {Shun : Loc → Prop} {B : Nat} (h : Pq Shun (fun l => ∃ ad, l = .cell ad ∧ (ad.block = K.Mu ∨ ad.block = K.Wg ∨ ad.block = K.C)) B t) (hS : ∀ l, K.Shun l ↔ (Shun l ∨ ∃ ad, l = .cell ad ∧ (ad.block = K.Mu ∨ ad.block = K.Wg))) (hB : B ≤ sz) (hB0 : K.B0 ≤ sz) (hg : ∀ op ∈ t, op.g ≤ K.base) (mu : Nat → Bool) : MTr K 0 mu none (fun _ => none) sz t := by
  refine ⟨⟨fun i op x hi hx hs => ?_, fun k k1 kj l hl => ?_, fun k k1 kj l hl => ?_, fun l hs hp _ i x hx e => ?_, fun l hs hp _ i x hx e _ => ?_, fun l hl i x hx e => ?_, h.nrA _, h.past.clean, fun i op hi => hg op (Array.mem_of_getElem? hi)⟩, fun b y hb => (by cases hb), hB0, fun op hop => MemAct.low_mono hB (h.past.seen op hop), h.mem, h.nrA, fun i hi => absurd hi (Nat.not_lt_zero _), fun q x hx => ?_, fun q g hgq hne hc => .inl (h.past.over q g hgq hne hc)⟩
  · rcases (hS _).1 hs with h1 | ⟨ad, e, h1⟩
    · exact h.quiet i op x hi hx h1
    · exact absurd ⟨ad, e, h1.elim .inl fun h2 => .inr (.inl h2)⟩ (h.fresh i x (by rw [touchAt_of hi]; exact hx))
  · obtain ⟨ad, _, hh⟩ := hl; cases hh
  · have := hl.1; omega
  · rcases h.mem i x hx with hm | hm
    · rcases h.past.known i x hx hm with h1 | ⟨h1, _⟩
      · exact h1
      · exact absurd ((hS _).2 (.inl (e ▸ h1))) hs
    · obtain ⟨z, hz, hz0⟩ := Option.map_eq_some_iff.1 hm
      have := knows_own hz
      rw [hz0] at this; exact this
  · rcases h.mem i x hx with hm | hm
    · rcases h.past.known i x hx hm with h1 | ⟨h1, _⟩
      · exact h1
      · exact absurd ((hS _).2 (.inl (e ▸ h1))) hs
    · obtain ⟨z, hz, hz0⟩ := Option.map_eq_some_iff.1 hm
      have := knows_own hz
      rw [hz0] at this; exact this
  · obtain ⟨ad, hl', hC⟩ := hl
    exact absurd ⟨ad, e.trans hl', .inr (.inr hC)⟩ (h.fresh i x hx)
  · rcases h.mem q x hx with hm | hm
    · rcases h.past.known q x hx hm with h1 | ⟨h1, h2⟩
      · exact .inr (.inl h1)
      · exact .inr (.inr (.inl ⟨(hS _).2 (.inl h1), h2⟩))
    · exact .inl hm
/-- ████ THE JOIN. ████ -/
theorem MTr.join (h : MTr K n mu o ob sz t) (hall : ∀ i, i < n → mu i = true) (h0 : Deaf t 0 = 0) (fn : FuncId) (pos : String) :
    Past K.Shun sz (t ++ MemOp.ofEvents 0 fn pos #[Go.ConcR.mk (.acquire (stA K.Wg))]) ∧ Quiet K.Shun (t ++ MemOp.ofEvents 0 fn pos #[Go.ConcR.mk (.acquire (stA K.Wg))]) ∧ (∀ q x, touchAt (t ++ MemOp.ofEvents 0 fn pos #[Go.ConcR.mk (.acquire (stA K.Wg))]) q = some x → x.loc.isMemory = true ∨ (t ++ MemOp.ofEvents 0 fn pos #[Go.ConcR.mk (.acquire (stA K.Wg))]).g? q = some 0) ∧ (∀ a, NoRelease a (t ++ MemOp.ofEvents 0 fn pos #[Go.ConcR.mk (.acquire (stA K.Wg))])) ∧
      (∀ op ∈ t ++ MemOp.ofEvents 0 fn pos #[Go.ConcR.mk (.acquire (stA K.Wg))], op.g ≤ K.base + n) := by
  rw [ofEvents_mk]
  obtain ⟨z, hz⟩ : ∃ z : MemOp, ({ g := 0, fn, pos, act := .mark (.acquire (stA K.Wg)) } : MemOp) = z := ⟨_, rfl⟩
  have hz0 : z.g = 0 := by rw [← hz]
  have hza : z.act = .mark (.acquire (stA K.Wg)) := by rw [← hz]
  have hzn : z.act.touch? = none := by rw [hza]; rfl
  rw [hz]
  have hw := h.word (z := z) (h.lt.still h.apart (by rw [hz0]; exact Nat.zero_le _) hzn (by rw [hza]; simp)) hzn (by rw [hza]; simp) (by rw [hza]; show K.Wg < sz; have := K.bW; have := h.B; omega)
  have hq : (t ++ #[z])[t.size]? = some z := by simp
  have hheard : (t ++ #[z]).heard t.size := ⟨0, by simp [Trace.g?, hz0], by rw [deaf_old (Nat.le_refl _)]; exact h0⟩
  have edge : ∀ i, i < n → ∃ r, r < t.size ∧ HappensBefore (t ++ #[z]) r t.size ∧ t.g? r = some (idW K i) ∧ (∀ q, r < q → t.g? q = some (idW K i) → ¬ t.counts q) ∧ ∀ q x, r < q → t.g? q = some (idW K i) → touchAt t q = some x → K.Shun x.loc ∧ x.kind = .atomic := by
    intro i hi
    obtain ⟨r, hr, hat⟩ := h.rel i hi (hall i hi)
    have hlt := lt_of_act? hr.act
    refine ⟨r, hlt, ?_, hr.g, hr.after, hat⟩
    exact .single (.inr ⟨.marked hlt (.inr (by rw [act?_old hlt]; exact hr.act)) (by rw [act?_of hq, hza]) (fun k _ _ => hw.nrA _ k), (heard_old hlt).2 hr.heard, hheard⟩)
  have known : ∀ i q r, t.g? q = some (idW K i) → t.g? r = some (idW K i) → q ≤ r → r < t.size → HappensBefore (t ++ #[z]) r t.size → HappensBefore (t ++ #[z]) q t.size := by
    intro i q r hgq hgr hle hr he
    rcases Nat.lt_or_ge q r with hlt | hge
    · have hql : q < t.size := by omega
      exact .trans (.single (.inl ⟨hlt, idW K i, by rw [Go.Conc.g?_old hql]; exact hgq, by rw [Go.Conc.g?_old hr]; exact hgr⟩)) he
    · obtain rfl : q = r := by omega
      exact he
  refine ⟨⟨hw.lt.nr, fun q x hx hm => ?_, fun q g hg hne hc => ?_, ?_, hw.seen⟩, hw.lt.quiet, hw.mem, hw.nrA, fun op hop => ?_⟩
  · rcases hw.who q x hx with h1 | h1 | h1 | ⟨i, hi, h1⟩
    · obtain ⟨op, hop, e⟩ := Option.map_eq_some_iff.1 h1
      have := knows_own hop
      rw [e] at this
      exact .inl this
    · exact .inl h1
    · exact .inr h1
    · obtain ⟨op, hop, hox⟩ := touch_of hx
      rcases getElem?_append_cases hop with ⟨hl, hop'⟩ | ⟨_, hou⟩
      · obtain ⟨r, hr, he, hgr, _, hat⟩ := edge i hi
        have hgq : t.g? q = some (idW K i) := by rw [← Go.Conc.g?_old (u := #[z]) hl]; exact h1
        rcases Nat.lt_or_ge r q with hlt | hge
        · exact .inr (hat q x hlt hgq (by rw [touchAt_of hop']; exact hox))
        · exact .inl ⟨t.size, z, hq, hz0, .inr (known i q r hgq hgr hge hr he)⟩
      · simp at hou; subst hou; rw [hzn] at hox; cases hox
  · rcases hw.over q g hg hne hc with h1 | ⟨i, hi, rfl⟩
    · exact h1
    · have hc' := hc
      obtain ⟨x, hx, _⟩ := hc
      obtain ⟨op, hop, hox⟩ := touch_of hx
      rcases getElem?_append_cases hop with ⟨hl, hop'⟩ | ⟨_, hou⟩
      · obtain ⟨r, hr, he, hgr, hafter, _⟩ := edge i hi
        have hgq : t.g? q = some (idW K i) := by rw [← Go.Conc.g?_old (u := #[z]) hl]; exact hg
        have hge : q ≤ r := Nat.le_of_not_lt fun hlt => hafter q hlt hgq ((counts_old hl).1 hc')
        exact ⟨t.size, by simp [Trace.g?, hz0], known i q r hgq hgr hge hr he⟩
      · simp at hou; subst hou; rw [hzn] at hox; cases hox
  · rw [deaf_word 0 (by rw [hza]; simp) (by rw [hza]; simp)]; exact h0
  · obtain ⟨i, hi⟩ := Array.mem_iff_getElem?.1 hop
    exact hw.lt.gs i op hi
end
end Go.Proofs.Ytapjmifhhbpikaa

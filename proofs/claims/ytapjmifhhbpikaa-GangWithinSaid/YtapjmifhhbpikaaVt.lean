/- Gangs within gangs: the trace of all of them. -/
import Derived.Conc.CrowdBase
import Derived.Conc.Beside
set_option linter.unusedVariables false
set_option linter.unusedSimpArgs false
namespace Go.Proofs.Ytapjmifhhbpikaa
open Go.Conc Go.ConcN
/-- WHAT A BLOCK IS to the trace. A gang bears its starter's number. -/
inductive Cls where
  | own (y : Nat)
  | lent (c : Nat)
  | row (c : Nat)
  | sh (c : Nat)
  | chan (c : Nat)
  | old
def locB : Loc → Option Nat
  | .cell a => some a.block
  | .obj b => some b
  | _ => none
theorem locB_mem {l : Loc} (h : l.isMemory = true) : ∃ b, locB l = some b := by
  cases l <;> simp_all [locB, Loc.isMemory]
theorem mem_locB {l : Loc} {b : Nat} (h : locB l = some b) : l.isMemory = true := by
  cases l <;> simp_all [locB, Loc.isMemory]
/-- ALL GANGS, as the trace sees them. -/
structure TG where
  sz : Nat
  cl : Nat → Cls
  act : Nat → Prop
  wk : Nat → Nat → Prop
  mute : Nat → Prop
  rl : Nat → Nat
  tok : Nat → Option Nat
  mA : Nat → Addr
  wA : Nat → Addr
namespace TG
variable (S : TG)
def shish (l : Loc) : Prop := ∃ b, locB l = some b ∧ ((∃ c, S.cl b = .sh c) ∨ S.cl b = .old)
def mem (c z : Nat) : Prop := z = c ∨ S.wk c z
def memL (c z : Nat) : Prop := z = c ∨ (S.wk c z ∧ ¬ S.mute z)
def heavy (t : Trace) (q : Nat) : Prop := ∃ x, touchAt t q = some x ∧ x.loc.isMemory = true ∧ (¬ (S.shish x.loc ∧ x.kind = .atomic) ∨ t.heard q)
def heldG (t : Trace) (c q : Nat) : Prop := Knows t c q ∨ ∃ z, S.wk c z ∧ ((¬ S.mute z ∧ Knows t z q) ∨ (S.mute z ∧ Before t q (S.rl z)))
/-- What is held of a touch, by its place. -/
def clOk (t : Trace) (q : Nat) (x : Touch) : Cls → Prop
  | .own y => Knows t y q
  | .lent c => S.heldG t c q ∧ (x.write = true → ∀ z, S.mem c z → Knows t z q)
  | .row c => S.heldG t c q ∧ (∀ z, S.tok c = some z → Knows t z q) ∧ (S.tok c = none → (∀ z, S.mem c z → Knows t z q) ∨ ∃ p, t.act? p = some (.mark (.releaseMerge (S.mA c))) ∧ t.heard p ∧ Before t q p)
  | .sh c => (x.kind ≠ .plain ∧ (x.kind = .said → t.g? q = some c)) ∨ ∀ z, S.mem c z → Knows t z q
  | .chan c => Knows t c q
  | .old => True
/-- What y may touch. -/
def opCl (y : Nat) (x : Touch) : Cls → Prop
  | .own y' => y' = y
  | .lent c => S.memL c y ∧ x.write = false
  | .row c => S.memL c y ∧ S.tok c = some y
  | .sh c => S.mem c y ∧ x.kind ≠ .plain ∧ (x.kind = .said → y = c)
  | .chan c => y = c
  | .old => False
def touchOk (y : Nat) (x : Touch) : Prop := x.loc.isMemory = false ∨ ∃ b, locB x.loc = some b ∧ S.opCl y x (S.cl b)
end TG
/-- ████ THE TRACE OF ALL GANGS. ████ -/
structure TR (S : TG) (t : Trace) (ng : Nat) : Prop where
  cls : ∀ q x b, touchAt t q = some x → locB x.loc = some b → S.clOk t q x (S.cl b)
  held : ∀ q, S.heavy t q → ∃ c, S.act c ∧ S.heldG t c q
  rel : ∀ c z, S.wk c z → S.mute z → t.act? (S.rl z) = some (.mark (.releaseMerge (S.wA c))) ∧ t.g? (S.rl z) = some z ∧ t.heard (S.rl z)
  idle : ∀ c, ¬ S.act c → (∀ z, ¬ S.wk c z) ∧ ∀ b, S.cl b ≠ .lent c ∧ S.cl b ≠ .row c ∧ S.cl b ≠ .sh c ∧ S.cl b ≠ .chan c
  nr : ∀ said, ¬ Race said t
  nrA : ∀ a, NoRelease a t
  seen : ∀ op ∈ t, op.act.low S.sz
  gs : ∀ op ∈ t, op.g < ng
section
variable {S : TG} {t u : Trace} {ng : Nat}
theorem TG.memL.mem {S : TG} {c z : Nat} (h : S.memL c z) : S.mem c z := h.imp id fun h => h.1
theorem TG.heldG.app {c q : Nat} (h : S.heldG t c q) (u : Trace) : S.heldG (t ++ u) c q :=
  h.imp (·.app u) fun ⟨z, hz, hh⟩ => ⟨z, hz, hh.imp (fun a => ⟨a.1, a.2.app u⟩) fun a => ⟨a.1, a.2.app u⟩⟩
theorem TG.clOk.app {q : Nat} {x : Touch} {κ : Cls} (h : S.clOk t q x κ) (hq : q < t.size) (u : Trace) : S.clOk (t ++ u) q x κ := by
  cases κ with
  | own y => exact Knows.app u h
  | lent c => exact ⟨h.1.app u, fun hw z hz => (h.2 hw z hz).app u⟩
  | row c =>
    refine ⟨h.1.app u, fun z hz => (h.2.1 z hz).app u, fun hn => ?_⟩
    rcases h.2.2 hn with h1 | ⟨p, h1, h2, h3⟩
    · exact .inl fun z hz => (h1 z hz).app u
    · have hp := lt_of_act? h1
      exact .inr ⟨p, by rw [act?_old hp]; exact h1, (heard_old hp).2 h2, h3.app u⟩
  | sh c =>
    rcases h with h | h
    · exact .inl ⟨h.1, fun hs => by rw [Go.Conc.g?_old hq]; exact h.2 hs⟩
    · exact .inr fun z hz => (h z hz).app u
  | chan c => exact Knows.app u h
  | old => trivial
theorem touchAt_lt {q : Nat} {x : Touch} (h : touchAt t q = some x) : q < t.size := by
  obtain ⟨op, hop, _⟩ := touch_of h
  exact lt_size_of_getElem? hop
/-- A touch of the longer trace is old, or one of the new. -/
theorem touch_app {q : Nat} {x : Touch} (h : touchAt (t ++ u) q = some x) : (q < t.size ∧ touchAt t q = some x) ∨ (t.size ≤ q ∧ ∃ op ∈ u, (t ++ u)[q]? = some op ∧ op.act.touch? = some x) := by
  obtain ⟨op, hop, hox⟩ := touch_of h
  rcases getElem?_append_cases hop with ⟨hl, hop'⟩ | ⟨hge, hou⟩
  · exact .inl ⟨hl, by rw [touchAt_of hop']; exact hox⟩
  · exact .inr ⟨hge, op, hou, hop, hox⟩
theorem heavy_old {q : Nat} (hq : q < t.size) (h : S.heavy (t ++ u) q) : S.heavy t q := by
  obtain ⟨x, hx, hm, hh⟩ := h
  exact ⟨x, by rw [← touchAt_old (u := u) hq]; exact hx, hm, hh.imp id (heard_old hq).1⟩
theorem TR.mono {ng' : Nat} (h : TR S t ng) (hn : ng ≤ ng') : TR S t ng' := ⟨h.cls, h.held, h.rel, h.idle, h.nr, h.nrA, h.seen, fun op hop => Nat.lt_of_lt_of_le (h.gs op hop) hn⟩
/-- ████ y DOES SOMETHING. ████ -/
theorem TR.ops (h : TR S t ng) {y : Nat} (hy : y < ng) (hu : ∀ op ∈ u, op.g = y ∧ op.act.low S.sz ∧ (∀ a, op.act ≠ .mark (.release a)) ∧ ∀ x, op.act.touch? = some x → S.touchOk y x)
    (hl : ∀ q, t.size ≤ q → S.heavy (t ++ u) q → ∃ c, S.act c ∧ S.memL c y) : TR S (t ++ u) ng := by
  have hown : ∀ {q op}, (t ++ u)[q]? = some op → op ∈ u → Knows (t ++ u) y q := fun hq hop => by
    have := knows_own hq
    rwa [(hu _ hop).1] at this
  have heldOf : ∀ {c q}, S.memL c y → Knows (t ++ u) y q → S.heldG (t ++ u) c q := fun hm hk => by
    rcases hm with rfl | ⟨h1, h2⟩
    · exact .inl hk
    · exact .inr ⟨y, h1, .inl ⟨h2, hk⟩⟩
  refine ⟨fun q x b hx hb => ?_, fun q hq => ?_, fun c z hz hm => ?_, h.idle, fun said => ?_, fun a => (h.nrA a).app fun op hop => (hu op hop).2.2.1 a, fun op hop => ?_, fun op hop => ?_⟩
  · rcases touch_app hx with ⟨hlt, hx'⟩ | ⟨hge, op, hop, hq, hox⟩
    · exact (h.cls q x b hx' hb).app hlt u
    · have hk := hown hq hop
      rcases (hu op hop).2.2.2 x hox with hm | ⟨b', hb', ho⟩
      · rw [mem_locB hb] at hm; cases hm
      · rw [hb] at hb'; cases hb'
        cases hκ : S.cl b with
        | own y' => rw [hκ] at ho; cases ho; exact hk
        | lent c => rw [hκ] at ho; exact ⟨heldOf ho.1 hk, fun hw => by rw [ho.2] at hw; cases hw⟩
        | row c => rw [hκ] at ho; exact ⟨heldOf ho.1 hk, fun z hz => by rw [ho.2] at hz; cases hz; exact hk, fun hn => by rw [ho.2] at hn; cases hn⟩
        | sh c => 
          rw [hκ] at ho
          refine .inl ⟨ho.2.1, fun hs => ?_⟩
          have e : (t ++ u).g? q = some op.g := by simp [Trace.g?, hq]
          rw [e, (hu op hop).1, ho.2.2 hs]
        | chan c => rw [hκ] at ho; have e : y = c := ho; exact e ▸ hk
        | old => trivial
  · rcases Nat.lt_or_ge q t.size with hlt | hge
    · obtain ⟨c, hc, hh⟩ := h.held q (heavy_old hlt hq)
      exact ⟨c, hc, hh.app u⟩
    · obtain ⟨c, hc, hm⟩ := hl q hge hq
      obtain ⟨x, hx, _⟩ := hq
      rcases touch_app hx with ⟨hlt, _⟩ | ⟨_, op, hop, hq, hox⟩
      · omega
      · exact ⟨c, hc, heldOf hm (hown hq hop)⟩
  · obtain ⟨h1, h2, h3⟩ := h.rel c z hz hm
    have hp := lt_of_act? h1
    exact ⟨by rw [act?_old hp]; exact h1, by rw [Go.Conc.g?_old hp]; exact h2, (heard_old hp).2 h3⟩
  · refine noRace_append (h.nr said) (fun op hop => (hu op hop).1) fun i a ha op hop b hb hc => ?_
    obtain ⟨hloc, hmem, hwr, hk⟩ := hc
    rcases (hu op hop).2.2.2 b hb with hm | ⟨blk, hblk, ho⟩
    · rw [← hloc, hmem] at hm; cases hm
    · have hcl := h.cls i a blk ha (by rw [hloc]; exact hblk)
      cases hκ : S.cl blk with
      | own y' => rw [hκ] at ho hcl; cases ho; exact hcl
      | lent c => rw [hκ] at ho hcl; exact hcl.2 (hwr.resolve_right (by rw [ho.2]; simp)) y ho.1.mem
      | row c => rw [hκ] at ho hcl; exact hcl.2.1 y ho.2
      | sh c =>
        rw [hκ] at ho hcl
        rcases hcl with ⟨h1, h2⟩ | h1
        · rcases hk with e | e | ⟨_, e1, e2⟩
          · exact absurd e h1
          · exact absurd e ho.2.1
          · obtain ⟨op', hop', e⟩ := Option.map_eq_some_iff.1 (h2 e1)
            have := knows_own hop'
            rw [e, ← ho.2.2 e2] at this
            exact this
        · exact h1 y ho.1
      | chan c => rw [hκ] at ho hcl; have e : y = c := ho; exact e ▸ hcl
      | old => rw [hκ] at ho; exact ho.elim
  · rcases Array.mem_append.1 hop with h1 | h1
    · exact h.seen op h1
    · exact (hu op h1).2.1
  · rcases Array.mem_append.1 hop with h1 | h1
    · exact h.gs op h1
    · rw [(hu op h1).1]; exact hy
/-- Operations that touch nothing, whosoever. -/
theorem TR.stills1 (h : TR S t ng) {z : MemOp} (hy : z.g < ng) (hl : z.act.low S.sz) (hr : ∀ a, z.act ≠ .mark (.release a)) (hn : z.act.touch? = none) : TR S (t ++ #[z]) ng := by
  refine h.ops (y := z.g) hy (fun op hop => ?_) fun q hq hh => ?_
  · simp at hop; subst hop
    exact ⟨rfl, hl, hr, fun x hx => by rw [hn] at hx; cases hx⟩
  · obtain ⟨x, hx, _⟩ := hh
    rcases touch_app hx with ⟨hlt, _⟩ | ⟨_, op, hop, _, hox⟩
    · omega
    · simp at hop; subst hop; rw [hn] at hox; cases hox
theorem TR.stills : ∀ (l : List MemOp) {t : Trace}, TR S t ng → (∀ z ∈ l, z.g < ng ∧ z.act.low S.sz ∧ (∀ a, z.act ≠ .mark (.release a)) ∧ z.act.touch? = none) → TR S (t ++ l.toArray) ng
  | [], t, h, _ => by simpa using h
  | z :: l, t, h, hl => by
    have hz := hl z (by simp)
    have := TR.stills l (h.stills1 hz.1 hz.2.1 hz.2.2.1 hz.2.2.2) (fun y hy => hl y (by simp [hy]))
    have e : t ++ (z :: l).toArray = (t ++ #[z]) ++ l.toArray := by simp
    rw [e]; exact this
theorem TR.still (h : TR S t ng) (hu : ∀ z ∈ u, z.g < ng ∧ z.act.low S.sz ∧ (∀ a, z.act ≠ .mark (.release a)) ∧ z.act.touch? = none) : TR S (t ++ u) ng := by
  have := TR.stills u.toList h (fun z hz => hu z (by simpa using hz))
  simpa using this
/-- What is last is heard. -/
theorem last_of {z : MemOp} : (t ++ #[z])[t.size]? = some z := by simp
theorem heard_last {z : MemOp} (hd : Deaf t z.g = 0) : (t ++ #[z]).heard t.size := ⟨z.g, by simp [Trace.g?], by rw [deaf_old (Nat.le_refl _)]; exact hd⟩
/-- Behind an acquire all is known that stood before a release on that address. -/
theorem know_acq {z : MemOp} {a : Addr} (hd : Deaf t z.g = 0) (hza : z.act = .mark (.acquire a)) (hn : NoRelease a t) {p : Nat} (hp : t.act? p = some (.mark (.releaseMerge a))) (hh : t.heard p) : Knows (t ++ #[z]) z.g p := by
  have hlt := lt_of_act? hp
  refine ⟨t.size, z, last_of, rfl, .inr (.single (.inr ⟨.marked hlt (.inr (by rw [act?_old hlt]; exact hp)) (by rw [act?_of last_of, hza]) (fun k _ hk => by rw [act?_old hk]; exact hn k), (heard_old hlt).2 hh, heard_last hd⟩))⟩
/-- THE LOCK IS TAKEN. -/
theorem TR.acq (h : TR S t ng) {c : Nat} {z : MemOp} (hy : z.g < ng) (hm : S.memL c z.g) (hd : Deaf t z.g = 0) (hno : S.tok c = none) (hza : z.act = .mark (.acquire (S.mA c))) (hl : (S.mA c).block < S.sz) :
    TR { S with tok := upd S.tok c (some z.g) } (t ++ #[z]) ng := by
  have h1 : TR S (t ++ #[z]) ng := h.stills1 hy (by rw [hza]; exact hl) (by rw [hza]; simp) (by rw [hza]; rfl)
  refine ⟨fun q x b hx hb => ?_, h1.held, h1.rel, h1.idle, h1.nr, h1.nrA, h1.seen, h1.gs⟩
  have h2 := h1.cls q x b hx hb
  show TG.clOk _ _ _ _ (S.cl b)
  cases hκ : S.cl b with
  | row c' =>
    rw [hκ] at h2
    by_cases e : c' = c
    · subst e
      refine ⟨h2.1, fun z' hz' => ?_, fun hn => by simp [upd_same] at hn⟩
      have e : z.g = z' := by simpa [upd_same] using hz'
      subst e
      rcases touch_app hx with ⟨hlt, hx'⟩ | ⟨_, op, hop, _, hox⟩
      · have h3 := h.cls q x b hx' hb
        rw [hκ] at h3
        rcases h3.2.2 hno with h4 | ⟨p, p1, p2, p3⟩
        · exact (h4 _ hm.mem).app _
        · exact Knows.of_before (p3.app _) (know_acq hd hza (h.nrA _) p1 p2)
      · simp at hop; subst hop; rw [hza] at hox; cases hox
    · refine ⟨h2.1, fun z' hz' => h2.2.1 z' (by simpa [upd_ne _ _ e] using hz'), fun hn => h2.2.2 (by simpa [upd_ne _ _ e] using hn)⟩
  | _ => rw [hκ] at h2; exact h2
/-- THE LOCK IS LEFT. -/
theorem TR.unlock (h : TR S t ng) {c : Nat} {z : MemOp} (hy : z.g < ng) (hd : Deaf t z.g = 0) (ho : S.tok c = some z.g) (hza : z.act = .mark (.releaseMerge (S.mA c))) (hl : (S.mA c).block < S.sz) :
    TR { S with tok := upd S.tok c none } (t ++ #[z]) ng := by
  have h1 : TR S (t ++ #[z]) ng := h.stills1 hy (by rw [hza]; exact hl) (by rw [hza]; simp) (by rw [hza]; rfl)
  refine ⟨fun q x b hx hb => ?_, h1.held, h1.rel, h1.idle, h1.nr, h1.nrA, h1.seen, h1.gs⟩
  have h2 := h1.cls q x b hx hb
  show TG.clOk _ _ _ _ (S.cl b)
  cases hκ : S.cl b with
  | row c' =>
    rw [hκ] at h2
    by_cases e : c' = c
    · subst e
      refine ⟨h2.1, fun z' hz' => by simp [upd_same] at hz', fun _ => ?_⟩
      rcases touch_app hx with ⟨hlt, hx'⟩ | ⟨_, op, hop, _, hox⟩
      · have h3 := h.cls q x b hx' hb
        rw [hκ] at h3
        exact .inr ⟨t.size, by rw [act?_of last_of, hza], heard_last hd, .inr ((h3.2.1 _ ho).hb_new (Nat.le_refl _) last_of rfl)⟩
      · simp at hop; subst hop; rw [hza] at hox; cases hox
    · refine ⟨h2.1, fun z' hz' => h2.2.1 z' (by simpa [upd_ne _ _ e] using hz'), fun hn => h2.2.2 (by simpa [upd_ne _ _ e] using hn)⟩
  | _ => rw [hκ] at h2; exact h2
/-- The group's word: the release. -/
def TG.hush (S : TG) (y r : Nat) : TG := { S with mute := fun z => S.mute z ∨ z = y, rl := upd S.rl y r }
theorem TR.wrel (h : TR S t ng) {c : Nat} {z : MemOp} (hy : z.g < ng) (hw : S.wk c z.g) (hm : ¬ S.mute z.g) (hone : ∀ c', S.wk c' z.g → c' = c) (hd : Deaf t z.g = 0) (hza : z.act = .mark (.releaseMerge (S.wA c))) (hl : (S.wA c).block < S.sz) :
    TR (S.hush z.g t.size) (t ++ #[z]) ng := by
  have h1 : TR S (t ++ #[z]) ng := h.stills1 hy (by rw [hza]; exact hl) (by rw [hza]; simp) (by rw [hza]; rfl)
  have hn : ∀ {q x}, touchAt (t ++ #[z]) q = some x → q < t.size ∧ touchAt t q = some x := fun hx => by
    rcases touch_app hx with a | ⟨_, op, hop, _, hox⟩
    · exact a
    · simp at hop; subst hop; rw [hza] at hox; cases hox
  have hH : ∀ {c' q}, S.heldG t c' q → (S.hush z.g t.size).heldG (t ++ #[z]) c' q := fun {c' q} hh => by
    rcases hh with h2 | ⟨z', hz', ⟨hm', hk⟩ | ⟨hm', hb⟩⟩
    · exact .inl (h2.app _)
    · by_cases e : z' = z.g
      · subst e
        refine .inr ⟨_, hz', .inr ⟨.inr rfl, ?_⟩⟩
        show Before _ q (upd S.rl z.g t.size z.g)
        rw [upd_same]
        exact .inr (hk.hb_new (Nat.le_refl _) last_of rfl)
      · exact .inr ⟨z', hz', .inl ⟨fun hh => hh.elim hm' e, hk.app _⟩⟩
    · have e : z' ≠ z.g := fun e => hm (e ▸ hm')
      refine .inr ⟨z', hz', .inr ⟨.inl hm', ?_⟩⟩
      show Before _ q (upd S.rl z.g t.size z')
      rw [upd_ne _ _ e]
      exact hb.app _
  refine ⟨fun q x b hx hb => ?_, fun q hq => ?_, fun c' z' hz' hm' => ?_, h1.idle, h1.nr, h1.nrA, h1.seen, h1.gs⟩
  · obtain ⟨hlt, hx'⟩ := hn hx
    have h2 := h.cls q x b hx' hb
    have h3 := h2.app hlt #[z]
    show TG.clOk _ _ _ _ (S.cl b)
    cases hκ : S.cl b with
    | lent c' => rw [hκ] at h2 h3; exact ⟨hH h2.1, h3.2⟩
    | row c' => rw [hκ] at h2 h3; exact ⟨hH h2.1, h3.2⟩
    | _ => rw [hκ] at h3; exact h3
  · obtain ⟨x, hx, hh⟩ := hq
    obtain ⟨hlt, hx'⟩ := hn hx
    obtain ⟨c', hc', h2⟩ := h.held q ⟨x, hx', hh.1, hh.2.imp id (heard_old hlt).1⟩
    exact ⟨c', hc', hH h2⟩
  · show Trace.act? _ _ = some (MemAct.mark (.releaseMerge (S.wA c'))) ∧ _
    by_cases e : z' = z.g
    · subst e
      obtain rfl := hone c' hz'
      have e1 : (S.hush z.g t.size).rl z.g = t.size := upd_same _ _ _
      rw [e1]
      exact ⟨by rw [act?_of last_of, hza], by simp [Trace.g?], heard_last hd⟩
    · have e1 : (S.hush z.g t.size).rl z' = S.rl z' := upd_ne _ _ e
      rw [e1]
      exact h1.rel c' z' hz' (hm'.resolve_right e)
/-- ALL THAT THE STARTER KNOWS ITS CHILD KNOWS. -/
theorem fork_knows' {c k : Nat} {x y : MemOp} (hx : x.g = c ∧ x.act = .go k) (hy : y.g = k ∧ y.act = .start) (h0 : Deaf t c = 0) (hk : Deaf t k = 0) (hck : c ≠ k) {i : Nat} (h : Knows t c i) : Knows (t ++ #[x, y]) k i := by
  have hxp : (t ++ #[x, y])[t.size]? = some x := by rw [Array.getElem?_append_right (Nat.le_refl _)]; simp
  have hyp : (t ++ #[x, y])[t.size + 1]? = some y := by rw [Array.getElem?_append_right (by omega)]; simp
  have h1 : HappensBefore (t ++ #[x, y]) i t.size := h.hb_new (Nat.le_refl _) hxp hx.1
  have e0 : (t ++ #[x, y]).heard t.size := ⟨c, by simp [Trace.g?, hx.1], by rw [deaf_old (Nat.le_refl _)]; exact h0⟩
  have e1 : (t ++ #[x, y]).heard (t.size + 1) := ⟨k, by simp [Trace.g?, hy.1], by rw [deaf_succ hxp, deaf_old (Nat.le_refl _)]; simp only [deafStep, hx.2]; exact hk⟩
  exact ⟨t.size + 1, y, hyp, hy.1, .inr (h1.trans (.single (.inr ⟨.spawn (child := k) (by rw [act?_of hxp, hx.2]) (by rw [act?_of hyp, hy.2]) (by simp [Trace.g?, hy.1]), e0, e1⟩)))⟩
theorem TR.deaf_new (h : TR S t ng) {y : Nat} (hy : ng ≤ y) : Deaf t y = 0 := Deaf_absent fun i op hi e => by have := h.gs op (Array.mem_of_getElem? hi); omega
def TG.born (S : TG) (c k : Nat) : TG := { S with wk := fun c' z => S.wk c' z ∨ (c' = c ∧ z = k) }
/-- A WORKER IS STARTED. -/
theorem TR.fork (h : TR S t ng) {c : Nat} {x y : MemOp} (hc : c < ng) (hx : x.g = c ∧ x.act = .go ng) (hy : y.g = ng ∧ y.act = .start) (h0 : Deaf t c = 0) (ha : S.act c) (hm : ¬ S.mute ng) : TR (S.born c ng) (t ++ #[x, y]) (ng + 1) := by
  have hmm : ∀ op ∈ #[x, y], op = x ∨ op = y := by intro op hop; simpa using hop
  have h1 : TR S (t ++ #[x, y]) (ng + 1) := (h.mono (Nat.le_succ _)).still fun op hop => by
    rcases hmm op hop with rfl | rfl
    · exact ⟨by rw [hx.1]; omega, by rw [hx.2]; trivial, by rw [hx.2]; simp, by rw [hx.2]; rfl⟩
    · exact ⟨by rw [hy.1]; omega, by rw [hy.2]; trivial, by rw [hy.2]; simp, by rw [hy.2]; rfl⟩
  have hn : ∀ {q x'}, touchAt (t ++ #[x, y]) q = some x' → q < t.size ∧ touchAt t q = some x' := fun hxq => by
    rcases touch_app hxq with a | ⟨_, op, hop, _, hox⟩
    · exact a
    · rcases hmm op hop with rfl | rfl
      · rw [hx.2] at hox; cases hox
      · rw [hy.2] at hox; cases hox
  have hkn : ∀ {q}, Knows t c q → Knows (t ++ #[x, y]) ng q := fun hq => fork_knows' hx hy h0 (h.deaf_new (Nat.le_refl _)) (by omega) hq
  have hH : ∀ {c' q}, S.heldG (t ++ #[x, y]) c' q → (S.born c ng).heldG (t ++ #[x, y]) c' q := fun hh => hh.imp id fun ⟨z, hz, h2⟩ => ⟨z, .inl hz, h2⟩
  have hall : ∀ {c' q}, (∀ z, S.mem c' z → Knows t z q) → ∀ z, (S.born c ng).mem c' z → Knows (t ++ #[x, y]) z q := fun {c' q} hh z hz => by
    rcases hz with rfl | hz | ⟨rfl, rfl⟩
    · exact (hh _ (.inl rfl)).app _
    · exact (hh _ (.inr hz)).app _
    · exact hkn (hh _ (.inl rfl))
  refine ⟨fun q x' b hxq hb => ?_, fun q hq => ?_, fun c' z hz hmz => ?_, fun c' hc' => ⟨fun z hz => ?_, (h1.idle c' hc').2⟩, h1.nr, h1.nrA, h1.seen, h1.gs⟩
  · obtain ⟨hlt, hx'⟩ := hn hxq
    have h2 := h.cls q x' b hx' hb
    have h3 := h2.app hlt #[x, y]
    show TG.clOk _ _ _ _ (S.cl b)
    cases hκ : S.cl b with
    | lent c' => rw [hκ] at h2 h3; exact ⟨hH h3.1, fun hw => hall (h2.2 hw)⟩
    | row c' =>
      rw [hκ] at h2 h3
      refine ⟨hH h3.1, h3.2.1, fun hno => ?_⟩
      rcases h2.2.2 hno with h4 | ⟨p, p1, p2, p3⟩
      · exact .inl (hall h4)
      · have hp := lt_of_act? p1
        exact .inr ⟨p, by rw [act?_old hp]; exact p1, (heard_old hp).2 p2, p3.app _⟩
    | sh c' =>
      rw [hκ] at h2 h3
      rcases h2 with h4 | h4
      · exact .inl ⟨h4.1, fun hs => by rw [Go.Conc.g?_old hlt]; exact h4.2 hs⟩
      · exact .inr (hall h4)
    | _ => rw [hκ] at h3; exact h3
  · obtain ⟨c', hc', hh⟩ := h1.held q hq
    exact ⟨c', hc', hH hh⟩
  · rcases hz with hz | ⟨rfl, rfl⟩
    · exact h1.rel c' z hz hmz
    · exact absurd hmz hm
  · rcases hz with hz | ⟨rfl, _⟩
    · exact (h1.idle c' hc').1 z hz
    · exact hc' ha
/-- No touch names a block that does not lie yet. -/
theorem no_touch_new {sz : Nat} (h : ∀ op ∈ t, op.act.low sz) {q : Nat} {x : Touch} {b : Nat} (hx : touchAt t q = some x) (hb : locB x.loc = some b) : b < sz := by
  obtain ⟨op, hop, hox⟩ := touch_of hx
  have hlow := h op (Array.mem_of_getElem? hop)
  cases ha : op.act with
  | access e =>
    rw [ha] at hox hlow
    simp only [MemAct.touch?, Option.some.injEq] at hox
    subst hox
    have hl2 : e.loc.low sz := hlow
    have hl3 : locB e.loc = some b := hb
    cases hl : e.loc with
    | cell ad => rw [hl] at hl2 hl3; cases hl3; exact hl2
    | obj r => rw [hl] at hl2 hl3; cases hl3; exact hl2
    | _ => rw [hl] at hl3; cases hl3
  | mark m =>
    rw [ha] at hox hlow
    cases m <;> simp [MemAct.touch?] at hox
    all_goals
      subst hox
      cases hb
      exact hlow
  | _ => rw [ha] at hox; cases hox
def TG.grow (S : TG) (y : Nat) : TG := { S with sz := S.sz + 1, cl := fun b => if b = S.sz then .own y else S.cl b }
/-- A NEW BLOCK. -/
theorem TR.grow (h : TR S t ng) (y : Nat) : TR (S.grow y) t ng := by
  have hc : ∀ {q x b}, touchAt t q = some x → locB x.loc = some b → (S.grow y).cl b = S.cl b := fun hx hb => by
    have := no_touch_new h.seen hx hb
    show (if _ then _ else _) = _
    rw [if_neg (by omega)]
  refine ⟨fun q x b hx hb => by rw [hc hx hb]; exact h.cls q x b hx hb, fun q hq => ?_, h.rel, fun c hc' => ⟨(h.idle c hc').1, fun b => ?_⟩, h.nr, h.nrA, fun op hop => MemAct.low_mono (Nat.le_succ _) (h.seen op hop), h.gs⟩
  · obtain ⟨x, hx, hm, hh⟩ := hq
    refine h.held q ⟨x, hx, hm, hh.imp (fun h1 h2 => h1 ⟨?_, h2.2⟩) id⟩
    obtain ⟨⟨b, hb, hs⟩, _⟩ := h2
    exact ⟨b, hb, by rw [hc hx hb]; exact hs⟩
  · show (if _ then _ else _) ≠ _ ∧ (if _ then _ else _) ≠ _ ∧ (if _ then _ else _) ≠ _ ∧ (if _ then _ else _) ≠ _
    split
    · simp
    · exact (h.idle c hc').2 b
/-- A gang begins. -/
def TG.open (S : TG) (c : Nat) (cl' : Nat → Cls) (m w : Addr) : TG := { S with cl := cl', act := fun z => S.act z ∨ z = c, tok := upd S.tok c none, mA := upd S.mA c m, wA := upd S.wA c w }
theorem TR.open (h : TR S t ng) {c : Nat} {cl' : Nat → Cls} {m w : Addr} (hna : ¬ S.act c) (hcl : ∀ b, cl' b = S.cl b ∨ (S.cl b = .own c ∧ (cl' b = .lent c ∨ cl' b = .row c ∨ cl' b = .sh c ∨ cl' b = .chan c))) : TR (S.open c cl' m w) t ng := by
  have hi := h.idle c hna
  have hmem : ∀ {z}, (S.open c cl' m w).mem c z → z = c := fun hz => hz.elim id fun hw => absurd hw (hi.1 _)
  refine ⟨fun q x b hx hb => ?_, fun q hq => ?_, fun c' z hz hm => ?_, fun c' hc' => ?_, h.nr, h.nrA, h.seen, h.gs⟩
  · have h2 := h.cls q x b hx hb
    show TG.clOk _ _ _ _ (cl' b)
    rcases hcl b with e | ⟨e0, e⟩
    · rw [e]
      cases hκ : S.cl b with
      | row c' =>
        have hne : c' ≠ c := fun e => (hi.2 b).2.1 (e ▸ hκ)
        rw [hκ] at h2
        refine ⟨h2.1, fun z hz => h2.2.1 z ?_, fun hn => ?_⟩
        · have hz' : upd S.tok c none c' = some z := hz
          rwa [upd_ne _ _ hne] at hz'
        · have hn' : upd S.tok c none c' = none := hn
          rw [upd_ne _ _ hne] at hn'
          refine (h2.2.2 hn').imp id fun ⟨p, p1, p2⟩ => ⟨p, ?_, p2⟩
          show t.act? p = some (MemAct.mark (.releaseMerge (upd S.mA c m c')))
          rw [upd_ne _ _ hne]; exact p1
      | _ => rw [hκ] at h2; exact h2
    · rw [e0] at h2
      have hk : Knows t c q := h2
      rcases e with e | e | e | e <;> rw [e]
      · exact ⟨.inl hk, fun _ z hz => by rw [hmem hz]; exact hk⟩
      · refine ⟨.inl hk, fun z hz => ?_, fun _ => .inl fun z hz => by rw [hmem hz]; exact hk⟩
        have hz' : upd S.tok c none c = some z := hz
        rw [upd_same] at hz'; cases hz'
      · exact .inr fun z hz => by rw [hmem hz]; exact hk
      · exact hk
  · obtain ⟨x, hx, hm, hh⟩ := hq
    have hq' : S.heavy t q := by
      refine ⟨x, hx, hm, hh.imp (fun h1 h2 => h1 ⟨?_, h2.2⟩) id⟩
      obtain ⟨⟨b, hb, hs⟩, _⟩ := h2
      refine ⟨b, hb, ?_⟩
      show (∃ c', cl' b = .sh c') ∨ cl' b = .old
      rcases hcl b with e | ⟨e0, _⟩
      · rw [e]; exact hs
      · rcases hs with ⟨c', e⟩ | e <;> rw [e0] at e <;> cases e
    obtain ⟨c', hc', h2⟩ := h.held q hq'
    exact ⟨c', .inl hc', h2⟩
  · have hne : c' ≠ c := fun e => hi.1 z (e ▸ hz)
    show t.act? (S.rl z) = some (MemAct.mark (.releaseMerge (upd S.wA c w c'))) ∧ _
    rw [upd_ne _ _ hne]; exact h.rel c' z hz hm
  · have hc1 : ¬ S.act c' := fun h1 => hc' (.inl h1)
    have hc2 : c' ≠ c := fun h1 => hc' (.inr h1)
    refine ⟨(h.idle c' hc1).1, fun b => ?_⟩
    show cl' b ≠ _ ∧ cl' b ≠ _ ∧ cl' b ≠ _ ∧ cl' b ≠ _
    rcases hcl b with e | ⟨_, e⟩
    · rw [e]; exact (h.idle c' hc1).2 b
    · rcases e with e | e | e | e <;> rw [e] <;> simp [Ne.symm hc2]
/-- A gang ends. -/
def Cls.shut (c : Nat) : Cls → Cls
  | .lent c' => if c' = c then .own c else .lent c'
  | .row c' => if c' = c then .own c else .row c'
  | .chan c' => if c' = c then .own c else .chan c'
  | .sh c' => if c' = c then .old else .sh c'
  | κ => κ
def TG.shut (S : TG) (c : Nat) : TG := { S with cl := fun b => (S.cl b).shut c, act := fun z => S.act z ∧ z ≠ c, wk := fun c' z => S.wk c' z ∧ c' ≠ c }
theorem heldG_known {c q : Nat} (h : S.heldG t c q) (hall : ∀ z, S.wk c z → S.mute z ∧ Knows t c (S.rl z)) : Knows t c q := by
  rcases h with h | ⟨z, hz, ⟨hm, _⟩ | ⟨_, hb⟩⟩
  · exact h
  · exact absurd (hall z hz).1 hm
  · exact Knows.of_before hb (hall z hz).2
theorem TR.shut (h : TR S t ng) {c c₀ : Nat} (hall : ∀ z, S.wk c z → S.mute z ∧ Knows t c (S.rl z)) (h0 : S.act c₀ ∧ c₀ ≠ c ∧ S.wk c₀ c ∧ ¬ S.mute c) : TR (S.shut c) t ng := by
  have hk : ∀ {q}, S.heldG t c q → Knows t c q := fun hh => heldG_known hh hall
  have hH : ∀ {c' q}, c' ≠ c → S.heldG t c' q → (S.shut c).heldG t c' q := fun hne hh => hh.imp id fun ⟨z, hz, h2⟩ => ⟨z, ⟨hz, hne⟩, h2⟩
  have hM : ∀ {c' z}, (S.shut c).mem c' z → S.mem c' z := fun hz => hz.imp id fun h => h.1
  have hcl : ∀ b, (S.shut c).cl b = (S.cl b).shut c := fun _ => rfl
  refine ⟨fun q x b hx hb => ?_, fun q hq => ?_, fun c' z hz hm => h.rel c' z hz.1 hm, fun c' hc' => ?_, h.nr, h.nrA, h.seen, h.gs⟩
  · have h2 := h.cls q x b hx hb
    rw [hcl]
    cases hκ : S.cl b with
    | lent c' =>
      rw [hκ] at h2
      by_cases e : c' = c
      · simp only [Cls.shut, if_pos e]; subst e; exact hk h2.1
      · simp only [Cls.shut, if_neg e]; exact ⟨hH e h2.1, fun hw z hz => h2.2 hw z (hM hz)⟩
    | row c' =>
      rw [hκ] at h2
      by_cases e : c' = c
      · simp only [Cls.shut, if_pos e]; subst e; exact hk h2.1
      · simp only [Cls.shut, if_neg e]; exact ⟨hH e h2.1, h2.2.1, fun hn => (h2.2.2 hn).imp (fun h3 z hz => h3 z (hM hz)) id⟩
    | sh c' =>
      rw [hκ] at h2
      by_cases e : c' = c
      · simp only [Cls.shut, if_pos e]; trivial
      · simp only [Cls.shut, if_neg e]; exact h2.imp id fun h3 z hz => h3 z (hM hz)
    | chan c' =>
      rw [hκ] at h2
      by_cases e : c' = c
      · simp only [Cls.shut, if_pos e]; subst e; exact h2
      · simp only [Cls.shut, if_neg e]; exact h2
    | own y => rw [hκ] at h2; exact h2
    | old => trivial
  · obtain ⟨x, hx, hm, hh⟩ := hq
    have hq' : S.heavy t q := by
      refine ⟨x, hx, hm, hh.imp (fun h1 h2 => h1 ⟨?_, h2.2⟩) id⟩
      obtain ⟨⟨b, hb, hs⟩, _⟩ := h2
      refine ⟨b, hb, ?_⟩
      rw [hcl]
      rcases hs with ⟨c', e⟩ | e <;> rw [e]
      · simp only [Cls.shut]; split <;> simp
      · exact .inr rfl
    obtain ⟨c', hc', h2⟩ := h.held q hq'
    by_cases e : c' = c
    · subst e
      exact ⟨c₀, ⟨h0.1, h0.2.1⟩, .inr ⟨c', ⟨h0.2.2.1, h0.2.1⟩, .inl ⟨h0.2.2.2, hk h2⟩⟩⟩
    · exact ⟨c', ⟨hc', e⟩, hH e h2⟩
  · by_cases e : c' = c
    · subst e
      refine ⟨fun z hz => hz.2 rfl, fun b => ?_⟩
      rw [hcl]
      cases hκ : S.cl b <;> simp only [Cls.shut] <;> (try split) <;> simp_all
    · have := h.idle c' fun ha => hc' ⟨ha, e⟩
      refine ⟨fun z hz => this.1 z hz.1, fun b => ?_⟩
      rw [hcl]
      have h3 := this.2 b
      cases hκ : S.cl b <;> rw [hκ] at h3 <;> simp only [Cls.shut] <;> (try split) <;> simp_all
/-- THE GREAT JOIN: goroutine 0 is left alone. -/
theorem TR.join (h : TR S t ng) (hact : ∀ c, S.act c → c = 0) (hall : ∀ z, S.wk 0 z → S.mute z ∧ Knows t 0 (S.rl z)) (h0 : Deaf t 0 = 0) : Past S.shish S.sz t := by
  have key : ∀ q, S.heavy t q → Knows t 0 q := fun q hq => by
    obtain ⟨c, hc, hh⟩ := h.held q hq
    obtain rfl := hact c hc
    exact heldG_known hh hall
  refine ⟨h.nr, fun i a ha hm => ?_, fun i g hg hne hc => ?_, h0, h.seen⟩
  · by_cases e : S.shish a.loc ∧ a.kind = .atomic
    · exact .inr e
    · exact .inl (key i ⟨a, ha, hm, .inl e⟩)
  · obtain ⟨x, hx, hm, hh⟩ := hc
    have hk : Knows t 0 i := key i ⟨x, hx, hm, hh.imp (fun h1 h2 => h1 h2.2) id⟩
    obtain ⟨q, z, h1, h2, h3⟩ := hk
    rcases h3 with rfl | h3
    · have : t.g? i = some 0 := by simp [Trace.g?, h1, h2]
      rw [hg] at this; cases this; exact absurd rfl hne
    · exact ⟨q, by simp [Trace.g?, h1, h2], h3⟩
/-- THE FIRST GANG BEGINS, with goroutine 0 alone. -/
theorem TR.first {Shun : Loc → Prop} {B : Nat} (hP : Past Shun B t) (hnr : ∀ a, NoRelease a t) (hgs : ∀ op ∈ t, op.g < ng) (hB : B ≤ S.sz) (hact : ∀ c, S.act c ↔ c = 0) (hwk : ∀ c z, ¬ S.wk c z) (htok : S.tok 0 = none)
    (hcl : ∀ b, S.cl b = .old ∨ ((S.cl b = .lent 0 ∨ S.cl b = .row 0 ∨ S.cl b = .sh 0 ∨ S.cl b = .chan 0) ∧ ∀ l, locB l = some b → ¬ Shun l)) : TR S t ng := by
  have hmem : ∀ {z}, S.mem 0 z → z = 0 := fun hz => hz.elim id fun h => absurd h (hwk _ _)
  refine ⟨fun q x b hx hb => ?_, fun q hq => ⟨0, (hact 0).2 rfl, .inl ?_⟩, fun c z hz => absurd hz (hwk _ _), fun c hc => ⟨hwk c, fun b => ?_⟩, hP.clean, hnr, fun op hop => MemAct.low_mono hB (hP.seen op hop), hgs⟩
  · rcases hcl b with e | ⟨e, hns⟩
    · rw [e]; trivial
    · have hk : Knows t 0 q := (hP.known q x hx (mem_locB hb)).resolve_right fun h => hns _ hb h.1
      rcases e with e | e | e | e <;> rw [e]
      · exact ⟨.inl hk, fun _ z hz => by rw [hmem hz]; exact hk⟩
      · exact ⟨.inl hk, fun z hz => (by rw [htok] at hz; cases hz), fun _ => .inl fun z hz => by rw [hmem hz]; exact hk⟩
      · exact .inr fun z hz => by rw [hmem hz]; exact hk
      · exact hk
  · obtain ⟨x, hx, hm, hh⟩ := hq
    rcases hP.known q x hx hm with hk | ⟨hs, hka⟩
    · exact hk
    · obtain ⟨b, hb⟩ := locB_mem hm
      have hshish : S.shish x.loc := ⟨b, hb, .inr ((hcl b).resolve_right fun h => h.2 _ hb hs)⟩
      have hhd : t.heard q := hh.resolve_left fun h => h ⟨hshish, hka⟩
      obtain ⟨op, hop, _⟩ := touch_of hx
      by_cases e : op.g = 0
      · have := knows_own hop
        rwa [e] at this
      · obtain ⟨j, hj, hb⟩ := hP.over q op.g (by simp [Trace.g?, hop]) e ⟨x, hx, hm, .inr hhd⟩
        obtain ⟨op', hop', e'⟩ := Option.map_eq_some_iff.1 hj
        exact ⟨j, op', hop', e', .inr hb⟩
  · have hc' : c ≠ 0 := fun e => hc ((hact c).2 e)
    rcases hcl b with e | ⟨e | e | e | e, _⟩ <;> rw [e] <;> simp [Ne.symm hc']
end
end Go.Proofs.Ytapjmifhhbpikaa

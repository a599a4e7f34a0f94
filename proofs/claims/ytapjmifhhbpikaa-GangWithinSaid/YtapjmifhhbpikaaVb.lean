/- Gangs within gangs: the gang as an abstract automaton, on (a job may begin a gang): the group's count, the jobs, the starter. Plain Lean. -/
import Derived.Test.YtapjmifhhbpikaaBdA
set_option linter.unusedVariables false
set_option linter.unusedSimpArgs false
namespace Go.Proofs.Ytapjmifhhbpikaa
open Go.ConcN (sumTo upd sumTo_upd upd_ne upd_same le_sumTo sumTo_congr)
/-- Where the starter stands. -/
inductive Ps where
  | gk | ga | ge | go | sn | cl | kd | w1 | w2 (vs : Nat) | w3 | w4 | ke | aq | ret
  deriving DecidableEq
/-- A worker's own moves. -/
inductive Mw (closed : Bool) (T : Th) (s : Sh) : Th → Sh → Prop
  | mu {T' : Th} {s' : Sh} : Mv T s T' s' → Mw closed T s T' s'
  | rw : T.pc = .rc → closed = true → Mw closed T s { pc := .wr } s
  | bx (b : List Nat) (p : Pc) (n : Nat) : T.pc = .bx → n < T.it → (p = .bx ∨ p = .ld) → Mw closed T s { pc := p, it := if p = .bx then n else 0, job := T.job, blk := b } s
  | wr : T.pc = .wr → Mw closed T s { pc := .wk } s
  | wk : T.pc = .wk → Mw closed T s { pc := .d1 } s
  | d1l : T.pc = .d1 → s.v = 1 → s.wt = true → Mw closed T s { pc := .d2 } { s with v := 0 }
  | d1q : T.pc = .d1 → ¬ (s.v = 1 ∧ s.wt = true) → Mw closed T s { pc := .quit } { s with v := s.v - 1 }
  | d2 : T.pc = .d2 → Mw closed T s { pc := .d3 } s
  | d3 : T.pc = .d3 → Mw closed T s { pc := .d4 } { s with wt := false }
  | d4 : T.pc = .d4 → Mw closed T s { pc := .quit } { s with ws := s.ws + 1 }
/-- The starter's own moves. -/
inductive Ms (p : Ps) (s : Sh) : Ps → Sh → Prop
  | gk : p = .gk → Ms p s .ga s
  | ga : p = .ga → Ms p s .ge { s with v := s.v + 1 }
  | ge : p = .ge → Ms p s .go s
  | kd : p = .kd → Ms p s .w1 s
  | w1z : p = .w1 → s.v = 0 → Ms p s .ke s
  | w1n : p = .w1 → s.v ≠ 0 → Ms p s (.w2 s.v) s
  | w2h (vs : Nat) : p = .w2 vs → s.v = vs → Ms p s .w3 { s with wt := true }
  | w2m (vs : Nat) : p = .w2 vs → s.v ≠ vs → Ms p s .w1 s
  | w3 : p = .w3 → s.ws ≠ 0 → Ms p s .w4 { s with ws := s.ws - 1 }
  | w4 : p = .w4 → Ms p s .ke s
  | ke : p = .ke → Ms p s .aq s
  | aq : p = .aq → Ms p s .ret s
/-- The whole. -/
structure GS where
  n : Nat
  D : Nat → Th
  p : Ps
  s : Sh
  sent : Nat
  closed : Bool
  dn : Nat → Bool
/-- It is counted. -/
def isC (T : Th) : Nat := match T.pc with | .d2 | .d3 | .d4 | .quit => 0 | _ => 1
/-- It is the last, on its way to the semaphore. -/
def isL (T : Th) : Nat := match T.pc with | .d2 | .d3 | .d4 => 1 | _ => 0
/-- .. its word still stands. -/
def isM (T : Th) : Nat := match T.pc with | .d2 | .d3 => 1 | _ => 0
/-- It has a job that isn't put yet. -/
def Pc.has : Pc → Bool
  | .bx | .ld | .l0 | .r0 | .sq | .c1 | .r1 | .c2 | .t1 | .s1 | .t2 | .r2 | .a1 | .r3 | .le | .la | .ur => true
  | _ => false
def Ps.pend : Ps → Nat
  | .ge | .go => 1
  | _ => 0
def Ps.open : Ps → Bool
  | .gk | .ga | .ge | .go | .sn | .cl | .kd | .w1 | .w2 _ => true
  | _ => false
def Ps.fin : Ps → Bool
  | .w4 | .ke | .aq | .ret => true
  | _ => false
/-- .. the channel is closed behind it. -/
def Ps.shut : Ps → Bool
  | .gk | .ga | .ge | .go | .sn | .cl => false
  | _ => true
/-- THE GROUP IS SOUND. c: who is counted; l: the last, on its way; m: its word. -/
def WNum (p : Ps) (v : Nat) (wt : Bool) (ws c l m : Nat) : Prop :=
  (p.open = true → v = c + p.pend ∧ wt = false ∧ ws = 0 ∧ l = 0 ∧ m = 0) ∧
  (p = .w3 → v = c ∧ l + ws ≤ 1 ∧ m ≤ l ∧ (1 ≤ c → wt = true ∧ l = 0 ∧ ws = 0) ∧ (c = 0 → wt.toNat = m ∧ l + ws = 1)) ∧
  (p.fin = true → v = 0 ∧ wt = false ∧ ws = 0 ∧ c = 0 ∧ l = 0 ∧ m = 0)
structure Ok (N J : Nat) (G : GS) : Prop where
  mu : MOk G.n G.D G.s
  wg : WNum G.p G.s.v G.s.wt G.s.ws (sumTo G.n fun i => isC (G.D i)) (sumTo G.n fun i => isL (G.D i)) (sumTo G.n fun i => isM (G.D i))
  w2 : ∀ vs, G.p = .w2 vs → G.s.v ≤ vs ∧ 1 ≤ vs
  cl : G.closed = G.p.shut
  le : G.n ≤ N
  lt : (G.p = .gk ∨ G.p = .ga ∨ G.p = .ge ∨ G.p = .go) → G.n < N
  all : (G.p = .sn ∨ G.p = .cl ∨ G.p.shut = true) → G.n = N
  snt : G.sent ≤ J ∧ (G.p = .sn → G.sent < J) ∧ ((G.p = .cl ∨ G.p.shut = true) → G.sent = J) ∧ ((G.p = .gk ∨ G.p = .ga ∨ G.p = .ge ∨ G.p = .go) → G.sent = 0)
  job : ∀ i, i < G.n → (G.D i).pc.has = true → (G.D i).job < G.sent
  dn : ∀ j, j < G.sent → G.dn j = true ∨ ∃ i, i < G.n ∧ (G.D i).pc.has = true ∧ (G.D i).job = j
  dnl : ∀ j, G.dn j = true → j < G.sent
  dr : ∀ i, i < G.n → G.closed = false → isC (G.D i) = 1 ∧ (G.D i).pc ≠ .wr ∧ (G.D i).pc ≠ .wk ∧ (G.D i).pc ≠ .d1
/-- What is put behind a move of worker i. -/
def putDn (dn : Nat → Bool) (T : Th) : Nat → Bool := fun j => if T.pc = .ur ∧ j = T.job then true else dn j
def GS.work (G : GS) (i : Nat) (T' : Th) (s' : Sh) : GS := { G with D := upd G.D i T', s := s', dn := putDn G.dn (G.D i) }
theorem hd_c (T : Th) : isC (hd T) = 1 ∧ isL (hd T) = 0 ∧ isM (hd T) = 0 ∧ (hd T).pc.has = true ∧ (hd T).job = T.job ∧ (hd T).pc ≠ .wr ∧ (hd T).pc ≠ .wk ∧ (hd T).pc ≠ .d1 := by
  have e : (hd T).job = T.job := rfl
  rcases hd_pc T with ⟨hp, -⟩ | ⟨hp, -⟩ <;> simp [isC, isL, isM, hp, Pc.has, e]
/-- A move of the mutex leaves the group alone. -/
theorem mv_c {T T' : Th} {s s' : Sh} (hm : Mv T s T' s') : isC T = 1 ∧ isC T' = 1 ∧ isL T = 0 ∧ isL T' = 0 ∧ isM T = 0 ∧ isM T' = 0 ∧ s'.v = s.v ∧ s'.wt = s.wt ∧ s'.ws = s.ws ∧ (T'.pc.has = true → T.pc.has = true ∧ T'.job = T.job) ∧ (T.pc.has = true → (T'.pc.has = true ∧ T'.job = T.job) ∨ T.pc = .ur) ∧ (T'.pc ≠ .wr ∧ T'.pc ≠ .wk ∧ T'.pc ≠ .d1) := by
  cases hm with
  | r0 hp => obtain ⟨a, b, c, d, e, f, g, h⟩ := hd_c { T with old := s.mu }; exact ⟨by simp [isC, hp], a, by simp [isL, hp], b, by simp [isM, hp], c, rfl, rfl, rfl, fun _ => ⟨by simp [Pc.has, hp], e⟩, fun _ => .inl ⟨d, e⟩, f, g, h⟩
  | r1 hp => obtain ⟨a, b, c, d, e, f, g, h⟩ := hd_c { T with old := s.mu, it := T.it + 1 }; exact ⟨by simp [isC, hp], a, by simp [isL, hp], b, by simp [isM, hp], c, rfl, rfl, rfl, fun _ => ⟨by simp [Pc.has, hp], e⟩, fun _ => .inl ⟨d, e⟩, f, g, h⟩
  | r3 hp => obtain ⟨a, b, c, d, e, f, g, h⟩ := hd_c { T with old := s.mu }; exact ⟨by simp [isC, hp], a, by simp [isL, hp], b, by simp [isM, hp], c, rfl, rfl, rfl, fun _ => ⟨by simp [Pc.has, hp], e⟩, fun _ => .inl ⟨d, e⟩, f, g, h⟩
  | r2n hp => obtain ⟨a, b, c, d, e, f, g, h⟩ := hd_c { T with old := s.mu, aw := true, it := 0 }; exact ⟨by simp [isC, hp], a, by simp [isL, hp], b, by simp [isM, hp], c, rfl, rfl, rfl, fun _ => ⟨by simp [Pc.has, hp], e⟩, fun _ => .inl ⟨d, e⟩, f, g, h⟩
  | c2q p hp h1 h2 h3 => rcases h3 with rfl | rfl <;> simp [isC, isL, isM, hp, Pc.has]
  | s1 p hp h1 h2 => rcases h2 with rfl | rfl <;> simp [isC, isL, isM, hp, Pc.has]
  | _ => simp_all [isC, isL, isM, Pc.has]
/-- A move that isn't the mutex's leaves the mutex alone. -/
theorem mok_plain {n : Nat} {D : Nat → Th} {s s' : Sh} {i : Nat} {T' : Th} (h : MOk n D s) (hi : i < n) (h1 : isO (D i) = 0 ∧ isQ (D i) = 0 ∧ isA (D i) = 0 ∧ isK (D i) = 0 ∧ isH (D i) = 0 ∧ isU (D i) = 0 ∧ isX (D i) = 0 ∧ isV (D i) = 0)
    (h2 : isO T' = 0 ∧ isQ T' = 0 ∧ isA T' = 0 ∧ isK T' = 0 ∧ isH T' = 0 ∧ isU T' = 0 ∧ isX T' = 0 ∧ isV T' = 0) (hl : Lc T') (hmu : s'.mu = s.mu) (hms : s'.ms = s.ms) : MOk n (upd D i T') s' := by
  have eO := sumTo_upd D T' isO hi
  have eQ := sumTo_upd D T' isQ hi
  have eA := sumTo_upd D T' isA hi
  have eK := sumTo_upd D T' isK hi
  have eH := sumTo_upd D T' isH hi
  have eU := sumTo_upd D T' isU hi
  have eX := sumTo_upd D T' isX hi
  have eV := sumTo_upd D T' isV hi
  obtain ⟨a1, a2, a3, a4, a5, a6, a7, a8⟩ := h1
  obtain ⟨b1, b2, b3, b4, b5, b6, b7, b8⟩ := h2
  refine MOk.of_nums ?_ (loc_upd h.loc hl)
  have := h.nums
  rw [hmu, hms]
  rw [show (sumTo n fun x => isO (upd D i T' x)) = sumTo n fun x => isO (D x) by omega, show (sumTo n fun x => isQ (upd D i T' x)) = sumTo n fun x => isQ (D x) by omega, show (sumTo n fun x => isA (upd D i T' x)) = sumTo n fun x => isA (D x) by omega, show (sumTo n fun x => isK (upd D i T' x)) = sumTo n fun x => isK (D x) by omega,
    show (sumTo n fun x => isH (upd D i T' x)) = sumTo n fun x => isH (D x) by omega, show (sumTo n fun x => isU (upd D i T' x)) = sumTo n fun x => isU (D x) by omega, show (sumTo n fun x => isX (upd D i T' x)) = sumTo n fun x => isX (D x) by omega, show (sumTo n fun x => isV (upd D i T' x)) = sumTo n fun x => isV (D x) by omega]
  exact this
theorem sum_but {f g : Nat → Nat} (h : ∀ i, g i ≤ f i) {i : Nat} : ∀ {n : Nat}, i < n → sumTo n g + f i ≤ sumTo n f + g i
  | n + 1, hi => by
    rcases Nat.lt_or_ge i n with hlt | hge
    · have := sum_but h hlt; have := h n; simp only [sumTo]; omega
    · obtain rfl : i = n := by omega
      have : sumTo i g ≤ sumTo i f := by
        clear hi hge
        induction i with
        | zero => exact Nat.le_refl _
        | succ k ih => have := h k; simp only [sumTo]; omega
      simp only [sumTo]; omega
theorem isM_le (T : Th) : isM T ≤ isL T := by unfold isM isL; split <;> simp_all
theorem ind_zero {T : Th} (h : T.pc = .rc ∨ T.pc = .bx ∨ T.pc = .ld ∨ T.pc = .wr ∨ T.pc = .wk ∨ T.pc = .d1 ∨ T.pc = .d2 ∨ T.pc = .d3 ∨ T.pc = .d4 ∨ T.pc = .quit) : isO T = 0 ∧ isQ T = 0 ∧ isA T = 0 ∧ isK T = 0 ∧ isH T = 0 ∧ isU T = 0 ∧ isX T = 0 ∧ isV T = 0 := by
  rcases h with h | h | h | h | h | h | h | h | h | h <;> simp [isO, isQ, isA, isK, isH, isU, isX, isV, h, Pc.loop]
set_option maxHeartbeats 4000000 in
/-- A worker's move of the group: the numbers. -/
theorem wnum_mw {T T' : Th} {s s' : Sh} {cl : Bool} {p : Ps} (hm : Mw cl T s T' s') {c l m c' l' m' : Nat} (eC : c' + isC T = c + isC T') (eL : l' + isL T = l + isL T') (eM : m' + isM T = m + isM T') (lC : isC T ≤ c) (lL : isL T ≤ l) (lM : isM T ≤ m) (lX : m + isL T ≤ l + isM T) (h : WNum p s.v s.wt s.ws c l m) (hd : T.pc = .d1 → p.shut = true)
    : WNum p s'.v s'.wt s'.ws c' l' m' := by
  unfold WNum at *
  cases hm with
  | mu hm =>
    obtain ⟨a, b, d, e, f, g, q1, q2, q3, _⟩ := mv_c hm
    rw [q1, q2, q3]
    have e1 : c' = c := by omega
    have e2 : l' = l := by omega
    have e3 : m' = m := by omega
    rw [e1, e2, e3]; exact h
  | rw hp _ => simp [isC, isL, isM, hp] at *; subst eC; subst eL; subst eM; exact h
  | bx b p' n hp hn hpp => rcases hpp with rfl | rfl <;> (simp [isC, isL, isM, hp] at *; subst eC; subst eL; subst eM; exact h)
  | wr hp => simp [isC, isL, isM, hp] at *; subst eC; subst eL; subst eM; exact h
  | wk hp => simp [isC, isL, isM, hp] at *; subst eC; subst eL; subst eM; exact h
  | d1l hp h1 h2 =>
    have hd := hd hp
    simp [isC, isL, isM, hp] at *
    cases p <;> simp [Ps.open, Ps.fin, Ps.shut, Ps.pend, h1, h2] at * <;> omega
  | d1q hp h1 =>
    have hd := hd hp
    simp [isC, isL, isM, hp] at *
    cases hw : s.wt <;> cases p <;> simp [Ps.open, Ps.fin, Ps.shut, Ps.pend, hw] at * <;> omega
  | d2 hp => simp [isC, isL, isM, hp] at *; subst eC; subst eL; subst eM; exact h
  | d3 hp =>
    simp [isC, isL, isM, hp] at *
    cases hw : s.wt <;> cases p <;> simp [Ps.open, Ps.fin, Ps.shut, Ps.pend, hw] at * <;> omega
  | d4 hp =>
    simp [isC, isL, isM, hp] at *
    cases hw : s.wt <;> cases p <;> simp [Ps.open, Ps.fin, Ps.shut, Ps.pend, hw] at * <;> omega
theorem mw_job {T T' : Th} {s s' : Sh} {cl : Bool} (hm : Mw cl T s T' s') : (T'.pc.has = true → T.pc.has = true ∧ T'.job = T.job) ∧ (T.pc.has = true → (T'.pc.has = true ∧ T'.job = T.job) ∨ T.pc = .ur) := by
  cases hm with
  | mu hm => have := mv_c hm; exact ⟨this.2.2.2.2.2.2.2.2.2.1, this.2.2.2.2.2.2.2.2.2.2.1⟩
  | bx b p n hp hn hpp => rcases hpp with rfl | rfl <;> simp_all [Pc.has]
  | _ => simp_all [Pc.has]
theorem mw_v {T T' : Th} {s s' : Sh} {cl : Bool} (hm : Mw cl T s T' s') : s'.v ≤ s.v := by
  cases hm with
  | mu hm => rw [(mv_c hm).2.2.2.2.2.2.1]; exact Nat.le_refl _
  | d1l _ h => simp
  | _ => simp
theorem mw_cl {T T' : Th} {s s' : Sh} {cl : Bool} (hm : Mw cl T s T' s') (h : cl = false) (h0 : isC T = 1 ∧ T.pc ≠ .wr ∧ T.pc ≠ .wk ∧ T.pc ≠ .d1) : isC T' = 1 ∧ T'.pc ≠ .wr ∧ T'.pc ≠ .wk ∧ T'.pc ≠ .d1 := by
  cases hm with
  | mu hm => have := mv_c hm; exact ⟨this.2.1, this.2.2.2.2.2.2.2.2.2.2.2⟩
  | bx b p n hp hn hpp => rcases hpp with rfl | rfl <;> simp_all [isC]
  | _ => simp_all [isC]
theorem mok_mw {n : Nat} {D : Nat → Th} {s s' : Sh} {i : Nat} {T' : Th} {cl : Bool} (h : MOk n D s) (hi : i < n) (hm : Mw cl (D i) s T' s') : MOk n (upd D i T') s' := by
  cases hm with
  | mu hm => exact mok_upd h hi hm
  | rw hp _ => exact mok_plain h hi (ind_zero (by simp [hp])) (ind_zero (by simp)) (loc_plain rfl (by simp) (by simp)) rfl rfl
  | bx b p n hp hn hpp =>
    rcases hpp with rfl | rfl
    · exact mok_plain h hi (ind_zero (by simp [hp])) (ind_zero (by simp)) (loc_plain rfl (by simp) (by simp)) rfl rfl
    · exact mok_plain h hi (ind_zero (by simp [hp])) (ind_zero (by simp)) ⟨fun h' => by simp at h', fun h' => by simp at h', fun h' => by simp at h', fun h' => by simp at h', fun h' => by simp at h', fun h' => by simp [Pc.loop] at h', fun h' => by simp at h', fun _ => ⟨rfl, rfl, rfl⟩⟩ rfl rfl
  | wr hp => exact mok_plain h hi (ind_zero (by simp [hp])) (ind_zero (by simp)) (loc_plain rfl (by simp) (by simp)) rfl rfl
  | wk hp => exact mok_plain h hi (ind_zero (by simp [hp])) (ind_zero (by simp)) (loc_plain rfl (by simp) (by simp)) rfl rfl
  | d1l hp _ _ => exact mok_plain h hi (ind_zero (by simp [hp])) (ind_zero (by simp)) (loc_plain rfl (by simp) (by simp)) rfl rfl
  | d1q hp _ => exact mok_plain h hi (ind_zero (by simp [hp])) (ind_zero (by simp)) (loc_plain rfl (by simp) (by simp)) rfl rfl
  | d2 hp => exact mok_plain h hi (ind_zero (by simp [hp])) (ind_zero (by simp)) (loc_plain rfl (by simp) (by simp)) rfl rfl
  | d3 hp => exact mok_plain h hi (ind_zero (by simp [hp])) (ind_zero (by simp)) (loc_plain rfl (by simp) (by simp)) rfl rfl
  | d4 hp => exact mok_plain h hi (ind_zero (by simp [hp])) (ind_zero (by simp)) (loc_plain rfl (by simp) (by simp)) rfl rfl
/-- ████ A WORKER's MOVE KEEPS ALL. ████ -/
theorem ok_work {N J : Nat} {G : GS} (h : Ok N J G) {i : Nat} (hi : i < G.n) {T' : Th} {s' : Sh} (hm : Mw G.closed (G.D i) G.s T' s') : Ok N J (G.work i T' s') := by
  have hj := mw_job hm
  refine ⟨mok_mw h.mu hi hm, ?_, fun vs e => ⟨Nat.le_trans (mw_v hm) (h.w2 vs e).1, (h.w2 vs e).2⟩, h.cl, h.le, h.lt, h.all, h.snt, fun k hk hh => ?_, fun j hjs => ?_, fun j hd => ?_, fun k hk hc => ?_⟩
  · refine wnum_mw hm (sumTo_upd G.D T' isC hi) (sumTo_upd G.D T' isL hi) (sumTo_upd G.D T' isM hi) (le_sumTo (f := fun x => isC (G.D x)) hi) (le_sumTo (f := fun x => isL (G.D x)) hi) (le_sumTo (f := fun x => isM (G.D x)) hi) (sum_but (f := fun x => isL (G.D x)) (g := fun x => isM (G.D x)) (fun x => isM_le _) hi) h.wg fun hp => ?_
    cases hc : G.closed with
    | true => exact h.cl.symm.trans hc
    | false => exact absurd hp (h.dr i hi hc).2.2.2
  · show _ < G.sent
    by_cases e : k = i
    · subst e
      have e1 : (G.work k T' s').D k = T' := upd_same _ _ _
      rw [e1] at hh ⊢
      obtain ⟨a, b⟩ := hj.1 hh
      rw [b]; exact h.job k hi a
    · have e1 : (G.work i T' s').D k = G.D k := upd_ne _ _ e
      rw [e1] at hh ⊢
      exact h.job k hk hh
  · rcases h.dn j hjs with hd | ⟨k, hk, hh, hjk⟩
    · left
      show putDn _ _ _ = true
      unfold putDn
      split <;> simp [hd]
    · by_cases e : k = i
      · subst e
        rcases hj.2 hh with ⟨a, b⟩ | hu
        · right
          have e1 : (G.work k T' s').D k = T' := upd_same _ _ _
          exact ⟨k, hk, by rw [e1]; exact a, by rw [e1, b]; exact hjk⟩
        · left
          show putDn _ _ _ = true
          unfold putDn
          rw [if_pos ⟨hu, hjk.symm⟩]
      · right
        have e1 : (G.work i T' s').D k = G.D k := upd_ne _ _ e
        exact ⟨k, hk, by rw [e1]; exact hh, by rw [e1]; exact hjk⟩
  · show j < G.sent
    have hd' : putDn G.dn (G.D i) j = true := hd
    unfold putDn at hd'
    split at hd'
    · rename_i hu
      rw [hu.2]
      exact h.job i hi (by rw [hu.1]; rfl)
    · exact h.dnl j hd'
  · by_cases e : k = i
    · subst e
      have e1 : (G.work k T' s').D k = T' := upd_same _ _ _
      rw [e1]
      exact mw_cl hm hc (h.dr k hi hc)
    · have e1 : (G.work i T' s').D k = G.D k := upd_ne _ _ e
      rw [e1]
      exact h.dr k hk hc
/-- What the starter may still do. -/
def om (N n : Nat) : Ps → Nat
  | .gk => 18 + 12 * (N - n) | .ga => 17 + 12 * (N - n) | .ge => 16 + 12 * (N - n) | .go => 15 + 12 * (N - n) | .sn => 13 | .cl => 12 | .kd => 11 | .w1 => 8 | .w2 _ => 8 | .w3 => 6 | .w4 => 4 | .ke => 3 | .aq => 2 | .ret => 1
def rhoS (v : Nat) : Ps → Nat
  | .w2 vs => if vs = v then 0 else 2
  | .w1 => 1
  | _ => 0
def GS.ph (N J : Nat) (G : GS) : Nat := 2000 * (J - G.sent) + sumTo G.n (fun i => wt (G.D i)) + 5 * G.s.ms + om N G.n G.p
def GS.rh (G : GS) : Nat := sumTo G.n (fun i => rho G.s.mu (G.D i)) + rhoS G.s.v G.p
def GS.rank (N J : Nat) (G : GS) : Nat := (60 * N + 3) * G.ph N J + G.rh
theorem sum_le {f : Nat → Nat} {b : Nat} (h : ∀ i, f i ≤ b) : ∀ n, sumTo n f ≤ b * n
  | 0 => by simp [sumTo]
  | n + 1 => by have := sum_le h n; have := h n; simp only [sumTo]; rw [Nat.mul_succ]; omega
theorem rho_bound {N : Nat} {G : GS} (h : G.n ≤ N) : G.rh ≤ 60 * N + 2 := by
  have h1 := sum_le (f := fun i => rho G.s.mu (G.D i)) (fun i => rho_le _ _) G.n
  have h2 : rhoS G.s.v G.p ≤ 2 := by unfold rhoS; split <;> (try split) <;> omega
  have h3 : 60 * G.n ≤ 60 * N := Nat.mul_le_mul_left _ h
  unfold GS.rh
  omega
theorem rank_phi {N J : Nat} {G G' : GS} (h : G'.n ≤ N) (hp : G'.ph N J < G.ph N J) : G'.rank N J < G.rank N J := by
  have h1 := rho_bound h
  have h2 : (60 * N + 3) * (G'.ph N J + 1) ≤ (60 * N + 3) * G.ph N J := Nat.mul_le_mul_left _ hp
  rw [Nat.mul_succ] at h2
  unfold GS.rank
  omega
theorem rank_rho {N J : Nat} {G G' : GS} (hp : G'.ph N J = G.ph N J) (hr : G'.rh < G.rh) : G'.rank N J < G.rank N J := by
  unfold GS.rank
  rw [hp]
  omega
theorem mw_rank {T T' : Th} {s s' : Sh} {cl : Bool} (hm : Mw cl T s T' s') (hL : Lc T) : (wt T' + 5 * s'.ms < wt T + 5 * s.ms) ∨ (wt T' = wt T ∧ s' = s ∧ rho s.mu T' < rho s.mu T) := by
  cases hm with
  | mu hm => exact rank_mv hm hL
  | bx b p n hp hn hpp => left; rcases hpp with rfl | rfl <;> simp [wt, hp] <;> omega
  | _ => left; simp_all [wt]
/-- ████ A WORKER's MOVE LOWERS THE RANK. ████ -/
theorem rank_work {N J : Nat} {G : GS} (h : Ok N J G) {i : Nat} (hi : i < G.n) {T' : Th} {s' : Sh} (hm : Mw G.closed (G.D i) G.s T' s') : (G.work i T' s').rank N J < G.rank N J := by
  have e1 := sumTo_upd G.D T' wt hi
  rcases mw_rank hm (h.mu.loc i hi) with hr | ⟨hr, rfl, hr2⟩
  · refine rank_phi (G' := G.work i T' s') h.le ?_
    show 2000 * (J - G.sent) + (sumTo G.n fun x => wt (upd G.D i T' x)) + 5 * s'.ms + om N G.n G.p < 2000 * (J - G.sent) + (sumTo G.n fun x => wt (G.D x)) + 5 * G.s.ms + om N G.n G.p
    have := le_sumTo (f := fun x => wt (G.D x)) hi
    omega
  · refine rank_rho (G' := G.work i T' G.s) ?_ ?_
    · show 2000 * (J - G.sent) + (sumTo G.n fun x => wt (upd G.D i T' x)) + 5 * G.s.ms + om N G.n G.p = 2000 * (J - G.sent) + (sumTo G.n fun x => wt (G.D x)) + 5 * G.s.ms + om N G.n G.p
      omega
    · show (sumTo G.n fun x => rho G.s.mu (upd G.D i T' x)) + rhoS G.s.v G.p < (sumTo G.n fun x => rho G.s.mu (G.D x)) + rhoS G.s.v G.p
      have e2 := sumTo_upd G.D T' (rho G.s.mu) hi
      omega
def GS.start (G : GS) (p' : Ps) (s' : Sh) : GS := { G with p := p', s := s' }
set_option maxHeartbeats 4000000 in
/-- ████ THE STARTER's OWN MOVES. ████ -/
theorem ok_start {N J : Nat} {G : GS} (h : Ok N J G) {p' : Ps} {s' : Sh} (hm : Ms G.p G.s p' s') : Ok N J (G.start p' s') ∧ (G.start p' s').rank N J < G.rank N J := by
  obtain ⟨n, D, p, s, sent, closed, dn⟩ := G
  obtain ⟨h1, h2, h3, h4, h5, h6, h7, h8, h9, h10, h11, h12⟩ := h
  simp only at hm h1 h2 h3 h4 h5 h6 h7 h8 h9 h10 h11 h12
  have hmu : s'.mu = s.mu ∧ s'.ms = s.ms := by cases hm <;> exact ⟨rfl, rfl⟩
  have hM : MOk n D s' := by
    refine MOk.of_nums ?_ h1.loc
    rw [hmu.1, hmu.2]
    exact h1.nums
  constructor
  · unfold GS.start
    cases hm with
    | gk hp => subst hp; exact ⟨hM, by simpa [WNum, Ps.open, Ps.fin, Ps.pend] using h2, by simp, h4, h5, by simpa using h6, by simp [Ps.shut], by simpa [Ps.shut] using h8, h9, h10, h11, h12⟩
    | ga hp => subst hp; exact ⟨hM, by simp [WNum, Ps.open, Ps.fin, Ps.pend] at h2 ⊢; omega, by simp, h4, h5, by simpa using h6, by simp [Ps.shut], by simpa [Ps.shut] using h8, h9, h10, h11, h12⟩
    | ge hp => subst hp; exact ⟨hM, by simpa [WNum, Ps.open, Ps.fin, Ps.pend] using h2, by simp, h4, h5, by simpa using h6, by simp [Ps.shut], by simpa [Ps.shut] using h8, h9, h10, h11, h12⟩
    | kd hp => subst hp; exact ⟨hM, by simpa [WNum, Ps.open, Ps.fin, Ps.pend] using h2, by simp, h4, h5, by simp, by simpa [Ps.shut] using h7, by simpa [Ps.shut] using h8, h9, h10, h11, h12⟩
    | w1z hp hv => subst hp; exact ⟨hM, by simp [WNum, Ps.open, Ps.fin, Ps.pend] at h2 ⊢; exact ⟨hv, h2.2.1, h2.2.2.1, by omega, h2.2.2.2.1, h2.2.2.2.2⟩, by simp, h4, h5, by simp, by simpa [Ps.shut] using h7, by simpa [Ps.shut] using h8, h9, h10, h11, h12⟩
    | w1n hp hv => subst hp; exact ⟨hM, by simpa [WNum, Ps.open, Ps.fin, Ps.pend] using h2, fun vs e => by simp at e; subst e; exact ⟨Nat.le_refl _, Nat.pos_of_ne_zero hv⟩, h4, h5, by simp, by simpa [Ps.shut] using h7, by simpa [Ps.shut] using h8, h9, h10, h11, h12⟩
    | w2h vs hp hv =>
      subst hp
      have := h3 vs rfl
      exact ⟨hM, by simp [WNum, Ps.open, Ps.fin, Ps.pend] at h2 ⊢; omega, by simp, h4, h5, by simp, by simpa [Ps.shut] using h7, by simpa [Ps.shut] using h8, h9, h10, h11, h12⟩
    | w2m vs hp hv => subst hp; exact ⟨hM, by simpa [WNum, Ps.open, Ps.fin, Ps.pend] using h2, by simp, h4, h5, by simp, by simpa [Ps.shut] using h7, by simpa [Ps.shut] using h8, h9, h10, h11, h12⟩
    | w3 hp hv =>
      subst hp
      refine ⟨hM, ?_, by simp, h4, h5, by simp, by simpa [Ps.shut] using h7, by simpa [Ps.shut] using h8, h9, h10, h11, h12⟩
      simp [WNum, Ps.open, Ps.fin, Ps.pend] at h2 ⊢
      cases hw : s.wt <;> simp [hw] at h2 ⊢ <;> omega
    | w4 hp => subst hp; exact ⟨hM, by simpa [WNum, Ps.open, Ps.fin, Ps.pend] using h2, by simp, h4, h5, by simp, by simpa [Ps.shut] using h7, by simpa [Ps.shut] using h8, h9, h10, h11, h12⟩
    | ke hp => subst hp; exact ⟨hM, by simpa [WNum, Ps.open, Ps.fin, Ps.pend] using h2, by simp, h4, h5, by simp, by simpa [Ps.shut] using h7, by simpa [Ps.shut] using h8, h9, h10, h11, h12⟩
    | aq hp => subst hp; exact ⟨hM, by simpa [WNum, Ps.open, Ps.fin, Ps.pend] using h2, by simp, h4, h5, by simp, by simpa [Ps.shut] using h7, by simpa [Ps.shut] using h8, h9, h10, h11, h12⟩
  · cases hm with
    | w1n hp hv =>
      subst hp
      refine rank_rho ?_ ?_
      · simp [GS.ph, GS.start, om]
      · simp [GS.rh, GS.start, rhoS]
    | w2m vs hp hv =>
      subst hp
      refine rank_rho ?_ ?_
      · simp [GS.ph, GS.start, om]
      · simp [GS.rh, GS.start, rhoS, Ne.symm hv]
    | _ =>
      refine rank_phi h5 ?_
      simp_all [GS.ph, GS.start, om]
/-- A job is handed over. -/
def GS.hand (J nb : Nat) (G : GS) (i : Nat) : GS := { G with D := upd G.D i { pc := .bx, job := G.sent, it := nb }, sent := G.sent + 1, p := if G.sent + 1 < J then .sn else .cl }
theorem c_rc : isC { pc := .rc } = 1 ∧ isL { pc := .rc } = 0 ∧ isM { pc := .rc } = 0 := ⟨rfl, rfl, rfl⟩
set_option maxHeartbeats 4000000 in
theorem ok_hand {N J nb : Nat} {G : GS} (hnb : nb ≤ 1000) (h : Ok N J G) (hp : G.p = .sn) {i : Nat} (hi : i < G.n) (hr : (G.D i).pc = .rc) : Ok N J (G.hand J nb i) ∧ (G.hand J nb i).rank N J < G.rank N J := by
  have hs := h.snt.2.1 hp
  have hM : MOk G.n (upd G.D i { pc := .bx, job := G.sent, it := nb }) G.s := mok_plain h.mu hi (ind_zero (by simp [hr])) (ind_zero (by simp)) (loc_plain rfl (by simp) (by simp)) rfl rfl
  have eC := sumTo_upd G.D { pc := .bx, job := G.sent, it := nb } isC hi
  have eL := sumTo_upd G.D { pc := .bx, job := G.sent, it := nb } isL hi
  have eM := sumTo_upd G.D { pc := .bx, job := G.sent, it := nb } isM hi
  have eW := sumTo_upd G.D { pc := .bx, job := G.sent, it := nb } wt hi
  have a1 : isC (G.D i) = 1 := by simp [isC, hr]
  have a2 : isL (G.D i) = 0 := by simp [isL, hr]
  have a3 : isM (G.D i) = 0 := by simp [isM, hr]
  have a4 : wt (G.D i) = 7 := by simp [wt, hr]
  have b1 : isC { pc := .bx, job := G.sent, it := nb } = 1 := rfl
  have b2 : isL { pc := .bx, job := G.sent, it := nb } = 0 := rfl
  have b3 : isM { pc := .bx, job := G.sent, it := nb } = 0 := rfl
  have b4 : wt { pc := .bx, job := G.sent, it := nb } = 26 + nb := rfl
  have hn : G.n = N := h.all (.inl hp)
  have hwg := h.wg
  have hcl := h.cl
  rw [hp] at hwg hcl
  obtain ⟨p', hp', hpp⟩ : ∃ p', (G.hand J nb i).p = p' ∧ ((p' = .sn ∧ G.sent + 1 < J) ∨ (p' = .cl ∧ G.sent + 1 = J)) := by
    by_cases hlt : G.sent + 1 < J
    · exact ⟨.sn, by show (if _ then _ else _) = _; rw [if_pos hlt], .inl ⟨rfl, hlt⟩⟩
    · exact ⟨.cl, by show (if _ then _ else _) = _; rw [if_neg hlt], .inr ⟨rfl, by omega⟩⟩
  constructor
  · refine ⟨hM, ?_, ?_, ?_, h.le, ?_, ?_, ?_, fun k hk hh => ?_, fun j hj => ?_, fun j hd => ?_, fun k hk hc => ?_⟩
    · rw [hp']
      show WNum p' G.s.v G.s.wt G.s.ws (sumTo G.n fun x => isC (upd G.D i _ x)) (sumTo G.n fun x => isL (upd G.D i _ x)) (sumTo G.n fun x => isM (upd G.D i _ x))
      rw [show (sumTo G.n fun x => isC (upd G.D i { pc := .bx, job := G.sent, it := nb } x)) = sumTo G.n fun x => isC (G.D x) by omega, show (sumTo G.n fun x => isL (upd G.D i { pc := .bx, job := G.sent, it := nb } x)) = sumTo G.n fun x => isL (G.D x) by omega, show (sumTo G.n fun x => isM (upd G.D i { pc := .bx, job := G.sent, it := nb } x)) = sumTo G.n fun x => isM (G.D x) by omega]
      rcases hpp with ⟨rfl, _⟩ | ⟨rfl, _⟩ <;> simpa [WNum, Ps.open, Ps.fin, Ps.pend] using hwg
    · rw [hp']; rcases hpp with ⟨rfl, _⟩ | ⟨rfl, _⟩ <;> simp
    · rw [hp']; show G.closed = _; rw [hcl]; rcases hpp with ⟨rfl, _⟩ | ⟨rfl, _⟩ <;> rfl
    · rw [hp']; rcases hpp with ⟨rfl, _⟩ | ⟨rfl, _⟩ <;> simp
    · rw [hp']; exact fun _ => hn
    · rw [hp']; show G.sent + 1 ≤ J ∧ _ ∧ _ ∧ _
      rcases hpp with ⟨rfl, hl⟩ | ⟨rfl, hl⟩
      · exact ⟨hs, fun _ => hl, by simp [Ps.shut], by simp⟩
      · exact ⟨hs, by simp, fun _ => hl, by simp⟩
    · show _ < G.sent + 1
      by_cases e : k = i
      · subst e
        have e1 : (G.hand J nb k).D k = { pc := .bx, job := G.sent, it := nb } := upd_same _ _ _
        rw [e1]; exact Nat.lt_succ_self _
      · have e1 : (G.hand J nb i).D k = G.D k := upd_ne _ _ e
        rw [e1] at hh ⊢
        exact Nat.lt_succ_of_lt (h.job k hk hh)
    · have hj' : j < G.sent + 1 := hj
      by_cases e : j = G.sent
      · subst e
        have e1 : (G.hand J nb i).D i = { pc := .bx, job := G.sent, it := nb } := upd_same _ _ _
        exact .inr ⟨i, hi, by rw [e1]; rfl, by rw [e1]⟩
      · rcases h.dn j (by omega) with hd | ⟨k, hk, hh, hjk⟩
        · exact .inl hd
        · have hki : k ≠ i := fun e => by subst e; rw [hr] at hh; cases hh
          have e1 : (G.hand J nb i).D k = G.D k := upd_ne _ _ hki
          exact .inr ⟨k, hk, by rw [e1]; exact hh, by rw [e1]; exact hjk⟩
    · exact Nat.lt_succ_of_lt (h.dnl j hd)
    · by_cases e : k = i
      · subst e
        have e1 : (G.hand J nb k).D k = { pc := .bx, job := G.sent, it := nb } := upd_same _ _ _
        rw [e1]; simp [isC]
      · have e1 : (G.hand J nb i).D k = G.D k := upd_ne _ _ e
        rw [e1]; exact h.dr k hk hc
  · refine rank_phi h.le ?_
    show 2000 * (J - (G.sent + 1)) + (sumTo G.n fun x => wt (upd G.D i _ x)) + 5 * G.s.ms + om N G.n (G.hand J nb i).p < 2000 * (J - G.sent) + (sumTo G.n fun x => wt (G.D x)) + 5 * G.s.ms + om N G.n G.p
    rw [hp', hp]
    have : om N G.n p' ≤ 13 := by rcases hpp with ⟨rfl, _⟩ | ⟨rfl, _⟩ <;> simp [om]
    have e2 : om N G.n .sn = 13 := rfl
    omega
/-- The channel is closed. -/
def GS.shutC (G : GS) : GS := { G with p := .kd, closed := true }
theorem ok_shutC {N J : Nat} {G : GS} (h : Ok N J G) (hp : G.p = .cl) : Ok N J G.shutC ∧ G.shutC.rank N J < G.rank N J := by
  have hwg := h.wg
  rw [hp] at hwg
  constructor
  · exact ⟨h.mu, by simpa [GS.shutC, WNum, Ps.open, Ps.fin, Ps.pend] using hwg, by simp [GS.shutC], rfl, h.le, by simp [GS.shutC], fun _ => h.all (.inr (.inl hp)), ⟨h.snt.1, by simp [GS.shutC], fun _ => h.snt.2.2.1 (.inl hp), by simp [GS.shutC]⟩, h.job, h.dn, h.dnl, fun k _ hc => by cases hc⟩
  · refine rank_phi h.le ?_
    simp [GS.ph, GS.shutC, hp, om]
/-- A worker is started. -/
def GS.spawn (N J : Nat) (G : GS) : GS := { G with n := G.n + 1, D := upd G.D G.n { pc := .rc }, p := if G.n + 1 < N then .gk else if 0 < J then .sn else .cl }
theorem sum_spawn (f : Th → Nat) (n : Nat) (D : Nat → Th) (T : Th) : (sumTo (n + 1) fun x => f (upd D n T x)) = (sumTo n fun x => f (D x)) + f T := by
  show (sumTo n fun x => f (upd D n T x)) + f (upd D n T n) = _
  rw [upd_same, sumTo_congr (g := fun x => f (D x)) fun i hi => by rw [upd_ne _ _ (by omega)]]
theorem ok_spawn {N J : Nat} {G : GS} (h : Ok N J G) (hp : G.p = .go) : Ok N J (G.spawn N J) ∧ (G.spawn N J).rank N J < G.rank N J := by
  have hlt := h.lt (.inr (.inr (.inr hp)))
  have hs0 := h.snt.2.2.2 (.inr (.inr (.inr hp)))
  have hwg := h.wg
  have hcl := h.cl
  rw [hp] at hwg hcl
  have hDold : ∀ k, k < G.n → (G.spawn N J).D k = G.D k := fun k hk => upd_ne _ _ (by omega)
  have hDnew : (G.spawn N J).D G.n = { pc := .rc } := upd_same _ _ _
  obtain ⟨p', hp', hpp⟩ : ∃ p', (G.spawn N J).p = p' ∧ ((p' = .gk ∧ G.n + 1 < N) ∨ (p' = .sn ∧ G.n + 1 = N ∧ 0 < J) ∨ (p' = .cl ∧ G.n + 1 = N ∧ J = 0)) := by
    by_cases h1 : G.n + 1 < N
    · exact ⟨.gk, by show (if _ then _ else _) = _; rw [if_pos h1], .inl ⟨rfl, h1⟩⟩
    · by_cases h2 : 0 < J
      · exact ⟨.sn, by show (if _ then _ else (if _ then _ else _)) = _; rw [if_neg h1, if_pos h2], .inr (.inl ⟨rfl, by omega, h2⟩)⟩
      · exact ⟨.cl, by show (if _ then _ else (if _ then _ else _)) = _; rw [if_neg h1, if_neg h2], .inr (.inr ⟨rfl, by omega, by omega⟩)⟩
  have z : ∀ f : Th → Nat, f { pc := .rc } = 0 → (sumTo (G.spawn N J).n fun x => f ((G.spawn N J).D x)) = sumTo G.n fun x => f (G.D x) := fun f hf => by
    have := sum_spawn f G.n G.D { pc := .rc }
    rw [hf, Nat.add_zero] at this
    exact this
  have o : ∀ f : Th → Nat, f { pc := .rc } = 1 → (sumTo (G.spawn N J).n fun x => f ((G.spawn N J).D x)) = (sumTo G.n fun x => f (G.D x)) + 1 := fun f hf => by
    have := sum_spawn f G.n G.D { pc := .rc }
    rw [hf] at this
    exact this
  constructor
  · refine ⟨MOk.of_nums ?_ fun k hk => ?_, ?_, ?_, ?_, hlt, ?_, ?_, ?_, fun k hk hh => ?_, fun j hj => ?_, h.dnl, fun k hk hc => ?_⟩
    · rw [z isO rfl, z isQ rfl, z isA rfl, z isK rfl, z isH rfl, z isU rfl, z isX rfl, z isV rfl]
      exact h.mu.nums
    · by_cases e : k = G.n
      · subst e; rw [hDnew]; exact loc_plain rfl (by simp) (by simp)
      · have hk' : k < G.n + 1 := hk
        rw [hDold k (by omega)]; exact h.mu.loc k (by omega)
    · rw [o isC rfl, z isL rfl, z isM rfl, hp']
      show WNum p' G.s.v G.s.wt G.s.ws _ _ _
      rcases hpp with ⟨rfl, _⟩ | ⟨rfl, _⟩ | ⟨rfl, _⟩ <;> simpa [WNum, Ps.open, Ps.fin, Ps.pend] using hwg
    · rw [hp']; rcases hpp with ⟨rfl, _⟩ | ⟨rfl, _⟩ | ⟨rfl, _⟩ <;> simp
    · rw [hp']; show G.closed = _; rw [hcl]; rcases hpp with ⟨rfl, _⟩ | ⟨rfl, _⟩ | ⟨rfl, _⟩ <;> rfl
    · rw [hp']; show _ → G.n + 1 < N; rcases hpp with ⟨rfl, h1⟩ | ⟨rfl, h1⟩ | ⟨rfl, h1⟩ <;> simp [h1]
    · rw [hp']; show _ → G.n + 1 = N; rcases hpp with ⟨rfl, h1⟩ | ⟨rfl, h1⟩ | ⟨rfl, h1⟩ <;> simp [h1, Ps.shut]
    · rw [hp']; show G.sent ≤ J ∧ (_ → G.sent < J) ∧ (_ → G.sent = J) ∧ (_ → G.sent = 0)
      rw [hs0]
      rcases hpp with ⟨rfl, h1⟩ | ⟨rfl, h1, h2⟩ | ⟨rfl, h1, h2⟩
      · simp [Ps.shut]
      · simp [h2, Ps.shut]
      · simp [h2, Ps.shut]
    · by_cases e : k = G.n
      · subst e; rw [hDnew] at hh; cases hh
      · have hk' : k < G.n + 1 := hk
        rw [hDold k (by omega)] at hh ⊢; exact h.job k (by omega) hh
    · exact absurd (show j < G.sent from hj) (by omega)
    · by_cases e : k = G.n
      · subst e; rw [hDnew]; simp [isC]
      · have hk' : k < G.n + 1 := hk
        rw [hDold k (by omega)]; exact h.dr k (by omega) hc
  · refine rank_phi hlt ?_
    show 2000 * (J - G.sent) + (sumTo (G.n + 1) fun x => wt (upd G.D G.n _ x)) + 5 * G.s.ms + om N (G.n + 1) (G.spawn N J).p < 2000 * (J - G.sent) + (sumTo G.n fun x => wt (G.D x)) + 5 * G.s.ms + om N G.n G.p
    rw [hp', hp, sum_spawn wt G.n G.D { pc := .rc }]
    have w : wt { pc := .rc } = 7 := rfl
    rw [w]
    rcases hpp with ⟨rfl, h1⟩ | ⟨rfl, h1, h2⟩ | ⟨rfl, h1, h2⟩ <;> simp only [om] <;> omega
theorem exists_sum {f : Nat → Nat} : ∀ {n : Nat}, 1 ≤ sumTo n f → ∃ i, i < n ∧ 1 ≤ f i
  | 0, h => by simp [sumTo] at h
  | n + 1, h => by
    by_cases hc : 1 ≤ f n
    · exact ⟨n, by omega, hc⟩
    · obtain ⟨i, hi, h5⟩ := exists_sum (f := f) (n := n) (by simp only [sumTo] at h; omega)
      exact ⟨i, by omega, h5⟩
/-- It can't wait. -/
def Pc.busy : Pc → Bool
  | .rc | .s1 | .quit => false
  | _ => true
theorem busy_of {T : Th} (h : 1 ≤ isO T ∨ 1 ≤ isA T ∨ 1 ≤ isK T ∨ 1 ≤ isH T ∨ 1 ≤ isU T ∨ 1 ≤ isX T ∨ 1 ≤ isV T ∨ 1 ≤ isL T) : T.pc.busy = true := by
  cases hp : T.pc <;> simp [isO, isA, isK, isH, isU, isX, isV, isL, hp, Pc.loop, Pc.busy] at h ⊢
/-- WHO WAITS FOR THE LOCK WAITS FOR SOMEBODY. -/
theorem mutex_live {n : Nat} {D : Nat → Th} {s : Sh} (h : MOk n D s) {i : Nat} (hi : i < n) (hp : (D i).pc = .s1) (h0 : s.ms = 0) : ∃ k, k < n ∧ (D k).pc.busy = true := by
  have hq : 1 ≤ sumTo n fun x => isQ (D x) := by
    have := le_sumTo (f := fun x => isQ (D x)) hi
    have e : isQ (D i) = 1 := by simp [isQ, hp]
    omega
  have key : (1 ≤ sumTo n fun x => isO (D x)) ∨ (1 ≤ sumTo n fun x => isA (D x)) ∨ (1 ≤ sumTo n fun x => isK (D x)) ∨ (1 ≤ sumTo n fun x => isH (D x)) ∨ (1 ≤ sumTo n fun x => isU (D x)) ∨ (1 ≤ sumTo n fun x => isX (D x)) ∨ (1 ≤ sumTo n fun x => isV (D x)) := by
    cases hS : s.mu.S with
    | true => have := h.st hS; omega
    | false =>
      have a := h.no hS
      cases hW : s.mu.W with
      | true => rw [hW] at a; simp at a; omega
      | false =>
        cases hL : s.mu.L with
        | true => rw [hL] at a; simp at a; omega
        | false =>
          rw [hW] at a
          simp at a
          have := h.v hL hS hW (by omega)
          omega
  rcases key with k | k | k | k | k | k | k
  all_goals
    obtain ⟨x, hx, h1⟩ := exists_sum k
    exact ⟨x, hx, busy_of (by simp [h1])⟩
/-- ████ SOMEBODY HAS A WAY ON. ████ -/
theorem live {N J : Nat} {G : GS} (h : Ok N J G) (hN : 1 ≤ N) (hsn : G.p = .sn ∨ (G.p = .w3 ∧ G.s.ws = 0)) : ∃ i, i < G.n ∧ ((G.D i).pc.busy = true ∨ ((G.D i).pc = .rc ∧ (G.closed = true ∨ G.p = .sn)) ∨ ((G.D i).pc = .s1 ∧ G.s.ms ≠ 0)) := by
  have one : ∀ i, i < G.n → isC (G.D i) = 1 → (G.closed = true ∨ G.p = .sn) → ∃ i, i < G.n ∧ ((G.D i).pc.busy = true ∨ ((G.D i).pc = .rc ∧ (G.closed = true ∨ G.p = .sn)) ∨ ((G.D i).pc = .s1 ∧ G.s.ms ≠ 0)) := by
    intro i hi hc hcl
    by_cases hb : (G.D i).pc.busy = true
    · exact ⟨i, hi, .inl hb⟩
    · by_cases h1 : (G.D i).pc = .s1
      · by_cases h0 : G.s.ms = 0
        · obtain ⟨k, hk, hb⟩ := mutex_live h.mu hi h1 h0
          exact ⟨k, hk, .inl hb⟩
        · exact ⟨i, hi, .inr (.inr ⟨h1, h0⟩)⟩
      · have : (G.D i).pc = .rc := by
          cases hp : (G.D i).pc <;> simp [hp, Pc.busy, isC] at hb h1 hc ⊢
        exact ⟨i, hi, .inr (.inl ⟨this, hcl⟩)⟩
  rcases hsn with hp | ⟨hp, hw⟩
  · have hn : G.n = N := h.all (.inl hp)
    have hc : G.closed = false := by rw [h.cl, hp]; rfl
    exact one 0 (by omega) (h.dr 0 (by omega) hc).1 (.inr hp)
  · have hc : G.closed = true := by rw [h.cl, hp]; rfl
    have hwg := (h.wg.2.1 hp)
    by_cases c0 : (sumTo G.n fun i => isC (G.D i)) = 0
    · have := hwg.2.2.2.2 c0
      obtain ⟨k, hk, h1⟩ := exists_sum (f := fun i => isL (G.D i)) (n := G.n) (by omega)
      exact ⟨k, hk, .inl (busy_of (by simp [h1]))⟩
    · obtain ⟨k, hk, h1⟩ := exists_sum (f := fun i => isC (G.D i)) (n := G.n) (by omega)
      have h2 : isC (G.D k) = 1 := by
        have : isC (G.D k) ≤ 1 := by unfold isC; split <;> simp
        omega
      exact one k hk h2 (.inl hc)
/-- AT MOST ONE OWNS. -/
theorem one_owner {n : Nat} {D : Nat → Th} {s : Sh} (h : MOk n D s) {i k : Nat} (hi : i < n) (hk : k < n) (h1 : isO (D i) = 1) (h2 : isO (D k) = 1) : i = k := by
  apply Classical.byContradiction
  intro hne
  have e1 := sumTo_upd D { pc := .rc } isO hi
  have e2 : isO (upd D i { pc := .rc } k) ≤ sumTo n fun x => isO (upd D i { pc := .rc } x) := le_sumTo (f := fun x => isO (upd D i { pc := .rc } x)) hk
  rw [upd_ne _ _ (Ne.symm hne), h2] at e2
  have e3 : isO { pc := .rc } = 0 := rfl
  have : sumTo n (fun i => isO (D i)) ≤ 1 := by
    cases hS : s.mu.S with
    | true => have := (h.st hS).2.2.2.1; cases hL : s.mu.L <;> rw [hL] at this <;> simp at this <;> omega
    | false => have := (h.no hS).1; cases hL : s.mu.L <;> rw [hL] at this <;> simp at this <;> omega
  omega
end Go.Proofs.Ytapjmifhhbpikaa

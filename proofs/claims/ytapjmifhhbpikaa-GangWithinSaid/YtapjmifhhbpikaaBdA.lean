/- The gang as an abstract automaton: n workers over a sync.Mutex. Plain Lean. -/
import Derived.Conc.CrowdBase
set_option linter.unusedVariables false
set_option linter.unusedSimpArgs false
namespace Go.Proofs.Ytapjmifhhbpikaa
open Go.ConcN (sumTo upd sumTo_upd upd_ne upd_same)
/-- The mutex's word: locked, woken, starving, how many wait. -/
structure Mx where
  L : Bool
  W : Bool
  S : Bool
  k : Nat
  deriving DecidableEq
def Mx.zero : Mx := ⟨false, false, false, 0⟩
inductive Pc where
  | rc | bx | ld | l0 | r0 | sq | c1 | r1 | c2 | t1 | s1 | t2 | r2 | a1 | r3 | le | la | ur | ud | u0 | uc | ux | us | uh | ue
  | wr | wk | d1 | d2 | d3 | d4 | quit
  deriving DecidableEq
/-- A worker. -/
structure Th where
  pc : Pc
  old : Mx := .zero
  aw : Bool := false
  sv : Bool := false
  it : Nat := 0
  job : Nat := 0
  blk : List Nat := []
  deriving DecidableEq
/-- What all share: the mutex's word and semaphore; the group's count, its waiter, its semaphore. -/
structure Sh where
  mu : Mx
  ms : Nat
  v : Nat
  wt : Bool
  ws : Nat
  deriving DecidableEq
def Pc.loop : Pc → Bool
  | .sq | .c1 | .r1 | .c2 | .r3 => true
  | _ => false
def isO (T : Th) : Nat := match T.pc with | .le | .la | .ur | .ud | .u0 => 1 | _ => 0
def isQ (T : Th) : Nat := match T.pc with | .t1 | .s1 => 1 | _ => 0
def isA (T : Th) : Nat := if T.pc.loop && T.aw then 1 else 0
def isK (T : Th) : Nat := match T.pc with | .t2 | .r2 => 1 | _ => 0
def isH (T : Th) : Nat := match T.pc with | .a1 => 1 | _ => 0
def isU (T : Th) : Nat := match T.pc with | .us => 1 | _ => 0
def isX (T : Th) : Nat := match T.pc with | .uh => 1 | _ => 0
def isV (T : Th) : Nat := match T.pc with | .uc | .ux => 1 | _ => 0
/-- lockSlow's loop head, to the next stop. -/
def hd (T : Th) : Th := { T with pc := if T.old.L && !T.old.S then .sq else .c2 }
/-- What lockSlow wants the word to be. -/
def nw (T : Th) : Mx := ⟨T.old.L || !T.old.S, T.old.W && !T.aw, T.old.S || (T.sv && T.old.L), T.old.k + (if T.old.L || T.old.S then 1 else 0)⟩
/-- What one knows of its own. -/
structure Lc (T : Th) : Prop where
  sv : T.sv = true → T.pc.loop = true → T.aw = true
  aw : T.aw = true → T.pc = .sq ∨ T.pc = .c2 → T.old.W = true ∧ T.old.S = false
  sq : T.pc = .sq → T.old.L = true ∧ T.old.S = false
  c1 : T.pc = .c1 → T.aw = false ∧ T.sv = false ∧ T.old.L = true ∧ T.old.S = false ∧ T.old.W = false ∧ T.old.k ≠ 0
  uc : T.pc = .uc → T.old.L = false ∧ T.old.W = false ∧ T.old.S = false ∧ T.old.k ≠ 0
  it : T.pc.loop = true → T.it ≤ 4
  sp : T.pc = .c1 ∨ T.pc = .r1 → T.it < 4
  r0 : T.pc = .ld ∨ T.pc = .l0 ∨ T.pc = .r0 → T.aw = false ∧ T.sv = false ∧ T.it = 0
/-- THE MOVES OF THE MUTEX: what a stop may lead to. -/
inductive Mv (T : Th) (s : Sh) : Th → Sh → Prop
  | ld : T.pc = .ld → Mv T s { T with pc := .l0 } s
  | l0h : T.pc = .l0 → s.mu = .zero → Mv T s { T with pc := .le } { s with mu := ⟨true, false, false, 0⟩ }
  | l0m : T.pc = .l0 → s.mu ≠ .zero → Mv T s { T with pc := .r0 } s
  | r0 : T.pc = .r0 → Mv T s (hd { T with old := s.mu }) s
  | sqn : T.pc = .sq → Mv T s { T with pc := .c2 } s
  | sqc : T.pc = .sq → T.it < 4 → T.aw = false → T.old.W = false → T.old.k ≠ 0 → Mv T s { T with pc := .c1 } s
  | sqr : T.pc = .sq → T.it < 4 → Mv T s { T with pc := .r1 } s
  | c1h : T.pc = .c1 → s.mu = T.old → Mv T s { T with pc := .r1, aw := true } { s with mu := { s.mu with W := true } }
  | c1m : T.pc = .c1 → s.mu ≠ T.old → Mv T s { T with pc := .r1 } s
  | r1 : T.pc = .r1 → Mv T s (hd { T with old := s.mu, it := T.it + 1 }) s
  | c2o : T.pc = .c2 → s.mu = T.old → T.old.L = false → T.old.S = false → Mv T s { T with pc := .le } { s with mu := nw T }
  | c2q (p : Pc) : T.pc = .c2 → s.mu = T.old → (T.old.L || T.old.S) = true → p = .t1 ∨ p = .s1 → Mv T s { T with pc := p } { s with mu := nw T }
  | c2m : T.pc = .c2 → s.mu ≠ T.old → Mv T s { T with pc := .r3 } s
  | t1 : T.pc = .t1 → Mv T s { T with pc := .s1 } s
  | s1 (p : Pc) : T.pc = .s1 → s.ms ≠ 0 → p = .t2 ∨ p = .r2 → Mv T s { T with pc := p } { s with ms := s.ms - 1 }
  | t2 (b : Bool) : T.pc = .t2 → Mv T s { T with pc := .r2, sv := b } s
  | r2s : T.pc = .r2 → s.mu.S = true → Mv T s { T with pc := .a1, old := s.mu } s
  | r2n : T.pc = .r2 → s.mu.S = false → Mv T s (hd { T with old := s.mu, aw := true, it := 0 }) s
  | a1 (b : Bool) : T.pc = .a1 → Mv T s { T with pc := .le } { s with mu := ⟨true, s.mu.W, b, s.mu.k - 1⟩ }
  | r3 : T.pc = .r3 → Mv T s (hd { T with old := s.mu }) s
  | le : T.pc = .le → Mv T s { T with pc := .la } s
  | la : T.pc = .la → Mv T s { T with pc := .ur } s
  | ur : T.pc = .ur → Mv T s { T with pc := .ud } s
  | ud : T.pc = .ud → Mv T s { T with pc := .u0 } s
  | u0x : T.pc = .u0 → s.mu.S = true → Mv T s { T with pc := .uh } { s with mu := { s.mu with L := false } }
  | u0e : T.pc = .u0 → s.mu.S = false → (s.mu.k = 0 ∨ s.mu.W = true) → Mv T s { T with pc := .ue } { s with mu := { s.mu with L := false } }
  | u0c : T.pc = .u0 → s.mu.S = false → s.mu.k ≠ 0 → s.mu.W = false → Mv T s { T with pc := .uc, old := { s.mu with L := false } } { s with mu := { s.mu with L := false } }
  | uch : T.pc = .uc → s.mu = T.old → Mv T s { T with pc := .us } { s with mu := ⟨false, true, false, s.mu.k - 1⟩ }
  | ucm : T.pc = .uc → s.mu ≠ T.old → Mv T s { T with pc := .ux } s
  | uxe : T.pc = .ux → (s.mu.k = 0 ∨ s.mu.L = true ∨ s.mu.W = true ∨ s.mu.S = true) → Mv T s { T with pc := .ue } s
  | uxc : T.pc = .ux → s.mu.k ≠ 0 → s.mu.L = false → s.mu.W = false → s.mu.S = false → Mv T s { T with pc := .uc, old := s.mu } s
  | us : T.pc = .us → Mv T s { T with pc := .ue } { s with ms := s.ms + 1 }
  | uh : T.pc = .uh → Mv T s { T with pc := .ue } { s with ms := s.ms + 1 }
  | ue : T.pc = .ue → Mv T s { pc := .rc } s
/-- THE MUTEX IS SOUND. -/
structure MOk (n : Nat) (D : Nat → Th) (s : Sh) : Prop where
  no : s.mu.S = false → sumTo n (fun i => isO (D i)) = s.mu.L.toNat ∧ s.ms + sumTo n (fun i => isU (D i)) + sumTo n (fun i => isA (D i)) + sumTo n (fun i => isK (D i)) = s.mu.W.toNat ∧ sumTo n (fun i => isH (D i)) = 0 ∧ sumTo n (fun i => isX (D i)) = 0 ∧ s.mu.k + s.ms + sumTo n (fun i => isU (D i)) = sumTo n (fun i => isQ (D i))
  st : s.mu.S = true → s.mu.W = false ∧ sumTo n (fun i => isA (D i)) = 0 ∧ sumTo n (fun i => isU (D i)) = 0 ∧ sumTo n (fun i => isO (D i)) = s.mu.L.toNat ∧ sumTo n (fun i => isO (D i)) + sumTo n (fun i => isX (D i)) + s.ms + sumTo n (fun i => isK (D i)) + sumTo n (fun i => isH (D i)) = 1 ∧
    s.mu.k = sumTo n (fun i => isQ (D i)) + sumTo n (fun i => isK (D i)) + sumTo n (fun i => isH (D i))
  v : s.mu.L = false → s.mu.S = false → s.mu.W = false → s.mu.k ≠ 0 → 1 ≤ sumTo n (fun i => isV (D i))
  loc : ∀ i, i < n → Lc (D i)
theorem b2n (b : Bool) : b.toNat = if b = true then 1 else 0 := by cases b <;> rfl
theorem loc_upd {n : Nat} {D : Nat → Th} {i : Nat} {T' : Th} (h : ∀ j, j < n → Lc (D j)) (hl : Lc T') : ∀ j, j < n → Lc (upd D i T' j) := by
  intro j hj
  by_cases e : j = i
  · subst e; rw [upd_same]; exact hl
  · rw [upd_ne _ _ e]; exact h j hj
theorem hd_pc (T : Th) : (hd T).pc = .sq ∧ T.old.L = true ∧ T.old.S = false ∨ (hd T).pc = .c2 ∧ ¬ (T.old.L = true ∧ T.old.S = false) := by
  unfold hd
  cases h1 : T.old.L <;> cases h2 : T.old.S <;> simp [h1, h2]
/-- Behind a load. -/
theorem loc_hd {T : Th} (hsv : T.sv = true → T.aw = true) (haw : T.aw = true → T.old.W = true ∧ T.old.S = false) (hit : T.it ≤ 4) : Lc (hd T) := by
  have e1 : (hd T).sv = T.sv := rfl
  have e2 : (hd T).aw = T.aw := rfl
  have e3 : (hd T).old = T.old := rfl
  have e4 : (hd T).it = T.it := rfl
  rcases hd_pc T with ⟨hp, h1, h2⟩ | ⟨hp, h1⟩
  · exact ⟨by rw [e1, e2]; exact fun h _ => hsv h, by rw [e2, e3]; exact fun h _ => haw h, by rw [e3]; exact fun _ => ⟨h1, h2⟩, by rw [hp]; simp, by rw [hp]; simp, by rw [e4]; exact fun _ => hit, by rw [hp]; simp, by rw [hp]; simp⟩
  · exact ⟨by rw [e1, e2]; exact fun h _ => hsv h, by rw [e2, e3]; exact fun h _ => haw h, by rw [hp]; simp, by rw [hp]; simp, by rw [hp]; simp, by rw [e4]; exact fun _ => hit, by rw [hp]; simp, by rw [hp]; simp⟩
/-- Nothing is asked of it. -/
theorem loc_plain {T : Th} (h : T.pc.loop = false) (h1 : T.pc ≠ .uc) (h2 : T.pc ≠ .ld ∧ T.pc ≠ .l0 ∧ T.pc ≠ .r0) : Lc T := by
  refine ⟨fun _ h' => ?_, fun _ h' => ?_, fun h' => ?_, fun h' => ?_, fun h' => absurd h' h1, fun h' => ?_, fun h' => ?_, fun h' => ?_⟩
  · rw [h] at h'; cases h'
  · rcases h' with e | e <;> rw [e] at h <;> cases h
  · rw [h'] at h; cases h
  · rw [h'] at h; cases h
  · rw [h] at h'; cases h'
  · rcases h' with e | e <;> rw [e] at h <;> cases h
  · rcases h' with e | e | e <;> simp [e] at h2
set_option maxHeartbeats 4000000 in
/-- THE LOCAL LAW IS KEPT. -/
theorem loc_mv {T T' : Th} {s s' : Sh} (h : Lc T) (hm : Mv T s T' s') (ha : T.aw = true → T.pc.loop = true → s.mu.W = true ∧ s.mu.S = false) (hk : T.pc = .r2 → s.mu.S = false → s.mu.W = true) : Lc T' := by
  cases hm with
  | ld hp => exact ⟨fun _ h' => (by cases h'), fun _ h' => (by simp at h'), fun h' => (by cases h'), fun h' => (by cases h'), fun h' => (by cases h'), fun h' => (by cases h'), fun h' => (by simp at h'), fun _ => h.r0 (.inl hp)⟩
  | l0m hp => exact ⟨fun _ h' => (by cases h'), fun _ h' => (by simp at h'), fun h' => (by cases h'), fun h' => (by cases h'), fun h' => (by cases h'), fun h' => (by cases h'), fun h' => (by simp at h'), fun _ => h.r0 (.inr (.inl hp))⟩
  | r0 hp => 
    obtain ⟨a, b, c⟩ := h.r0 (.inr (.inr hp))
    exact loc_hd (by simp [b]) (by simp [a]) (by show T.it ≤ 4; omega)
  | sqn hp =>
    exact ⟨fun h1 _ => h.sv h1 (by rw [hp]; rfl), fun h1 _ => h.aw h1 (.inl hp), fun h' => (by cases h'), fun h' => (by cases h'), fun h' => (by cases h'), fun _ => h.it (by rw [hp]; rfl), fun h' => (by simp at h'), fun h' => (by simp at h')⟩
  | sqc hp i4 aw ow ok =>
    have hs := h.sq hp
    have hsv : T.sv = false := by
      cases e : T.sv with
      | false => rfl
      | true => have := h.sv e (by rw [hp]; rfl); rw [aw] at this; cases this
    exact ⟨fun h1 _ => h.sv h1 (by rw [hp]; rfl), fun _ h' => (by simp at h'), fun h' => (by cases h'), fun _ => ⟨aw, hsv, hs.1, hs.2, ow, ok⟩, fun h' => (by cases h'), fun _ => h.it (by rw [hp]; rfl), fun _ => i4, fun h' => (by simp at h')⟩
  | sqr hp i4 =>
    exact ⟨fun h1 _ => h.sv h1 (by rw [hp]; rfl), fun _ h' => (by simp at h'), fun h' => (by cases h'), fun h' => (by cases h'), fun h' => (by cases h'), fun _ => h.it (by rw [hp]; rfl), fun _ => i4, fun h' => (by simp at h')⟩
  | c1h hp hmu =>
    exact ⟨fun _ _ => rfl, fun _ h' => (by simp at h'), fun h' => (by cases h'), fun h' => (by cases h'), fun h' => (by cases h'), fun _ => h.it (by rw [hp]; rfl), fun _ => h.sp (.inl hp), fun h' => (by simp at h')⟩
  | c1m hp hmu =>
    exact ⟨fun h1 _ => h.sv h1 (by rw [hp]; rfl), fun _ h' => (by simp at h'), fun h' => (by cases h'), fun h' => (by cases h'), fun h' => (by cases h'), fun _ => h.it (by rw [hp]; rfl), fun _ => h.sp (.inl hp), fun h' => (by simp at h')⟩
  | r1 hp =>
    have hi := h.sp (.inr hp)
    exact loc_hd (fun h1 => h.sv h1 (by rw [hp]; rfl)) (fun h1 => ha h1 (by rw [hp]; rfl)) (by show T.it + 1 ≤ 4; omega)
  | c2m hp hmu =>
    exact ⟨fun h1 _ => h.sv h1 (by rw [hp]; rfl), fun _ h' => (by simp at h'), fun h' => (by cases h'), fun h' => (by cases h'), fun h' => (by cases h'), fun _ => h.it (by rw [hp]; rfl), fun h' => (by simp at h'), fun h' => (by simp at h')⟩
  | r2n hp hs => exact loc_hd (fun _ => rfl) (fun _ => ⟨hk hp hs, hs⟩) (Nat.zero_le _)
  | r3 hp => exact loc_hd (fun h1 => h.sv h1 (by rw [hp]; rfl)) (fun h1 => ha h1 (by rw [hp]; rfl)) (h.it (by rw [hp]; rfl))
  | u0c hp h1 h2 h3 => exact ⟨fun _ h' => (by cases h'), fun _ h' => (by simp at h'), fun h' => (by cases h'), fun h' => (by cases h'), fun _ => ⟨rfl, h3, h1, h2⟩, fun h' => (by cases h'), fun h' => (by simp at h'), fun h' => (by simp at h')⟩
  | uxc hp h1 h2 h3 h4 => exact ⟨fun _ h' => (by cases h'), fun _ h' => (by simp at h'), fun h' => (by cases h'), fun h' => (by cases h'), fun _ => ⟨h2, h3, h4, h1⟩, fun h' => (by cases h'), fun h' => (by simp at h'), fun h' => (by simp at h')⟩
  | c2q p hp h1 h2 h3 => rcases h3 with rfl | rfl <;> exact loc_plain rfl (by simp) (by simp)
  | s1 p hp h1 h2 => rcases h2 with rfl | rfl <;> exact loc_plain rfl (by simp) (by simp)
  | _ => exact loc_plain rfl (by simp) (by simp)
theorem hd_ind (T : Th) : isO (hd T) = 0 ∧ isQ (hd T) = 0 ∧ isA (hd T) = (if T.aw then 1 else 0) ∧ isK (hd T) = 0 ∧ isH (hd T) = 0 ∧ isU (hd T) = 0 ∧ isX (hd T) = 0 ∧ isV (hd T) = 0 := by
  have e2 : (hd T).aw = T.aw := rfl
  rcases hd_pc T with ⟨hp, -⟩ | ⟨hp, -⟩ <;> simp [isO, isQ, isA, isK, isH, isU, isX, isV, hp, Pc.loop, e2]
/-- The numbers of a sound mutex. -/
def NOk (L W S : Bool) (k ms o q a c h u x v : Nat) : Prop :=
  (S = false → o = L.toNat ∧ ms + u + a + c = W.toNat ∧ h = 0 ∧ x = 0 ∧ k + ms + u = q) ∧
  (S = true → W = false ∧ a = 0 ∧ u = 0 ∧ o = L.toNat ∧ o + x + ms + c + h = 1 ∧ k = q + c + h) ∧ (L = false → S = false → W = false → k ≠ 0 → 1 ≤ v)
theorem MOk.nums {n : Nat} {D : Nat → Th} {s : Sh} (h : MOk n D s) : NOk s.mu.L s.mu.W s.mu.S s.mu.k s.ms (sumTo n fun i => isO (D i)) (sumTo n fun i => isQ (D i)) (sumTo n fun i => isA (D i)) (sumTo n fun i => isK (D i)) (sumTo n fun i => isH (D i)) (sumTo n fun i => isU (D i)) (sumTo n fun i => isX (D i)) (sumTo n fun i => isV (D i)) :=
  ⟨h.no, h.st, h.v⟩
theorem MOk.of_nums {n : Nat} {D : Nat → Th} {s : Sh} (h : NOk s.mu.L s.mu.W s.mu.S s.mu.k s.ms (sumTo n fun i => isO (D i)) (sumTo n fun i => isQ (D i)) (sumTo n fun i => isA (D i)) (sumTo n fun i => isK (D i)) (sumTo n fun i => isH (D i)) (sumTo n fun i => isU (D i)) (sumTo n fun i => isX (D i)) (sumTo n fun i => isV (D i))) (hl : ∀ i, i < n → Lc (D i)) : MOk n D s :=
  ⟨h.1, h.2.1, h.2.2, hl⟩
set_option maxHeartbeats 8000000 in
/-- THE NUMBERS ARE KEPT by a move of one worker. -/
theorem nums_mv {T T' : Th} {s s' : Sh} (hm : Mv T s T' s') (hL : Lc T) {o q a c h u x v o' q' a' c' h' u' x' v' : Nat}
    (eO : o' + isO T = o + isO T') (eQ : q' + isQ T = q + isQ T') (eA : a' + isA T = a + isA T') (eK : c' + isK T = c + isK T') (eH : h' + isH T = h + isH T') (eU : u' + isU T = u + isU T') (eX : x' + isX T = x + isX T') (eV : v' + isV T = v + isV T')
    (lO : isO T ≤ o) (lQ : isQ T ≤ q) (lA : isA T ≤ a) (lK : isK T ≤ c) (lH : isH T ≤ h) (lU : isU T ≤ u) (lX : isX T ≤ x) (lV : isV T ≤ v)
    (N : NOk s.mu.L s.mu.W s.mu.S s.mu.k s.ms o q a c h u x v) : NOk s'.mu.L s'.mu.W s'.mu.S s'.mu.k s'.ms o' q' a' c' h' u' x' v' := by
  obtain ⟨⟨L, W, S, k⟩, ms, vv, wt, ws⟩ := s
  unfold NOk at N ⊢
  cases hm with
  | ld hp =>
    simp only [isO, isQ, isA, isK, isH, isU, isX, isV, hp, Pc.loop] at *
    cases L <;> cases W <;> cases S <;> cases haw : T.aw <;> simp [haw] at * <;> omega
  | l0h hp hmu =>
    simp only [Mx.zero, Mx.mk.injEq] at hmu
    obtain ⟨rfl, rfl, rfl, rfl⟩ := hmu
    simp only [isO, isQ, isA, isK, isH, isU, isX, isV, hp, Pc.loop] at *
    simp at *
    omega
  | l0m hp hmu =>
    simp only [isO, isQ, isA, isK, isH, isU, isX, isV, hp, Pc.loop] at *
    cases L <;> cases W <;> cases S <;> cases haw : T.aw <;> simp [haw] at * <;> omega
  | sqn hp =>
    simp only [isO, isQ, isA, isK, isH, isU, isX, isV, hp, Pc.loop] at *
    cases L <;> cases W <;> cases S <;> cases haw : T.aw <;> simp [haw] at * <;> omega
  | sqc hp i4 h1 h2 h3 =>
    simp only [isO, isQ, isA, isK, isH, isU, isX, isV, hp, Pc.loop] at *
    cases L <;> cases W <;> cases S <;> cases haw : T.aw <;> simp [haw] at * <;> omega
  | sqr hp i4 =>
    simp only [isO, isQ, isA, isK, isH, isU, isX, isV, hp, Pc.loop] at *
    cases L <;> cases W <;> cases S <;> cases haw : T.aw <;> simp [haw] at * <;> omega
  | c1h hp hmu =>
    obtain ⟨g1, g2, g3, g4, g5, g6⟩ := hL.c1 hp
    rw [← show _ = T.old from hmu] at g3 g4 g5 g6
    simp only [isO, isQ, isA, isK, isH, isU, isX, isV, hp, Pc.loop] at *
    cases L <;> cases W <;> cases S <;> cases haw : T.aw <;> simp [haw] at * <;> omega
  | c1m hp hmu =>
    simp only [isO, isQ, isA, isK, isH, isU, isX, isV, hp, Pc.loop] at *
    cases L <;> cases W <;> cases S <;> cases haw : T.aw <;> simp [haw] at * <;> omega
  | c2o hp hmu h1 h2 =>
    have ga := hL.aw
    rw [← show _ = T.old from hmu] at h1 h2 ga
    simp only [nw, ← show _ = T.old from hmu]
    simp only [isO, isQ, isA, isK, isH, isU, isX, isV, hp, Pc.loop] at *
    cases L <;> cases W <;> cases S <;> cases haw : T.aw <;> cases hsv : T.sv <;> simp [haw, hsv] at * <;> omega
  | c2m hp hmu =>
    simp only [isO, isQ, isA, isK, isH, isU, isX, isV, hp, Pc.loop] at *
    cases L <;> cases W <;> cases S <;> cases haw : T.aw <;> simp [haw] at * <;> omega
  | t1 hp =>
    simp only [isO, isQ, isA, isK, isH, isU, isX, isV, hp, Pc.loop] at *
    cases L <;> cases W <;> cases S <;> cases haw : T.aw <;> simp [haw] at * <;> omega
  | t2 b hp =>
    simp only [isO, isQ, isA, isK, isH, isU, isX, isV, hp, Pc.loop] at *
    cases L <;> cases W <;> cases S <;> cases b <;> simp at * <;> omega
  | r2s hp h1 =>
    simp only [isO, isQ, isA, isK, isH, isU, isX, isV, hp, Pc.loop] at *
    cases L <;> cases W <;> cases S <;> cases haw : T.aw <;> simp [haw] at * <;> omega
  | a1 b hp =>
    simp only [isO, isQ, isA, isK, isH, isU, isX, isV, hp, Pc.loop] at *
    cases L <;> cases W <;> cases S <;> cases b <;> simp at * <;> omega
  | le hp =>
    simp only [isO, isQ, isA, isK, isH, isU, isX, isV, hp, Pc.loop] at *
    cases L <;> cases W <;> cases S <;> cases haw : T.aw <;> simp [haw] at * <;> omega
  | la hp =>
    simp only [isO, isQ, isA, isK, isH, isU, isX, isV, hp, Pc.loop] at *
    cases L <;> cases W <;> cases S <;> cases haw : T.aw <;> simp [haw] at * <;> omega
  | ur hp =>
    simp only [isO, isQ, isA, isK, isH, isU, isX, isV, hp, Pc.loop] at *
    cases L <;> cases W <;> cases S <;> cases haw : T.aw <;> simp [haw] at * <;> omega
  | ud hp =>
    simp only [isO, isQ, isA, isK, isH, isU, isX, isV, hp, Pc.loop] at *
    cases L <;> cases W <;> cases S <;> cases haw : T.aw <;> simp [haw] at * <;> omega
  | u0x hp h1 =>
    simp only [isO, isQ, isA, isK, isH, isU, isX, isV, hp, Pc.loop] at *
    cases L <;> cases W <;> cases S <;> cases haw : T.aw <;> simp [haw] at * <;> omega
  | u0e hp h1 h2 =>
    simp only [isO, isQ, isA, isK, isH, isU, isX, isV, hp, Pc.loop] at *
    cases L <;> cases W <;> cases S <;> cases haw : T.aw <;> simp [haw] at * <;> omega
  | u0c hp h1 h2 h3 =>
    simp only [isO, isQ, isA, isK, isH, isU, isX, isV, hp, Pc.loop] at *
    cases L <;> cases W <;> cases S <;> cases haw : T.aw <;> simp [haw] at * <;> omega
  | uch hp hmu =>
    obtain ⟨g1, g2, g3, g4⟩ := hL.uc hp
    rw [← show _ = T.old from hmu] at g1 g2 g3 g4
    simp only [isO, isQ, isA, isK, isH, isU, isX, isV, hp, Pc.loop] at *
    cases L <;> cases W <;> cases S <;> cases haw : T.aw <;> simp [haw] at * <;> omega
  | ucm hp hmu =>
    simp only [isO, isQ, isA, isK, isH, isU, isX, isV, hp, Pc.loop] at *
    cases L <;> cases W <;> cases S <;> cases haw : T.aw <;> simp [haw] at * <;> omega
  | uxe hp h1 =>
    simp only [isO, isQ, isA, isK, isH, isU, isX, isV, hp, Pc.loop] at *
    cases L <;> cases W <;> cases S <;> cases haw : T.aw <;> simp [haw] at * <;> omega
  | uxc hp h1 h2 h3 h4 =>
    simp only [isO, isQ, isA, isK, isH, isU, isX, isV, hp, Pc.loop] at *
    cases L <;> cases W <;> cases S <;> cases haw : T.aw <;> simp [haw] at * <;> omega
  | us hp =>
    simp only [isO, isQ, isA, isK, isH, isU, isX, isV, hp, Pc.loop] at *
    cases L <;> cases W <;> cases S <;> cases haw : T.aw <;> simp [haw] at * <;> omega
  | uh hp =>
    simp only [isO, isQ, isA, isK, isH, isU, isX, isV, hp, Pc.loop] at *
    cases L <;> cases W <;> cases S <;> cases haw : T.aw <;> simp [haw] at * <;> omega
  | ue hp =>
    simp only [isO, isQ, isA, isK, isH, isU, isX, isV, hp, Pc.loop] at *
    cases L <;> cases W <;> cases S <;> cases haw : T.aw <;> simp [haw] at * <;> omega
  | r0 hp =>
    have g := (hL.r0 (.inr (.inr hp))).1
    obtain ⟨f1, f2, f3, f4, f5, f6, f7, f8⟩ := hd_ind { T with old := ⟨L, W, S, k⟩ }
    rw [f1] at eO; rw [f2] at eQ; rw [f3] at eA; rw [f4] at eK; rw [f5] at eH; rw [f6] at eU; rw [f7] at eX; rw [f8] at eV
    clear f1 f2 f3 f4 f5 f6 f7 f8
    simp only [isO, isQ, isA, isK, isH, isU, isX, isV, hp, Pc.loop] at *
    cases L <;> cases W <;> cases S <;> cases haw : T.aw <;> simp [haw] at * <;> omega
  | r1 hp =>
    obtain ⟨f1, f2, f3, f4, f5, f6, f7, f8⟩ := hd_ind { T with old := ⟨L, W, S, k⟩, it := T.it + 1 }
    rw [f1] at eO; rw [f2] at eQ; rw [f3] at eA; rw [f4] at eK; rw [f5] at eH; rw [f6] at eU; rw [f7] at eX; rw [f8] at eV
    clear f1 f2 f3 f4 f5 f6 f7 f8
    simp only [isO, isQ, isA, isK, isH, isU, isX, isV, hp, Pc.loop] at *
    cases L <;> cases W <;> cases S <;> cases haw : T.aw <;> simp [haw] at * <;> omega
  | r3 hp =>
    obtain ⟨f1, f2, f3, f4, f5, f6, f7, f8⟩ := hd_ind { T with old := ⟨L, W, S, k⟩ }
    rw [f1] at eO; rw [f2] at eQ; rw [f3] at eA; rw [f4] at eK; rw [f5] at eH; rw [f6] at eU; rw [f7] at eX; rw [f8] at eV
    clear f1 f2 f3 f4 f5 f6 f7 f8
    simp only [isO, isQ, isA, isK, isH, isU, isX, isV, hp, Pc.loop] at *
    cases L <;> cases W <;> cases S <;> cases haw : T.aw <;> simp [haw] at * <;> omega
  | r2n hp hs =>
    obtain ⟨f1, f2, f3, f4, f5, f6, f7, f8⟩ := hd_ind { T with old := ⟨L, W, S, k⟩, aw := true, it := 0 }
    rw [f1] at eO; rw [f2] at eQ; rw [f3] at eA; rw [f4] at eK; rw [f5] at eH; rw [f6] at eU; rw [f7] at eX; rw [f8] at eV
    clear f1 f2 f3 f4 f5 f6 f7 f8
    simp only [isO, isQ, isA, isK, isH, isU, isX, isV, hp, Pc.loop] at *
    cases L <;> cases W <;> cases S <;> cases haw : T.aw <;> simp [haw] at * <;> omega
  | c2q p hp hmu h1 h2 =>
    have ga := hL.aw
    have gs := hL.sv
    rw [← show _ = T.old from hmu] at h1 ga
    simp only [nw, ← show _ = T.old from hmu]
    rcases h2 with rfl | rfl
    all_goals
      simp only [isO, isQ, isA, isK, isH, isU, isX, isV, hp, Pc.loop] at *
      cases L <;> cases W <;> cases S <;> cases haw : T.aw <;> cases hsv : T.sv <;> simp [haw, hsv] at * <;> omega
  | s1 p hp h1 h2 =>
    rcases h2 with rfl | rfl
    all_goals
      simp only [isO, isQ, isA, isK, isH, isU, isX, isV, hp, Pc.loop] at *
      cases L <;> cases W <;> cases S <;> simp at * <;> omega
/-- What one may still do: what it must do. -/
def wt (T : Th) : Nat := match T.pc with
  | .quit => 0 | .d4 => 1 | .d3 => 2 | .d2 => 3 | .d1 => 4 | .wk => 5 | .wr => 6 | .rc => 7 | .ue => 8 | .us | .uh => 14 | .uc | .ux => 15 | .u0 => 16 | .ud => 17 | .ur => 18 | .la => 19 | .le => 20
  | .s1 => 20 | .t1 => 21 | .a1 => 21 | .r2 => 23 | .t2 => 24 | .sq | .c1 | .r1 | .c2 | .r3 => if T.aw then 22 else 23
  | .r0 => 23 | .l0 => 24 | .ld => 25 | .bx => 26 + T.it
/-- .. and how often it may still miss. -/
def rho (mu : Mx) (T : Th) : Nat := match T.pc with
  | .r0 => 60 | .r3 => 10 * (4 - T.it) + 9 | .sq => 10 * (4 - T.it) + 8 + (if T.old = mu then 0 else 10) | .c1 => 10 * (4 - T.it) + 7 + (if T.old = mu then 0 else 10) | .r1 => 10 * (4 - T.it) + 6
  | .c2 => 10 * (4 - T.it) + 5 + (if T.old = mu then 0 else 10) | .uc => if T.old = mu then 0 else 2 | .ux => 1 | _ => 0
theorem rho_le (mu : Mx) (T : Th) : rho mu T ≤ 60 := by
  unfold rho
  split <;> (try split) <;> omega
theorem hd_wt (T : Th) : wt (hd T) = (if T.aw then 22 else 23) := by
  have e2 : (hd T).aw = T.aw := rfl
  rcases hd_pc T with ⟨hp, -⟩ | ⟨hp, -⟩ <;> simp [wt, hp, e2]
theorem hd_rho (T : Th) : rho T.old (hd T) ≤ 10 * (4 - T.it) + 8 := by
  have e3 : (hd T).old = T.old := rfl
  have e4 : (hd T).it = T.it := rfl
  rcases hd_pc T with ⟨hp, -⟩ | ⟨hp, -⟩ <;> simp [rho, hp, e3, e4]
/-- EVERY MOVE TELLS. -/
theorem rank_mv {T T' : Th} {s s' : Sh} (hm : Mv T s T' s') (hL : Lc T) :
    (wt T' + 5 * s'.ms < wt T + 5 * s.ms) ∨ (wt T' = wt T ∧ s' = s ∧ rho s.mu T' < rho s.mu T) := by
  cases hm with
  | r0 hp =>
    have g := (hL.r0 (.inr (.inr hp)))
    have h1 := hd_wt { T with old := s.mu }
    have h2 := hd_rho { T with old := s.mu }
    exact .inr ⟨by rw [h1]; simp [wt, hp, g.1], rfl, by rw [show rho s.mu T = 60 by simp [rho, hp]]; simp only at h2; omega⟩
  | r1 hp =>
    have h1 := hd_wt { T with old := s.mu, it := T.it + 1 }
    have h2 := hd_rho { T with old := s.mu, it := T.it + 1 }
    have h3 := hL.sp (.inr hp)
    exact .inr ⟨by rw [h1]; simp [wt, hp], rfl, by rw [show rho s.mu T = 10 * (4 - T.it) + 6 by simp [rho, hp]]; simp only at h2; omega⟩
  | r3 hp =>
    have h1 := hd_wt { T with old := s.mu }
    have h2 := hd_rho { T with old := s.mu }
    exact .inr ⟨by rw [h1]; simp [wt, hp], rfl, by rw [show rho s.mu T = 10 * (4 - T.it) + 9 by simp [rho, hp]]; simp only at h2; omega⟩
  | r2n hp hs =>
    have h1 := hd_wt { T with old := s.mu, aw := true, it := 0 }
    left
    rw [h1]
    simp [wt, hp]
  | sqn hp => right; simp [wt, rho, hp]
  | sqc hp => right; simp [wt, rho, hp]
  | sqr hp => right; simp [wt, rho, hp]; split <;> omega
  | c1m hp hmu => right; simp [wt, rho, hp, Ne.symm hmu]
  | c2m hp hmu => right; simp [wt, rho, hp, Ne.symm hmu]
  | ucm hp hmu => right; simp [wt, rho, hp, Ne.symm hmu]
  | uxc hp => right; simp [wt, rho, hp]
  | c1h hp hmu => left; simp [wt, hp, (hL.c1 hp).1]
  | c2o hp => left; simp [wt, hp]; split <;> omega
  | c2q p hp h1 h2 h3 => left; rcases h3 with rfl | rfl <;> simp [wt, hp] <;> split <;> omega
  | s1 p hp h1 h2 => left; rcases h2 with rfl | rfl <;> simp [wt, hp] <;> omega
  | us hp => left; simp [wt, hp]; omega
  | uh hp => left; simp [wt, hp]; omega
  | _ => left; simp_all [wt]
theorem mok_upd {n : Nat} {D : Nat → Th} {s s' : Sh} {i : Nat} {T' : Th} (h : MOk n D s) (hi : i < n) (hm : Mv (D i) s T' s') : MOk n (upd D i T') s' := by
  have hA : (D i).aw = true → (D i).pc.loop = true → s.mu.W = true ∧ s.mu.S = false := by
    intro h1 h2
    have l := Go.ConcN.le_sumTo (f := fun x => isA (D x)) hi
    have e : isA (D i) = 1 := by simp [isA, h1, h2]
    rw [e] at l
    cases hS : s.mu.S with
    | true => have := (h.st hS).2.1; omega
    | false =>
      have := (h.no hS).2.1
      cases hW : s.mu.W with
      | true => exact ⟨rfl, rfl⟩
      | false => rw [hW] at this; simp at this; omega
  have hK : (D i).pc = .r2 → s.mu.S = false → s.mu.W = true := by
    intro h1 hS
    have l := Go.ConcN.le_sumTo (f := fun x => isK (D x)) hi
    have e : isK (D i) = 1 := by simp [isK, h1]
    rw [e] at l
    have := (h.no hS).2.1
    cases hW : s.mu.W with
    | true => rfl
    | false => rw [hW] at this; simp at this; omega
  exact MOk.of_nums (nums_mv hm (h.loc i hi) (sumTo_upd D T' isO hi) (sumTo_upd D T' isQ hi) (sumTo_upd D T' isA hi) (sumTo_upd D T' isK hi) (sumTo_upd D T' isH hi) (sumTo_upd D T' isU hi) (sumTo_upd D T' isX hi) (sumTo_upd D T' isV hi)
    (Go.ConcN.le_sumTo (f := fun x => isO (D x)) hi) (Go.ConcN.le_sumTo (f := fun x => isQ (D x)) hi) (Go.ConcN.le_sumTo (f := fun x => isA (D x)) hi) (Go.ConcN.le_sumTo (f := fun x => isK (D x)) hi) (Go.ConcN.le_sumTo (f := fun x => isH (D x)) hi) (Go.ConcN.le_sumTo (f := fun x => isU (D x)) hi) (Go.ConcN.le_sumTo (f := fun x => isX (D x)) hi) (Go.ConcN.le_sumTo (f := fun x => isV (D x)) hi) h.nums) (loc_upd h.loc (loc_mv (h.loc i hi) hm hA hK))
end Go.Proofs.Ytapjmifhhbpikaa

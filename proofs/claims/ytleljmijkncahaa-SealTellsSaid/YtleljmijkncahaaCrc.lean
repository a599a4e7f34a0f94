/-
  PLAIN LAW, no program in sight: the sum of a text (a row of 32 bits that is shifted), its linearity, what a sealed text is, and that up to three turned bits, or a burst of 32, are seen in up to 8000 bits.
-/
namespace Go.Proofs.Ytleljmijkncahaa.Crc

/-- One step of the row. -/
def A (r : Nat) : Nat := (r / 2) ^^^ (r % 2 * 3988292384)
def It : Nat → Nat → Nat
  | 0, r => r
  | n + 1, r => It n (A r)

theorem A_zero : A 0 = 0 := rfl
theorem It_zero (n : Nat) : It n 0 = 0 := by
  induction n with
  | zero => rfl
  | succ n ih => exact ih
theorem It_add (m n r : Nat) : It (m + n) r = It n (It m r) := by
  induction m generalizing r with
  | zero => simp [It]
  | succ m ih => rw [Nat.succ_add]; exact ih (A r)
theorem It_succ (n r : Nat) : It (n + 1) r = A (It n r) := It_add n 1 r

theorem mod_two_xor (x y : Nat) : (x ^^^ y) % 2 = (x % 2) ^^^ (y % 2) := by
  have := Nat.xor_mod_two_pow (a := x) (b := y) (n := 1)
  simpa using this
theorem mul_xor_bits (a b c : Nat) (ha : a < 2) (hb : b < 2) : (a ^^^ b) * c = (a * c) ^^^ (b * c) := by
  have h1 : a = 0 ∨ a = 1 := by omega
  have h2 : b = 0 ∨ b = 1 := by omega
  rcases h1 with rfl | rfl <;> rcases h2 with rfl | rfl <;> simp
theorem xor4 (a b c d : Nat) : (a ^^^ b) ^^^ (c ^^^ d) = (a ^^^ c) ^^^ (b ^^^ d) := by
  rw [Nat.xor_assoc, ← Nat.xor_assoc b c d, Nat.xor_comm b c, Nat.xor_assoc c b d, ← Nat.xor_assoc]
theorem A_xor (x y : Nat) : A (x ^^^ y) = A x ^^^ A y := by
  unfold A
  rw [Nat.xor_div_two, mod_two_xor, mul_xor_bits _ _ _ (Nat.mod_lt _ (by decide)) (Nat.mod_lt _ (by decide)), xor4]
theorem It_xor (n x y : Nat) : It n (x ^^^ y) = It n x ^^^ It n y := by
  induction n generalizing x y with
  | zero => rfl
  | succ n ih => simp only [It]; rw [A_xor, ih]

theorem A_lt (r : Nat) (h : r < 4294967296) : A r < 4294967296 := by
  unfold A
  refine Nat.xor_lt_two_pow (n := 32) (by omega) ?_
  have : r % 2 < 2 := Nat.mod_lt _ (by decide)
  have h2 : r % 2 = 0 ∨ r % 2 = 1 := by omega
  rcases h2 with h2 | h2 <;> rw [h2] <;> decide
theorem It_lt (n r : Nat) (h : r < 4294967296) : It n r < 4294967296 := by
  induction n generalizing r with
  | zero => exact h
  | succ n ih => exact ih _ (A_lt r h)
theorem xor_eq_zero {x y : Nat} (h : x ^^^ y = 0) : x = y := by
  have h1 : (x ^^^ y) ^^^ y = 0 ^^^ y := by rw [h]
  rwa [Nat.xor_assoc, Nat.xor_self, Nat.xor_zero, Nat.zero_xor] at h1
theorem A_eq_zero (r : Nat) (h : r < 4294967296) (h0 : A r = 0) : r = 0 := by
  unfold A at h0
  have e := xor_eq_zero h0
  have h2 : r % 2 = 0 ∨ r % 2 = 1 := by omega
  rcases h2 with h2 | h2 <;> rw [h2] at e <;> omega
theorem It_eq_zero (n r : Nat) (h : r < 4294967296) (h0 : It n r = 0) : r = 0 := by
  induction n generalizing r with
  | zero => exact h0
  | succ n ih => exact A_eq_zero r h (ih _ (A_lt r h) h0)
theorem It_inj (n x y : Nat) (hx : x < 4294967296) (hy : y < 4294967296) (h : It n x = It n y) : x = y := by
  refine xor_eq_zero (It_eq_zero n _ (Nat.xor_lt_two_pow (n := 32) hx hy) ?_)
  rw [It_xor, h, Nat.xor_self]

theorem A_two (x : Nat) : A (x * 2) = x := by
  unfold A
  rw [Nat.mul_mod_left, Nat.mul_div_cancel _ (by decide)]; simp
theorem It_shift (n x : Nat) : It n (x * 2 ^ n) = x := by
  induction n generalizing x with
  | zero => simp [It]
  | succ n ih => simp only [It]; rw [Nat.pow_succ, ← Nat.mul_assoc, A_two, ih]

/-! ### the row by bytes -/
def reg : Nat → List UInt8 → Nat
  | r, [] => r
  | r, c :: l => reg (It 8 (r ^^^ c.toNat)) l

theorem reg_append (r : Nat) (l m : List UInt8) : reg r (l ++ m) = reg (reg r l) m := by
  induction l generalizing r with
  | nil => rfl
  | cons c l ih => exact ih _
theorem reg_lt (r : Nat) (l : List UInt8) (h : r < 4294967296) : reg r l < 4294967296 := by
  induction l generalizing r with
  | nil => exact h
  | cons c l ih =>
    refine ih _ (It_lt _ _ (Nat.xor_lt_two_pow (n := 32) h ?_))
    have := c.toNat_lt; omega
def xors (l m : List UInt8) : List UInt8 := List.zipWith (· ^^^ ·) l m
theorem reg_xor (r r' : Nat) (l m : List UInt8) (h : l.length = m.length) : reg (r ^^^ r') (xors l m) = reg r l ^^^ reg r' m := by
  induction l generalizing r r' m with
  | nil => cases m with
    | nil => rfl
    | cons c m => simp at h
  | cons c l ih => cases m with
    | nil => simp at h
    | cons d m =>
      simp only [xors, List.zipWith_cons_cons, reg]
      have h' : l.length = m.length := by simpa using h
      have := ih (It 8 (r ^^^ c.toNat)) (It 8 (r' ^^^ d.toNat)) m h'
      rw [← this, ← It_xor, UInt8.toNat_xor, xor4]; rfl
theorem reg_zeros (n : Nat) : reg 0 (List.replicate n 0) = 0 := by
  induction n with
  | zero => rfl
  | succ n ih => simp only [List.replicate_succ, reg]; rw [show It 8 (0 ^^^ (0 : UInt8).toNat) = 0 from rfl, ih]
theorem reg_zeros_any (n r : Nat) : reg r (List.replicate n 0) = It (8 * n) r := by
  induction n generalizing r with
  | zero => rfl
  | succ n ih =>
    simp only [List.replicate_succ, reg]
    rw [show r ^^^ (0 : UInt8).toNat = r from Nat.xor_zero r, ih, show 8 * (n + 1) = 8 + 8 * n from by omega, It_add]

/-! ### the sum -/
def M : Nat := 4294967295
def sum (l : List UInt8) : Nat := reg M l ^^^ M
def join (a : Nat) (l : List UInt8) : Nat := reg (a ^^^ M) l ^^^ M
theorem sum_lt (l : List UInt8) : sum l < 4294967296 := Nat.xor_lt_two_pow (n := 32) (reg_lt _ _ (by decide)) (by decide)
theorem join_lt (a : Nat) (l : List UInt8) (h : a < 4294967296) : join a l < 4294967296 :=
  Nat.xor_lt_two_pow (n := 32) (reg_lt _ _ (Nat.xor_lt_two_pow (n := 32) h (by decide))) (by decide)
theorem join_zero (l : List UInt8) : join 0 l = sum l := by unfold join sum; rw [Nat.zero_xor]
theorem join_nil (a : Nat) : join a [] = a := by
  unfold join; simp only [reg]; rw [Nat.xor_assoc, Nat.xor_self, Nat.xor_zero]
theorem join_join (a : Nat) (l m : List UInt8) : join (join a l) m = join a (l ++ m) := by
  unfold join; rw [Nat.xor_assoc, Nat.xor_self, Nat.xor_zero, reg_append]
theorem join_sum (l m : List UInt8) : join (sum l) m = sum (l ++ m) := by
  rw [← join_zero, join_join, join_zero]
theorem not_eq (x : Nat) (h : x < 4294967296) : 4294967295 - x = x ^^^ M := by
  apply Nat.eq_of_testBit_eq
  intro i
  have := Nat.testBit_two_pow_sub_succ (n := 32) (x := x) h i
  rw [show (4294967295 : Nat) - x = 2 ^ 32 - (x + 1) from by omega, this, Nat.testBit_xor, show M = 2 ^ 32 - 1 from rfl, Nat.testBit_two_pow_sub_one]
  by_cases hi : i < 32
  · simp [hi]
  · have hx : x.testBit i = false := Nat.testBit_lt_two_pow (Nat.lt_of_lt_of_le (show x < 2 ^ 32 from h) (Nat.pow_le_pow_right (n := 2) (by decide) (by omega)))
    simp [hi, hx]

theorem sum_turns (s t u : List UInt8) (h1 : s.length = t.length) (h2 : t.length = u.length) :
    sum (xors (xors s t) u) = sum s ^^^ sum t ^^^ sum u := by
  unfold sum
  have hl : (xors s t).length = u.length := by simp [xors, h1, h2]
  have e := reg_xor (M ^^^ M) M (xors s t) u hl
  rw [reg_xor M M s t h1] at e
  rw [show M ^^^ M ^^^ M = M from rfl] at e
  rw [e, xor4 (reg M s) M, Nat.xor_self, Nat.xor_zero, ← Nat.xor_assoc]

/-! ### four bytes of a number, and a sealed text -/
def value : List UInt8 → Nat
  | [] => 0
  | c :: l => c.toNat + 256 * value l
def put (n : Nat) : Nat → List UInt8
  | 0 => []
  | k + 1 => UInt8.ofNat n :: put (n / 256) k
theorem put_length (n k : Nat) : (put n k).length = k := by
  induction k generalizing n with
  | zero => rfl
  | succ k ih => simp [put, ih]
theorem value_lt (l : List UInt8) : value l < 256 ^ l.length := by
  induction l with
  | nil => simp [value]
  | cons c l ih =>
    simp only [value, List.length_cons, Nat.pow_succ]
    have := c.toNat_lt
    omega
theorem value_put (n k : Nat) : value (put n k) = n % 256 ^ k := by
  induction k generalizing n with
  | zero => simp [put, value, Nat.mod_one]
  | succ k ih =>
    simp only [put, value, ih]
    rw [UInt8.toNat_ofNat', show 256 ^ (k + 1) = 256 * 256 ^ k from by rw [Nat.pow_succ, Nat.mul_comm], Nat.mod_mul]
theorem put_value (l : List UInt8) : put (value l) l.length = l := by
  induction l with
  | nil => rfl
  | cons c l ih =>
    have hc := c.toNat_lt
    simp only [value, List.length_cons, put]
    rw [show (c.toNat + 256 * value l) / 256 = value l from by omega, ih]
    congr 1
    apply UInt8.toNat_inj.1
    rw [UInt8.toNat_ofNat']; omega
theorem put_mod (n k : Nat) : put (n % 256 ^ k) k = put n k := by
  have := put_value (put n k)
  rw [put_length, value_put] at this
  exact this

theorem xor_join (a b n : Nat) (h : a < 2 ^ n) : a ^^^ (b * 2 ^ n) = a + b * 2 ^ n := by
  apply Nat.eq_of_testBit_eq
  intro i
  rw [Nat.testBit_xor, Nat.add_comm, Nat.mul_comm, Nat.testBit_two_pow_mul_add _ h, Nat.testBit_two_pow_mul]
  by_cases hi : i < n
  · have hn : ¬ n ≤ i := by omega
    simp [hi, hn]
  · have hx : a.testBit i = false := Nat.testBit_lt_two_pow (Nat.lt_of_lt_of_le h (Nat.pow_le_pow_right (by decide) (by omega)))
    simp [hi, hx]; omega
theorem reg_value (r : Nat) (l : List UInt8) : reg r l = It (8 * l.length) (r ^^^ value l) := by
  induction l generalizing r with
  | nil => simp [reg, value, It]
  | cons c l ih =>
    simp only [reg, value, List.length_cons]
    have hc := c.toNat_lt
    rw [ih, show 8 * (l.length + 1) = 8 + 8 * l.length from by omega, It_add, show c.toNat + 256 * value l = c.toNat + value l * 2 ^ 8 from by omega,
      ← xor_join _ _ 8 (by omega), ← Nat.xor_assoc, It_xor 8 _ (value l * 2 ^ 8), It_shift]

/-- A text with its sum behind it: just those whose row ends so. -/
def Sealed (x : List UInt8) : Prop := 4 ≤ x.length ∧ reg M x = It 32 M
instance (x : List UInt8) : Decidable (Sealed x) := inferInstanceAs (Decidable (_ ∧ _))
theorem sealed_of (t b : List UInt8) (hb : b.length = 4) : Sealed (t ++ b) ↔ value b = sum t := by
  unfold Sealed
  have hv := value_lt b
  rw [hb] at hv
  have hs := sum_lt t
  have hr := reg_lt M t (by decide)
  rw [reg_append, reg_value, hb]
  constructor
  · rintro ⟨_, h⟩
    have e := It_inj 32 _ _ (Nat.xor_lt_two_pow (n := 32) hr hv) (by decide) h
    have e2 : value b = reg M t ^^^ (reg M t ^^^ value b) := by rw [← Nat.xor_assoc, Nat.xor_self, Nat.zero_xor]
    rw [e] at e2
    exact e2
  · intro h
    refine ⟨by simp; omega, ?_⟩
    rw [h]; unfold sum
    rw [← Nat.xor_assoc, Nat.xor_self, Nat.zero_xor]
theorem sealed_seal (t : List UInt8) : Sealed (t ++ put (sum t) 4) := by
  rw [sealed_of _ _ (put_length _ _), value_put]
  exact Nat.mod_eq_of_lt (sum_lt t)
theorem eq_seal (t b : List UInt8) (hb : b.length = 4) : t ++ put (sum t) 4 = t ++ b ↔ Sealed (t ++ b) := by
  rw [sealed_of _ _ hb]
  constructor
  · intro h
    have := List.append_cancel_left h
    rw [← this, value_put]; exact Nat.mod_eq_of_lt (sum_lt t)
  · intro h
    have := put_value b
    rw [hb, h] at this
    rw [this]

/-! ### bits turned over -/
/-- A row of bytes with one bit. -/
def one (n k : Nat) : List UInt8 := List.replicate (k / 8) 0 ++ UInt8.ofNat (2 ^ (k % 8)) :: List.replicate (n - k / 8 - 1) 0
def turn (x : List UInt8) (k : Nat) : List UInt8 := x.set (k / 8) (x.getD (k / 8) 0 ^^^ UInt8.ofNat (2 ^ (k % 8)))
theorem xors_zeros (l : List UInt8) (n : Nat) (h : l.length = n) : xors l (List.replicate n 0) = l := by
  subst h
  induction l with
  | nil => rfl
  | cons c l ih => simp only [xors, List.length_cons, List.replicate_succ, List.zipWith_cons_cons] at ih ⊢; rw [ih]; simp
theorem one_length (n k : Nat) (h : k < 8 * n) : (one n k).length = n := by
  simp [one]; omega
theorem turn_eq (x : List UInt8) (k : Nat) (h : k < 8 * x.length) : turn x k = xors x (one x.length k) := by
  apply List.ext_getElem?
  intro i
  unfold turn xors one
  rw [List.getElem?_zipWith, List.getElem?_set, List.getElem?_append]
  simp only [List.length_replicate]
  by_cases h1 : k / 8 = i
  · subst h1
    have hl : k / 8 < x.length := by omega
    simp [hl, List.getD]
  · rw [if_neg h1]
    by_cases h2 : i < k / 8
    · have hl : i < x.length := by omega
      simp [h2, hl]
    · rw [if_neg h2]
      obtain ⟨j, hj⟩ : ∃ j, i - k / 8 = j + 1 := ⟨i - k / 8 - 1, by omega⟩
      rw [hj]
      simp only [List.getElem?_cons_succ]
      by_cases hl : i < x.length
      · have : j < x.length - k / 8 - 1 := by omega
        simp [hl, this]
      · simp [List.getElem?_eq_none (show x.length ≤ i by omega)]
theorem turn_length (x : List UInt8) (k : Nat) : (turn x k).length = x.length := by simp [turn]
theorem It_one (n k : Nat) (h : k ≤ n) : It n (2 ^ k) = It (n - k) 1 := by
  have e := It_add k (n - k) (2 ^ k)
  rw [show k + (n - k) = n from by omega] at e
  have s := It_shift k 1
  rw [Nat.one_mul] at s
  rw [e, s]
theorem reg_one (n k : Nat) (h : k < 8 * n) : reg 0 (one n k) = It (8 * n - k) 1 := by
  unfold one
  rw [reg_append, reg_zeros]
  simp only [reg]
  rw [reg_zeros_any, ← It_add, Nat.zero_xor, UInt8.toNat_ofNat']
  have h8 : 2 ^ (k % 8) < 2 ^ 8 := Nat.pow_lt_pow_right (by decide) (by omega)
  rw [Nat.mod_eq_of_lt (by exact h8), It_one _ _ (by omega)]
  congr 1; omega
theorem reg_turn (r : Nat) (x : List UInt8) (k : Nat) (h : k < 8 * x.length) : reg r (turn x k) = reg r x ^^^ It (8 * x.length - k) 1 := by
  have := reg_xor r 0 x (one x.length k) (one_length _ _ h).symm
  rw [Nat.xor_zero] at this
  rw [turn_eq _ _ h, this, reg_one _ _ h]

/-! ### the powers differ: a search tree, for the kernel -/
inductive Tree where
  | leaf
  | node (l : Tree) (v : Nat) (r : Tree)
def Tree.ins : Tree → Nat → Option Tree
  | .leaf, x => some (.node .leaf x .leaf)
  | .node l v r, x =>
    match Nat.ble (x + 1) v with
    | true => (match l.ins x with | some l' => some (.node l' v r) | none => none)
    | false => match Nat.ble (v + 1) x with
      | true => (match r.ins x with | some r' => some (.node l v r') | none => none)
      | false => none
def Tree.Mem : Tree → Nat → Prop
  | .leaf, _ => False
  | .node l v r, x => l.Mem x ∨ v = x ∨ r.Mem x
def Tree.In (P : Nat → Prop) : Tree → Prop
  | .leaf => True
  | .node l v r => l.In P ∧ P v ∧ r.In P
def Tree.Ok : Tree → Prop
  | .leaf => True
  | .node l v r => l.Ok ∧ r.Ok ∧ (∀ x, l.Mem x → x < v) ∧ (∀ x, r.Mem x → v < x)
theorem Tree.ins_spec : ∀ (t t' : Tree) (x : Nat), t.Ok → t.ins x = some t' → t'.Ok ∧ ¬ t.Mem x ∧ ∀ y, t'.Mem y ↔ (y = x ∨ t.Mem y)
  | .leaf, t', x, _, h => by
    simp only [Tree.ins, Option.some.injEq] at h
    subst h
    refine ⟨⟨trivial, trivial, fun _ h => h.elim, fun _ h => h.elim⟩, fun h => h, fun y => ?_⟩
    simp only [Tree.Mem, false_or, or_false]
    exact ⟨fun h => h.symm, fun h => h.symm⟩
  | .node l v r, t', x, ⟨hl, hr, hlt, hgt⟩, h => by
    simp only [Tree.ins] at h
    split at h
    · rename_i h1
      have h1 := Nat.le_of_ble_eq_true h1
      split at h
      · rename_i l' hl'
        simp only [Option.some.injEq] at h
        subst h
        obtain ⟨ok, hn, hm⟩ := Tree.ins_spec l l' x hl hl'
        refine ⟨⟨ok, hr, fun y hy => ?_, hgt⟩, fun hx => ?_, fun y => ?_⟩
        · rcases (hm y).1 hy with rfl | hy
          · omega
          · exact hlt y hy
        · rcases hx with hx | hx | hx
          · exact hn hx
          · omega
          · have := hgt x hx; omega
        · simp only [Tree.Mem, hm y, or_assoc]
      · simp at h
    · rename_i h1
      have h1 : ¬ (x + 1 ≤ v) := fun h => by simp [Nat.ble_eq_true_of_le h] at h1
      split at h
      · rename_i h2
        have h2 := Nat.le_of_ble_eq_true h2
        split at h
        · rename_i r' hr'
          simp only [Option.some.injEq] at h
          subst h
          obtain ⟨ok, hn, hm⟩ := Tree.ins_spec r r' x hr hr'
          refine ⟨⟨hl, ok, hlt, fun y hy => ?_⟩, fun hx => ?_, fun y => ?_⟩
          · rcases (hm y).1 hy with rfl | hy
            · omega
            · exact hgt y hy
          · rcases hx with hx | hx | hx
            · have := hlt x hx; omega
            · omega
            · exact hn hx
          · simp only [Tree.Mem, hm y]
            constructor
            · rintro (h | h | h | h) <;> simp [h]
            · rintro (h | h | h | h) <;> simp [h]
        · simp at h
      · simp at h

def differ : Nat → Nat → Tree → Bool
  | 0, _, _ => true
  | n + 1, r, t => match t.ins (r / 2) with
    | some t' => differ n (A r) t'
    | none => false
theorem differ_spec : ∀ (n r : Nat) (t : Tree), t.Ok → differ n r t = true →
    (∀ i, i < n → ¬ t.Mem (It i r / 2)) ∧ ∀ i j, i < j → j < n → It i r / 2 ≠ It j r / 2
  | 0, _, _, _, _ => ⟨fun i h => by omega, fun i j _ h => by omega⟩
  | n + 1, r, t, ht, h => by
    simp only [differ] at h
    split at h
    · rename_i t' ht'
      obtain ⟨ok, hn, hm⟩ := Tree.ins_spec t t' _ ht ht'
      obtain ⟨h1, h2⟩ := differ_spec n (A r) t' ok h
      refine ⟨fun i hi => ?_, fun i j hij hj => ?_⟩
      · cases i with
        | zero => exact hn
        | succ i => exact fun hx => h1 i (by omega) ((hm _).2 (.inr hx))
      · obtain ⟨j, rfl⟩ : ∃ m, j = m + 1 := ⟨j - 1, by omega⟩
        cases i with
        | zero => exact fun he => h1 j (by omega) ((hm _).2 (.inl he.symm))
        | succ i => exact h2 i j (by omega) (by omega)
    · simp at h

theorem powers : differ 8000 1 .leaf = true := by decide +kernel
theorem powers_ne (i j : Nat) (h : i < j) (hj : j < 8000) : It i 1 / 2 ≠ It j 1 / 2 :=
  (differ_spec 8000 1 .leaf trivial powers).2 i j h hj
theorem powers_ne' (i j : Nat) (h : i ≠ j) (hi : i < 8000) (hj : j < 8000) : It i 1 / 2 ≠ It j 1 / 2 := by
  rcases Nat.lt_or_ge i j with h1 | h1
  · exact powers_ne i j h1 hj
  · exact (powers_ne j i (by omega) hi).symm
theorem one_bit (i : Nat) : It i 1 ≠ 0 := fun h => absurd (It_eq_zero i 1 (by decide) h) (by decide)
theorem two_bits (i j : Nat) (h : i ≠ j) (hi : 1 ≤ i) (hi' : i ≤ 8000) (hj : 1 ≤ j) (hj' : j ≤ 8000) : It i 1 ^^^ It j 1 ≠ 0 := by
  intro h0
  obtain ⟨i, rfl⟩ : ∃ m, i = m + 1 := ⟨i - 1, by omega⟩
  obtain ⟨j, rfl⟩ : ∃ m, j = m + 1 := ⟨j - 1, by omega⟩
  rw [It_succ, It_succ, ← A_xor] at h0
  have hl : ∀ n, It n 1 < 4294967296 := fun n => It_lt n 1 (by decide)
  have := xor_eq_zero (A_eq_zero _ (Nat.xor_lt_two_pow (n := 32) (hl i) (hl j)) h0)
  exact powers_ne' i j (by omega) (by omega) (by omega) (by rw [this])
theorem three_least (i j k : Nat) (h1 : i ≠ j) (h2 : k < i) (h3 : k < j) (hi : i ≤ 8000) (hj : j ≤ 8000) (hk : 1 ≤ k) : It i 1 ^^^ It j 1 ^^^ It k 1 ≠ 0 := by
  intro h0
  have hl : ∀ n, It n 1 < 4294967296 := fun n => It_lt n 1 (by decide)
  have e1 : It i 1 = It k (It (i - k) 1) := by rw [← It_add]; congr 1; omega
  have e2 : It j 1 = It k (It (j - k) 1) := by rw [← It_add]; congr 1; omega
  rw [e1, e2, ← It_xor, ← It_xor] at h0
  have := It_eq_zero k _ (Nat.xor_lt_two_pow (n := 32) (Nat.xor_lt_two_pow (n := 32) (hl _) (hl _)) (by decide)) h0
  rw [Nat.xor_assoc] at this
  have e := xor_eq_zero this
  have e3 : It (i - k) 1 / 2 = It (j - k) 1 / 2 := by
    rw [e, Nat.xor_div_two]; simp
  exact powers_ne' (i - k) (j - k) (by omega) (by omega) (by omega) e3
theorem three_bits (i j k : Nat) (h1 : i ≠ j) (h2 : j ≠ k) (h3 : i ≠ k) (hi : 1 ≤ i) (hi' : i ≤ 8000) (hj : 1 ≤ j) (hj' : j ≤ 8000) (hk : 1 ≤ k) (hk' : k ≤ 8000) :
    It i 1 ^^^ It j 1 ^^^ It k 1 ≠ 0 := by
  by_cases a : k < i ∧ k < j
  · exact three_least i j k h1 a.1 a.2 hi' hj' hk
  · by_cases b : i < j ∧ i < k
    · have := three_least j k i h2 b.1 b.2 hj' hk' hi
      rwa [Nat.xor_comm, ← Nat.xor_assoc] at this
    · have := three_least i k j h3 (by omega) (by omega) hi' hk' hj
      rwa [Nat.xor_assoc, Nat.xor_comm (It k 1), ← Nat.xor_assoc] at this

theorem byte_xor_self (a b : UInt8) : (a ^^^ b) ^^^ b = a := by
  rw [UInt8.xor_assoc, UInt8.xor_self, UInt8.xor_zero]
theorem turn_turn (x : List UInt8) (k : Nat) : turn (turn x k) k = x := by
  unfold turn
  rw [List.set_set]
  apply List.ext_getElem?
  intro i
  rw [List.getElem?_set]
  by_cases h1 : k / 8 = i
  · subst h1
    by_cases hl : k / 8 < x.length
    · simp [hl, List.getD, byte_xor_self]
    · simp [hl]
  · simp [h1]
theorem turn_comm (x : List UInt8) (a b : Nat) : turn (turn x a) b = turn (turn x b) a := by
  unfold turn
  apply List.ext_getElem?
  intro i
  simp only [List.getElem?_set, List.length_set, List.getD_eq_getElem?_getD]
  by_cases ha : a / 8 = i <;> by_cases hb : b / 8 = i
  · rw [ha, hb]
    by_cases hl : i < x.length
    · simp [hl]; rw [UInt8.xor_assoc, UInt8.xor_comm (UInt8.ofNat (2 ^ (a % 8))), ← UInt8.xor_assoc]
    · simp [hl]
  · have hba : b / 8 ≠ a / 8 := by omega
    rw [if_neg hb, if_pos ha, if_pos ha, if_neg (show ¬ b / 8 = a / 8 from hba)]
  · have hab : ¬ a / 8 = b / 8 := by omega
    rw [if_pos hb, if_neg ha, if_pos hb, if_neg hab]
  · rw [if_neg hb, if_neg ha, if_neg ha, if_neg hb]

/-- A text with a bit turned over, where there is such a bit. -/
def turnI (x : List UInt8) (k : Int) : List UInt8 := if 0 ≤ k ∧ k < 8 * (x.length : Int) then turn x k.toNat else x
theorem turnI_length (x : List UInt8) (k : Int) : (turnI x k).length = x.length := by
  unfold turnI; split
  · exact turn_length _ _
  · rfl
theorem reg_turn_M (x : List UInt8) (k : Nat) (h : k < 8 * x.length) : reg M (turn x k) = reg M x ^^^ It (8 * x.length - k) 1 := reg_turn M x k h
theorem sealed_of_reg {x y : List UInt8} {z : Nat} (hx : Sealed x) (hl : y.length = x.length) (h : reg M y = reg M x ^^^ z) : Sealed y ↔ z = 0 := by
  unfold Sealed at hx ⊢
  rw [hl, h, hx.2]
  constructor
  · rintro ⟨_, e⟩
    have : It 32 M ^^^ (It 32 M ^^^ z) = It 32 M ^^^ It 32 M := by rw [e]
    rwa [← Nat.xor_assoc, Nat.xor_self, Nat.zero_xor] at this
  · rintro rfl
    exact ⟨hx.1, Nat.xor_zero _⟩
theorem sealed_one {x : List UInt8} (hx : Sealed x) (a : Nat) (ha : a < 8 * x.length) : ¬ Sealed (turn x a) :=
  fun h => one_bit _ ((sealed_of_reg hx (turn_length _ _) (reg_turn_M x a ha)).1 h)
theorem sealed_two {x : List UInt8} (hx : Sealed x) (hl : x.length ≤ 1000) (a b : Nat) (ha : a < 8 * x.length) (hb : b < 8 * x.length) (hab : a ≠ b) : ¬ Sealed (turn (turn x a) b) := by
  intro h
  have e := reg_turn_M (turn x a) b (by rw [turn_length]; exact hb)
  rw [reg_turn_M x a ha, turn_length, Nat.xor_assoc] at e
  exact two_bits _ _ (by omega) (by omega) (by omega) (by omega) (by omega) ((sealed_of_reg hx (by rw [turn_length, turn_length]) e).1 h)
theorem sealed_three {x : List UInt8} (hx : Sealed x) (hl : x.length ≤ 1000) (a b c : Nat) (ha : a < 8 * x.length) (hb : b < 8 * x.length) (hc : c < 8 * x.length) (hab : a ≠ b)
    (hbc : b ≠ c) (hac : a ≠ c) : ¬ Sealed (turn (turn (turn x a) b) c) := by
  intro h
  have e := reg_turn_M (turn (turn x a) b) c (by rw [turn_length, turn_length]; exact hc)
  rw [reg_turn_M (turn x a) b (by rw [turn_length]; exact hb), reg_turn_M x a ha, turn_length, turn_length, turn_length, Nat.xor_assoc, Nat.xor_assoc] at e
  rw [← Nat.xor_assoc (It _ 1)] at e
  exact three_bits _ _ _ (by omega) (by omega) (by omega) (by omega) (by omega) (by omega) (by omega) (by omega) (by omega)
    ((sealed_of_reg hx (by rw [turn_length, turn_length, turn_length]) e).1 h)
/-- ONE, TWO OR THREE BITS TURNED OVER ARE SEEN. -/
theorem sealed_bits {x : List UInt8} (hx : Sealed x) (hl : x.length ≤ 1000) (a b c : Int) : Sealed (turnI (turnI (turnI x a) b) c) ↔ turnI (turnI (turnI x a) b) c = x := by
  refine ⟨fun h => ?_, fun h => by rw [h]; exact hx⟩
  unfold turnI at h ⊢
  by_cases ha : 0 ≤ a ∧ a < 8 * (x.length : Int)
  · simp only [if_pos ha, turn_length] at h ⊢
    by_cases hb : 0 ≤ b ∧ b < 8 * (x.length : Int)
    · simp only [if_pos hb, turn_length] at h ⊢
      by_cases hc : 0 ≤ c ∧ c < 8 * (x.length : Int)
      · simp only [if_pos hc] at h ⊢
        by_cases hab : a = b
        · subst hab; rw [turn_turn] at h; exact absurd h (sealed_one hx _ (by omega))
        · by_cases hbc : b = c
          · subst hbc; rw [turn_turn] at h; exact absurd h (sealed_one hx _ (by omega))
          · by_cases hac : a = c
            · subst hac; rw [turn_comm x, turn_turn] at h; exact absurd h (sealed_one hx _ (by omega))
            · exact absurd h (sealed_three hx hl _ _ _ (by omega) (by omega) (by omega) (by omega) (by omega) (by omega))
      · simp only [if_neg hc] at h ⊢
        by_cases hab : a = b
        · subst hab; rw [turn_turn]
        · exact absurd h (sealed_two hx hl _ _ (by omega) (by omega) (by omega))
    · simp only [if_neg hb, turn_length] at h ⊢
      by_cases hc : 0 ≤ c ∧ c < 8 * (x.length : Int)
      · simp only [if_pos hc] at h ⊢
        by_cases hac : a = c
        · subst hac; rw [turn_turn]
        · exact absurd h (sealed_two hx hl _ _ (by omega) (by omega) (by omega))
      · simp only [if_neg hc] at h ⊢
        exact absurd h (sealed_one hx _ (by omega))
  · simp only [if_neg ha] at h ⊢
    by_cases hb : 0 ≤ b ∧ b < 8 * (x.length : Int)
    · simp only [if_pos hb, turn_length] at h ⊢
      by_cases hc : 0 ≤ c ∧ c < 8 * (x.length : Int)
      · simp only [if_pos hc] at h ⊢
        by_cases hbc : b = c
        · subst hbc; rw [turn_turn]
        · exact absurd h (sealed_two hx hl _ _ (by omega) (by omega) (by omega))
      · simp only [if_neg hc] at h ⊢
        exact absurd h (sealed_one hx _ (by omega))
    · simp only [if_neg hb] at h ⊢
      by_cases hc : 0 ≤ c ∧ c < 8 * (x.length : Int)
      · simp only [if_pos hc] at h ⊢
        exact absurd h (sealed_one hx _ (by omega))
      · simp only [if_neg hc]

/-! ### bursts -/
def burst (x : List UInt8) (at_ : Nat) (by_ : Nat) : Nat → List UInt8
  | 0 => x
  | k + 1 => if by_ / 2 ^ k % 2 = 1 then turnI (burst x at_ by_ k) ((at_ : Int) + k) else burst x at_ by_ k
theorem burst_length (x : List UInt8) (p b k : Nat) : (burst x p b k).length = x.length := by
  induction k with
  | zero => rfl
  | succ k ih => unfold burst; split
                 · rw [turnI_length, ih]
                 · exact ih
theorem burst_reg (x : List UInt8) (p b : Nat) (hp : p < 8 * x.length) (k : Nat) :
    ∃ w, w < 2 ^ k ∧ reg M (burst x p b k) = reg M x ^^^ It (8 * x.length - p) w ∧ (w = 0 → burst x p b k = x) := by
  induction k with
  | zero => exact ⟨0, by decide, by simp [burst, It_zero], fun _ => rfl⟩
  | succ k ih =>
    obtain ⟨w, hw, hr, h0⟩ := ih
    have hpow : 2 ^ (k + 1) = 2 ^ k * 2 := Nat.pow_succ 2 k
    unfold burst
    split
    · unfold turnI
      rw [burst_length]
      split
      · rename_i hb
        have hk : p + k < 8 * x.length := by omega
        refine ⟨w ^^^ 2 ^ k, Nat.xor_lt_two_pow (by omega) (by rw [hpow]; have := Nat.two_pow_pos k; omega), ?_, ?_⟩
        · rw [show ((p : Int) + k).toNat = p + k from by omega, reg_turn_M _ _ (by rw [burst_length]; exact hk), hr, burst_length, It_xor, Nat.xor_assoc,
            It_one (8 * x.length - p) k (by omega), show 8 * x.length - p - k = 8 * x.length - (p + k) from by omega]
        · intro h
          have := xor_eq_zero h
          omega
      · exact ⟨w, by omega, hr, h0⟩
    · exact ⟨w, by omega, hr, h0⟩
theorem sealed_burst {x : List UInt8} (hx : Sealed x) (p b : Nat) (hp : p < 8 * x.length) : Sealed (burst x p b 32) ↔ burst x p b 32 = x := by
  refine ⟨fun h => ?_, fun h => by rw [h]; exact hx⟩
  obtain ⟨w, hw, hr, h0⟩ := burst_reg x p b hp 32
  exact h0 (It_eq_zero _ _ hw ((sealed_of_reg hx (burst_length _ _ _ _) hr).1 h))
end Go.Proofs.Ytleljmijkncahaa.Crc

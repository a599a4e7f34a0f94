/- Several texts of this seat, laid together (no statement of its own): their conditions stand in each theorem. -/
import Derived.Test.YtladmconpolneaaGreatMa
/- Planes: between two vectors, flat, their margins, the same ones? may one be? -/
set_option linter.unusedVariables false
set_option linter.unusedSimpArgs false
namespace Go.Proofs.YtladmconpolneaaGreat
open Go.RowKit
theorem dotL_bd {a b : List Int} (ha : Bd 2097152 a) (hb : Bd 2097152 b) (h : min a.length b.length ≤ 1024) : -4503599627370496 ≤ dotL a b ∧ dotL a b ≤ 4503599627370496 := by
  have := dotTo_bd a b ha hb (min a.length b.length)
  unfold dotL
  omega
theorem bd_up {l : List Int} (h : Bd 1048576 l) : Bd 2097152 l := fun x hx => by have := h x hx; omega
/-- The offset of the plane between two vectors. -/
def offL (a b : List Int) : Int := dotL (subL a b) a + dotL (subL a b) b
theorem offL_bd {a b : List Int} (ha : Bd 1048576 a) (hb : Bd 1048576 b) (h : a.length ≤ 1024) : -9007199254740992 ≤ offL a b ∧ offL a b ≤ 9007199254740992 := by
  have h1 := dotL_bd (subL_bd ha hb) (bd_up ha) (by rw [subL_length]; omega)
  have h2 := dotL_bd (subL_bd ha hb) (bd_up hb) (by rw [subL_length]; omega)
  unfold offL
  omega
theorem Tryz.info68 : (Tryz.prog.info? 68).map (·.size) = some 2 := by kernel_rfl
theorem own_drewN {w : World} {base : Nat} {e : TypeId} {size n : Nat} {v : Value} {xs : List Value} (h : w.ownsRow base e size v n xs) (q : Nat) : (w.drewN q).ownsRow base e size v n xs :=
  own_below h (bel_drewN (Below.refl _ _) q)
theorem own_low {w : World} {base base' : Nat} {e : TypeId} {size : Nat} {v : Value} {n : Nat} {xs : List Value} (h : w.ownsRow base e size v n xs) (hb : base' ≤ base) : w.ownsRow base' e size v n xs :=
  ⟨h.1, h.2.imp id fun ⟨g, cap, cur, h1, h2, h3⟩ => ⟨g, cap, cur, h1, Nat.le_trans hb h2, h3⟩⟩
theorem own_setRow {w : World} {base : Nat} {e : TypeId} {size n : Nat} {v : Value} {xs : List Value} (h : w.ownsRow base e size v n xs) (g : Nat) (cs : Array Value) (hg : g < base) : (w.setRow g cs).ownsRow base e size v n xs :=
  h.kept (row := some g) ⟨rfl, rfl, rfl, by simp, fun i _ hne => setRow_other _ _ _ _ (fun e => hne (by rw [e]))⟩ (by
    cases hv : v.ownBlock with
    | none => exact .inl rfl
    | some k => exact .inr (fun e => by have := own_base h k hv; injection e with e; omega))
/-- A plane of new memory. -/
def MadePlane (w : World) (nrm : List Int) (off : Int) (en : Ending) (w' : World) : Prop :=
  ∃ A c, en = .returned (.agg #[.slice A nrm.length c, .int .i64 off]) ∧ w'.ownsRow w.heap.size 21 1 (.slice A nrm.length c) nrm.length (i32V nrm) ∧ Below w.heap.size w w'
theorem plane_one (A : Option Addr) (n c : Nat) (off : Int) : (#[.slice A n c, .int .i64 off] : Array Value).all (·.oneCell') = true := by simp [Value.oneCell']
set_option maxHeartbeats 800000 in
theorem between_any (a b : List Int) (A B : Option Addr) (c d : Nat) (w : World) (ha : Reads w A a.length (i32V a)) (hb : Reads w B b.length (i32V b)) (hl : a.length = b.length) (hA : Bd 1048576 a) (hB : Bd 1048576 b) (hn : a.length ≤ 1024) :
    Calls Tryz.prog 140 #[.slice A a.length c, .slice B b.length d] w (MadePlane w (subL a b) (offL a b)) := by
  have HLESS := Lib.hid (fun (w1 : World) (hbel : Below w.heap.size w w1) => less_any a b A B c d w1 (ha.below hbel) (hb.below hbel) hl hA hB hn)
  have hsl := subL_length a b
  have HSA : Hid (∀ (w1 : World) C m e, Below w.heap.size w w1 → Reads w1 C m (i32V (subL a b)) → Calls Tryz.prog 101 #[.slice C m e, .slice A a.length c] w1 fun en w' => en = .returned (.int .i64 (dotL (subL a b) a)) ∧ ∃ nn, w' = w1.drewN nn) :=
    fun w1 C m e hbel hr => dot_any (subL a b) a C A m e a.length c w1 hr (ha.below hbel) (subL_bd hA hB) (bd_up hA) (by omega)
  have HSB : Hid (∀ (w1 : World) C m e, Below w.heap.size w w1 → Reads w1 C m (i32V (subL a b)) → Calls Tryz.prog 101 #[.slice C m e, .slice B b.length d] w1 fun en w' => en = .returned (.int .i64 (dotL (subL a b) b)) ∧ ∃ nn, w' = w1.drewN nn) :=
    fun w1 C m e hbel hr => dot_any (subL a b) b C B m e b.length d w1 hr (hb.below hbel) (subL_bd hA hB) (bd_up hB) (by omega)
  have h1 := dotL_bd (subL_bd hA hB) (bd_up hA) (by rw [hsl]; omega)
  have h2 := dotL_bd (subL_bd hA hB) (bd_up hB) (by rw [hsl]; omega)
  have HO : Hid (offL a b = dotL (subL a b) a + dotL (subL a b) b) := rfl
  have HSL := Lib.hid hsl
  have HI := Lib.hid Tryz.info68
  have HB0 : Hid (∀ o, Below w.heap.size w (w.alloc o)) := fun o => (Below.refl _ _).alloc (Nat.le_refl _) _
  clear ha hb hl hA hB hsl
  generalize dotL (subL a b) a = da at *
  generalize dotL (subL a b) b = db at *
  generalize subL a b = s at *
  have w2 : IntKind.i64.wrap (da + db) = da + db := IntWalk.i64_in _ (by omega)
  clear h1 h2
  go_enter Tryz.func140, Tryz.ntmps140
  go_wp2_with fail
  refine (HLESS.out _ (HB0.out _)).mono ?_
  rintro en w1 ⟨C, e, rfl, ho1, hb1⟩
  have HO1 := Lib.hid ho1
  have HB1 : Hid (Below w.heap.size w w1) := (HB0.out _).trans (hb1.mono (by simp))
  have HR1 := Lib.hid (own_reads ho1)
  have HG1 : Hid (w1.heap[w.heap.size]? = some (.cells #[.slice none 0 0, .int .i64 0] 68 (0, 0))) := by
    show _ = _
    rw [hb1.block _ (by simp), heap_alloc_new]
  clear ho1 hb1 HLESS
  go_wp2_with fail
  refine (HSA.out _ _ _ _ HB1.out HR1.out).mono ?_
  rintro en w2 ⟨rfl, n2, rfl⟩
  go_wp2_with fail
  refine (HSB.out _ _ _ _ (bel_drewN HB1.out _) (HR1.out.drewN _)).mono ?_
  rintro en w2 ⟨rfl, n3, rfl⟩
  have HG3 : Hid (((w1.drewN n2).drewN n3).heap[w.heap.size]? = some (.cells #[.slice none 0 0, .int .i64 0] 68 (0, 0))) := HG1.out
  have HG4 : Hid ((w1.drewN (n2 + n3)).heap[w.heap.size]? = some (.cells #[.slice none 0 0, .int .i64 0] 68 (0, 0))) := HG1.out
  go_wp2_with (first
    | (refine wpList_store_row rfl 68 (.tmp 4) (.tmp 17) rfl w.heap.size rfl 68 #[.slice none 0 0, .int .i64 0] #[.slice C a.length e, .int .i64 (da + db)] rfl HG3.out HI.out rfl (plane_one _ _ _ _) ?_)
    | (refine wpList_store_row rfl 68 (.tmp 4) (.tmp 17) rfl w.heap.size rfl 68 #[.slice none 0 0, .int .i64 0] #[.slice C a.length e, .int .i64 (da + db)] rfl HG4.out HI.out rfl (plane_one _ _ _ _) ?_))
  have hg := setRow_heap (w1.drewN (n2 + n3)) w.heap.size #[.slice none 0 0, .int .i64 0] #[.slice C a.length e, .int .i64 (da + db)] 68 (0, 0) HG4.out
  refine bodyPost_ret (results_cell_row rfl _ _ _ 68 #[.slice C a.length e, .int .i64 (da + db)] (0, 0) _ rfl hg Tryz.underlying68 rfl HI.out) rfl ?_
  refine ⟨C, e, by rw [HSL.out, HO.out], ?_, ?_⟩
  · rw [HSL.out]
    exact own_low (own_setRow (own_drewN HO1.out _) _ _ (by simp)) (by simp)
  · exact (bel_drewN HB1.out _).trans ⟨rfl, rfl, rfl, by simp, fun i hi => setRow_other _ _ _ _ (by omega)⟩
theorem Tryz.flatInfo : True := trivial
/-- Noughts. -/
theorem flat_any (dim : Nat) (w : World) (hd : dim ≤ 1024) : Calls Tryz.prog 22 #[.int .i64 (dim : Int)] w (MadePlane w (List.replicate dim 0) 0) := by
  have hmk := run_make_ints (P := Tryz.prog) 30 21 .i32 4 Tryz.underlying30 Tryz.info21 (by decide) dim (by omega)
  have HI := Lib.hid Tryz.info68
  have h1 : ¬ (dim : Int) < 0 := by omega
  have h2 : ¬ 1024 < (dim : Int) := by omega
  have HG : Hid (((w.alloc (.cells #[.slice none 0 0, .int .i64 0] 68)).alloc (.cells (madeCells #[.int .i32 0] dim) 21)).heap[w.heap.size]? = some (.cells #[.slice none 0 0, .int .i64 0] 68 (0, 0))) := by
    show _ = _
    rw [Below.heap_alloc _ _ _ (by simp), heap_alloc_new]
  go_enter Tryz.func22, Tryz.ntmps22
  go_wp2_with (refine wpList_store_row rfl 68 (.tmp 2) (.tmp 11) rfl w.heap.size rfl 68 #[.slice none 0 0, .int .i64 0] #[.slice (some ⟨w.heap.size + 1, 0, none⟩) dim dim, .int .i64 0] rfl HG.out HI.out rfl (plane_one _ _ _ _) ?_)
  have hg := setRow_heap _ w.heap.size #[.slice none 0 0, .int .i64 0] #[.slice (some ⟨w.heap.size + 1, 0, none⟩) dim dim, .int .i64 0] 68 (0, 0) HG.out
  refine bodyPost_ret (results_cell_row rfl _ _ _ 68 #[.slice (some ⟨w.heap.size + 1, 0, none⟩) dim dim, .int .i64 0] (0, 0) _ rfl hg Tryz.underlying68 rfl HI.out) rfl ?_
  have ho := own_made (w.alloc (.cells #[.slice none 0 0, .int .i64 0] 68)) (w.heap.size + 1) 21 .i32 dim (by simp) (by omega)
  refine ⟨some ⟨w.heap.size + 1, 0, none⟩, dim, by simp, ?_, ?_⟩
  · have h3 := own_low (own_setRow ho w.heap.size #[.slice (some ⟨w.heap.size + 1, 0, none⟩) dim dim, .int .i64 0] (by omega)) (base' := w.heap.size) (by omega)
    simpa [i32V] using h3
  · exact (((Below.refl w.heap.size w).alloc (Nat.le_refl _) _).alloc (by simp) _).trans ⟨rfl, rfl, rfl, by simp, fun i hi => setRow_other _ _ _ _ (by omega)⟩
/-- The margin of a vector. -/
def marL (nrm : List Int) (off : Int) (v : List Int) : Int := 2 * dotL nrm v - off
theorem marL_bd {nrm v : List Int} {off : Int} (ha : Bd 2097152 nrm) (hb : Bd 2097152 v) (h : min nrm.length v.length ≤ 1024) (ho : -9007199254740992 ≤ off ∧ off ≤ 9007199254740992) : -36028797018963968 ≤ marL nrm off v ∧ marL nrm off v ≤ 36028797018963968 := by
  have := dotL_bd ha hb h
  unfold marL
  omega
set_option maxHeartbeats 400000 in
theorem margin_any (nrm v : List Int) (off : Int) (A B : Option Addr) (n c m d : Nat) (w : World) (ha : Reads w A n (i32V nrm)) (hb : Reads w B m (i32V v)) (hA : Bd 2097152 nrm) (hB : Bd 2097152 v) (hn : min n m ≤ 1024) (ho : -9007199254740992 ≤ off ∧ off ≤ 9007199254740992) :
    Calls Tryz.prog 56 #[.agg #[.slice A n c, .int .i64 off], .slice B m d] w fun e w' => e = .returned (.int .i64 (marL nrm off v)) ∧ Below w.heap.size w w' := by
  obtain rfl := ha.i32_len
  obtain rfl := hb.i32_len
  have H : Hid (∀ (o : Obj) (q : Nat), Calls Tryz.prog 101 #[.slice A nrm.length c, .slice B v.length d] ((w.alloc o).drewN q) fun e w' => e = .returned (.int .i64 (dotL nrm v)) ∧ ∃ nn, w' = ((w.alloc o).drewN q).drewN nn) := fun o q =>
    dot_any nrm v A B _ c _ d _ (ha.below (bel_drewN ((Below.refl _ _).alloc (Nat.le_refl _) _) _)) (hb.below (bel_drewN ((Below.refl _ _).alloc (Nat.le_refl _) _) _)) hA hB hn
  have h1 := dotL_bd hA hB hn
  have HM : Hid (marL nrm off v = 2 * dotL nrm v - off) := rfl
  generalize dotL nrm v = dt at *
  have w1 : IntKind.i64.wrap (2 * dt) = 2 * dt := IntWalk.i64_in _ (by omega)
  have w2 : IntKind.i64.wrap (2 * dt - off) = 2 * dt - off := IntWalk.i64_in _ (by omega)
  clear ha hb hA hB hn ho h1
  go_enter Tryz.func56, Tryz.ntmps56
  go_wp2_with (go_quiet ((go_at_call 101; exact Calls.quiet_of (H.out _ _))))
  go_ret
  exact ⟨ret_int HM.out.symm, bel_drewN ((Below.refl _ _).alloc (Nat.le_refl _) _) _⟩
/-- On which side a vector is. -/
def sideL (nrm : List Int) (off : Int) (v : List Int) : Bool := decide (0 ≤ marL nrm off v)
theorem side_any (nrm v : List Int) (off : Int) (A B : Option Addr) (n c m d : Nat) (w : World) (ha : Reads w A n (i32V nrm)) (hb : Reads w B m (i32V v)) (hA : Bd 2097152 nrm) (hB : Bd 2097152 v) (hn : min n m ≤ 1024) (ho : -9007199254740992 ≤ off ∧ off ≤ 9007199254740992) :
    Calls Tryz.prog 24 #[.agg #[.slice A n c, .int .i64 off], .slice B m d] w fun e w' => e = .returned (.bool (sideL nrm off v)) ∧ Below w.heap.size w w' := by
  have H : Hid (∀ (o : Obj), Calls Tryz.prog 56 #[.agg #[.slice A n c, .int .i64 off], .slice B m d] (w.alloc o) fun e w' => e = .returned (.int .i64 (marL nrm off v)) ∧ Below (w.alloc o).heap.size (w.alloc o) w') := fun o =>
    margin_any nrm v off A B n c m d _ (ha.below ((Below.refl _ _).alloc (Nat.le_refl _) _)) (hb.below ((Below.refl _ _).alloc (Nat.le_refl _) _)) hA hB hn ho
  have HS : Hid (sideL nrm off v = decide (0 ≤ marL nrm off v)) := rfl
  have HI := Lib.hid Tryz.info68
  have HB0 : Hid (∀ o, Below w.heap.size w (w.alloc o)) := fun o => (Below.refl _ _).alloc (Nat.le_refl _) _
  have HG : Hid (∀ cs, (w.alloc (.cells cs 68)).heap[w.heap.size]? = some (.cells cs 68 (0, 0))) := fun cs => heap_alloc_new _ _
  generalize marL nrm off v = mg at *
  clear ha hb hA hB hn ho
  go_enter Tryz.func24, Tryz.ntmps24
  go_wp2_with (first
    | (refine wpList_load_row rfl 68 (.tmp 2) rfl w.heap.size rfl 68 #[.slice A n c, .int .i64 off] (0, 0) _ (HG.out _) Tryz.underlying68 rfl HI.out ?_)
    | (go_at_call 56; refine (H.out _).mono ?_; rintro e w1 ⟨rfl, hb1⟩))
  go_ret
  exact ⟨ret_bool HS.out.symm, (HB0.out _).trans (hb1.mono (by simp))⟩
end Go.Proofs.YtladmconpolneaaGreat

/- Items in memory. -/
set_option linter.unusedVariables false
set_option linter.unusedSimpArgs false
namespace Go.Proofs.YtladmconpolneaaGreat
open Go.RowKit
/-- Items: their dimension, how many, all coordinates. -/
structure ItemsAt (w : World) (B b dim n : Nat) (F : List Int) : Prop where
  hdim : 1 ≤ dim ∧ dim ≤ 1024
  hn : n ≤ 1048576
  len : F.length = n * dim
  bd : Bd 1048576 F
  base : B ≤ b
  box : ∃ A c, w.heap[b]? = some (.cells #[.int .i64 (dim : Int), .slice A F.length c] 178 (0, 0)) ∧ w.ownsRow B 21 1 (.slice A F.length c) F.length (i32V F)
theorem ItemsAt.below {w w' : World} {B b dim n : Nat} {F : List Int} (h : ItemsAt w B b dim n F) (hb : Below w.heap.size w w') : ItemsAt w' B b dim n F := by
  obtain ⟨A, c, h1, h2⟩ := h.box
  exact ⟨h.hdim, h.hn, h.len, h.bd, h.base, A, c, by rw [hb.block _ (lt_of_block h1)]; exact h1, own_below h2 hb⟩
theorem ItemsAt.lt {w : World} {B b dim n : Nat} {F : List Int} (h : ItemsAt w B b dim n F) : b < w.heap.size := by
  obtain ⟨A, c, h1, _⟩ := h.box
  exact lt_of_block h1
theorem own_cap {w : World} {base n c : Nat} {e : TypeId} {size : Nat} {A : Option Addr} {xs : List Value} (h : w.ownsRow base e size (.slice A n c) n xs) : n ≤ c := by
  rcases h.2 with ⟨h1, h2⟩ | ⟨g, cap, cur, h1, _, _, h2, _⟩
  · simp only [Value.slice.injEq] at h1; omega
  · simp only [Value.slice.injEq] at h1; omega
theorem Tryz.info178 : (Tryz.prog.info? 178).map (·.size) = some 2 := by kernel_rfl
def rowL (F : List Int) (dim id : Nat) : List Int := (F.drop (id * dim)).take dim
theorem div_dim (n dim : Nat) (h : 1 ≤ dim) : (((n * dim : Nat)) : Int) / (dim : Int) = (n : Int) := by
  rw [← Int.natCast_ediv, Nat.mul_div_cancel _ (by omega)]
theorem len_any {B b dim n : Nat} {F : List Int} (w : World) (h : ItemsAt w B b dim n F) : Calls Tryz.prog 73 #[.pointer (some ⟨b, 0, none⟩)] w fun e w' => e = .returned (.int .i64 (n : Int)) ∧ ∃ nn, w' = w.drewN nn := by
  obtain ⟨A, c, h1, h2⟩ := h.box
  have hd := h.hdim
  have hq := div_dim n dim hd.1
  rw [← h.len] at hq
  have c0 : w.cell? ⟨b, 0, none⟩ = some (.int .i64 (dim : Int)) := cell_of_row _ _ _ _ _ _ h1
  have c1 : w.cell? ⟨b, 1, none⟩ = some (.slice A F.length c) := cell_of_row _ _ _ _ _ _ h1
  have hfl : F.length ≤ 1073741824 := by rw [h.len]; have := Nat.mul_le_mul h.hn hd.2; omega
  have hnn := h.hn
  have hz : ((dim : Int) == 0) = false := by simp; omega
  have hz2 : ¬ (dim : Int) = 0 := by omega
  clear h h1 h2
  go_enter Tryz.func73, Tryz.ntmps73
  go_wp2_with (go_quiet (fail))
  go_ret
  exact ⟨rfl, _, rfl⟩
theorem dim_any {B b dim n : Nat} {F : List Int} (w : World) (h : ItemsAt w B b dim n F) : Calls Tryz.prog 72 #[.pointer (some ⟨b, 0, none⟩)] w fun e w' => e = .returned (.int .i64 (dim : Int)) ∧ w = w' := by
  obtain ⟨A, c, h1, h2⟩ := h.box
  have c0 : w.cell? ⟨b, 0, none⟩ = some (.int .i64 (dim : Int)) := cell_of_row _ _ _ _ _ _ h1
  clear h h1 h2
  go_enter Tryz.func72, Tryz.ntmps72
  go_wp2
  go_ret
  exact ⟨rfl, rfl⟩
theorem rowL_length {n dim : Nat} {F : List Int} (hl : F.length = n * dim) (id : Nat) (hi : id < n) : (rowL F dim id).length = dim := by
  have h1 : (id + 1) * dim ≤ n * dim := Nat.mul_le_mul_right _ (by omega)
  have h2 : (id + 1) * dim = id * dim + dim := Nat.succ_mul _ _
  simp [rowL]; omega
theorem rowL_bd {F : List Int} {B : Int} (h : Bd B F) (dim id : Nat) : Bd B (rowL F dim id) := fun x hx => h x (List.mem_of_mem_drop (List.mem_of_mem_take hx))
theorem Reads.cut {w : World} {A : Option Addr} {n : Nat} {l : List Int} (h : Reads w A n (i32V l)) (p m : Nat) (hp : p + m ≤ n) : Reads w (A.map (·.add p)) m (i32V ((l.drop p).take m)) := by
  have hl := h.i32_len
  refine ⟨by simp [i32V]; omega, by have := h.2.1; omega, fun j hj => ?_⟩
  obtain ⟨ad, rfl, hc⟩ := h.i32 (p + j) (by omega)
  refine ⟨ad.add p, rfl, ?_⟩
  rw [Addr.add_add, hc, i32V_getD _ _ (by simp; omega)]
  rw [List.getD_eq_getElem?_getD, List.getD_eq_getElem?_getD, List.getElem?_take, if_pos hj, List.getElem?_drop]
/-- The row of an item, cut out. -/
def RowPost (w : World) (l : List Int) (e : Ending) (w' : World) : Prop := ∃ A c, e = .returned (.slice A l.length c) ∧ Reads w A l.length (i32V l) ∧ (0 < l.length → A ≠ none) ∧ ∃ nn, w' = w.drewN nn
set_option maxHeartbeats 400000 in
theorem row_any {B b dim n : Nat} {F : List Int} (w : World) (h : ItemsAt w B b dim n F) (id : Nat) (hi : id < n) : Calls Tryz.prog 49 #[.pointer (some ⟨b, 0, none⟩), .int .i64 (id : Int)] w (RowPost w (rowL F dim id)) := by
  have hlen := h.len
  have hrl := rowL_length hlen id hi
  have hnn := h.hn
  have HLEN := Lib.hid (fun w1 hb => len_any w1 (h.below hb) (B := B) (b := b) (dim := dim) (n := n) (F := F))
  obtain ⟨A, c, h1, h2⟩ := h.box
  have hcap := own_cap h2
  have hd := h.hdim
  have c0 : w.cell? ⟨b, 0, none⟩ = some (.int .i64 (dim : Int)) := cell_of_row _ _ _ _ _ _ h1
  have c1 : w.cell? ⟨b, 1, none⟩ = some (.slice A F.length c) := cell_of_row _ _ _ _ _ _ h1
  have hfl : F.length ≤ 1073741824 := by rw [hlen]; have := Nat.mul_le_mul h.hn hd.2; omega
  have hid1 : ((id : Int) * (dim : Int)) = ((id * dim : Nat) : Int) := by simp
  have hid2 : (((id : Int) + 1) * (dim : Int)) = ((id * dim + dim : Nat) : Int) := by rw [Int.add_mul]; simp
  have hmul : (id + 1) * dim ≤ n * dim := Nat.mul_le_mul_right _ (by omega)
  have hmul2 : (id + 1) * dim = id * dim + dim := Nat.succ_mul _ _
  have hle : id * dim + dim ≤ F.length := by rw [hlen]; omega
  have HR := Lib.hid (own_reads h2)
  have w1 : IntKind.i64.wrap ((id : Int) * (dim : Int)) = ((id * dim : Nat) : Int) := by rw [hid1]; exact IntWalk.i64_in _ (by omega)
  have w2 : IntKind.i64.wrap (((id : Int) + 1) * (dim : Int)) = ((id * dim + dim : Nat) : Int) := by rw [hid2]; exact IntWalk.i64_in _ (by omega)
  have w3 : IntKind.i64.wrap ((id : Int) + 1) = (id : Int) + 1 := IntWalk.i64_in _ (by omega)
  obtain ⟨p, hp⟩ : ∃ p, id * dim = p := ⟨_, rfl⟩
  rw [hp] at hid1 hid2 hmul2 hle w1 w2
  have HRL := Lib.hid hrl
  have HP := Lib.hid hp
  have hlt' : (id : Int) < (n : Int) := by omega
  clear h h1 h2 hid1 hid2 hlen hmul hmul2 hrl hp
  go_enter Tryz.func49, Tryz.ntmps49
  go_wp2_with (go_at_call 73; refine (HLEN.out _ (Below.refl _ _)).mono ?_; rintro e w1 ⟨rfl, n1, rfl⟩)
  go_wp2_with (go_quiet (fail))
  go_ret
  refine ⟨A.map (·.add p), c - p, ?_, ?_, ?_, n1 + nq, by rw [World.drewN_drewN]⟩
  · have e : p + dim - p = (rowL F dim id).length := by rw [HRL.out]; omega
    rw [← e]; rfl
  · have := HR.out.cut p dim hle
    rw [HRL.out]
    unfold rowL
    rw [HP.out]
    exact this
  · intro _
    obtain ⟨ad, e, _⟩ := HR.out.at_ 0 (by omega)
    rw [e]; simp
end Go.Proofs.YtladmconpolneaaGreat

/- Items: one of them, how far it is; new ones; more. -/
set_option linter.unusedVariables false
set_option linter.unusedSimpArgs false
namespace Go.Proofs.YtladmconpolneaaGreat
open Go.RowKit
/-- New memory that holds an item, and that there is one. -/
def AtPost (w : World) (l : List Int) (e : Ending) (w' : World) : Prop :=
  ∃ A c, e = .returned (.tuple #[.slice A l.length c, .bool true]) ∧ w'.ownsRow w.heap.size 21 1 (.slice A l.length c) l.length (i32V l) ∧ Below w.heap.size w w'
theorem at_any {B b dim n : Nat} {F : List Int} (w : World) (h : ItemsAt w B b dim n F) (id : Nat) (hi : id < n) : Calls Tryz.prog 23 #[.pointer (some ⟨b, 0, none⟩), .int .i64 (id : Int)] w (AtPost w (rowL F dim id)) := by
  have hlen := rowL_length h.len id hi
  have hd := h.hdim
  have H := Lib.hid (row_any w h id hi)
  have HL := Lib.hid hlen
  generalize rowL F dim id = l at *
  clear h hlen
  go_enter Tryz.func23, Tryz.ntmps23
  go_wp2_with fail
  refine H.out.mono ?_
  rintro e w1 ⟨A, c, rfl, hr, hne, nn, rfl⟩
  have hl := HL.out
  obtain ⟨ad, rfl⟩ : ∃ ad, A = some ad := by
    cases A with
    | none => exact absurd rfl (hne (by omega))
    | some ad => exact ⟨ad, rfl⟩
  have HR := Lib.hid hr
  have hlm : l.length ≤ 1000000 := by omega
  have hneq : ∀ w : World, (binOp .neq 30 (.slice (some ad) l.length c) (.slice none 0 0)).run Tryz.prog w = .ok (.bool true) w := fun w => run_neq_slice_nil_any w 30 21 (some ad) l.length c 0 0 Tryz.underlying30
  clear hr hne hl
  go_wp2_with (go_at_call 55; refine (clone_any l _ _ _ _ (HR.out.drewN nn) hlm).mono ?_; rintro e w2 ⟨C, d, rfl, ho2, hb2⟩)
  go_ret2
  exact ⟨C, d, rfl, ho2, (bel_drewN (Below.refl _ _) nn).trans hb2⟩
theorem ifar_any {B b dim n : Nat} {F v : List Int} (w : World) (h : ItemsAt w B b dim n F) (id : Nat) (hi : id < n) (A : Option Addr) (c : Nat) (hv : Reads w A v.length (i32V v)) (hV : Bd 1048576 v) :
    Calls Tryz.prog 19 #[.pointer (some ⟨b, 0, none⟩), .int .i64 (id : Int), .slice A v.length c] w fun e w' => e = .returned (.int .i64 (farL (rowL F dim id) v)) ∧ ∃ nn, w' = w.drewN nn := by
  have hlen := rowL_length h.len id hi
  have hd := h.hdim
  have hbd := rowL_bd h.bd dim id
  have H := Lib.hid (row_any w h id hi)
  have HV := Lib.hid hv
  have HF := Lib.hid (fun w A c (hr : Reads w A (rowL F dim id).length (i32V (rowL F dim id))) A' c' (hv : Reads w A' v.length (i32V v)) => far_any (rowL F dim id) v A A' _ c _ c' w hr hv hbd hV (by omega))
  generalize rowL F dim id = l at *
  clear h hlen hv hbd
  go_enter Tryz.func19, Tryz.ntmps19
  go_wp2_with fail
  refine H.out.mono ?_
  rintro e w1 ⟨C, d, rfl, hr, hne, nn, rfl⟩
  have HR := Lib.hid hr
  clear hr hne
  go_wp2_with (go_at_call 48; refine (HF.out _ _ _ (HR.out.drewN nn) _ _ (HV.out.drewN nn)).mono ?_; rintro e w2 ⟨rfl, n2, rfl⟩)
  go_ret
  exact ⟨rfl, nn + n2, by simp [World.drewN_drewN]⟩
theorem new_bad (dim : Int) (w : World) (h : dim < 1 ∨ 1024 < dim) : Calls Tryz.prog 64 #[.int .i64 dim] w fun e w' => e = .returned (.tuple #[.pointer none, .int .i64 1]) ∧ w = w' := by
  have hh : dim < 1 ∨ (¬ dim < 1 ∧ 1024 < dim) := by omega
  clear h
  rcases hh with h | ⟨h, h2⟩
  all_goals
    go_enter Tryz.func64, Tryz.ntmps64
    go_wp2
    go_ret2
    exact ⟨rfl, rfl⟩
theorem new_any (dim : Nat) (w : World) (h : 1 ≤ dim ∧ dim ≤ 1024) : Calls Tryz.prog 64 #[.int .i64 (dim : Int)] w fun e w' => e = .returned (.tuple #[.pointer (some ⟨w.heap.size, 0, none⟩), .int .i64 0]) ∧ w' = w.alloc (.cells #[.int .i64 (dim : Int), .slice none 0 0] 178) := by
  have h1 : ¬ (dim : Int) < 1 := by omega
  have h2 : ¬ 1024 < (dim : Int) := by omega
  go_enter Tryz.func64, Tryz.ntmps64
  go_wp2
  go_ret2
  exact ⟨rfl, rfl⟩
theorem items_new (w : World) (dim : Nat) (h : 1 ≤ dim ∧ dim ≤ 1024) : ItemsAt (w.alloc (.cells #[.int .i64 (dim : Int), .slice none 0 0] 178)) w.heap.size w.heap.size dim 0 [] :=
  ⟨h, by decide, by simp, fun x hx => (by cases hx), Nat.le_refl _, none, 0, heap_alloc_new _ _, own_nil _ _ _ _⟩
/-- What keeps all blocks but those of some types. -/
def KeepT (T : List TypeId) (w w' : World) : Prop := w.heap.size ≤ w'.heap.size ∧ ∀ (k : Nat) (cells : Array Value) (t : TypeId) (fr : Nat × Nat), w.heap[k]? = some (.cells cells t fr) → t ∉ T → w'.heap[k]? = some (.cells cells t fr)
theorem own_ne2 {w : World} {base : Nat} {e : TypeId} {size n : Nat} {v : Value} {xs : List Value} {b : Nat} {t : TypeId} {cs : Array Value} (h : w.ownsRow base e size v n xs) (hb : w.heap[b]? = some (.cells cs t (0, 0))) (ht : e ≠ t) : some b ≠ v.ownBlock := by
  rcases h.2 with ⟨rfl, _⟩ | ⟨g, cap, cur, rfl, _, hg, _⟩
  · simp [Value.ownBlock]
  · intro he
    have : b = g := by simpa [Value.ownBlock] using he
    subst this
    rw [hb] at hg
    injection hg with hg
    injection hg with _ h2
    exact ht h2.symm
theorem own_ne2' {w : World} {base : Nat} {e : TypeId} {size n : Nat} {v : Value} {xs : List Value} {b : Nat} {t : TypeId} {cs : Array Value} {fr : Nat × Nat} (h : w.ownsRow base e size v n xs) (hb : w.heap[b]? = some (.cells cs t fr)) (ht : e ≠ t) : some b ≠ v.ownBlock := by
  rcases h.2 with ⟨rfl, _⟩ | ⟨g, cap, cur, rfl, _, hg, _⟩
  · simp [Value.ownBlock]
  · intro he
    have : b = g := by simpa [Value.ownBlock] using he
    subst this
    rw [hb] at hg
    injection hg with hg
    injection hg with _ h2
    exact ht h2.symm
theorem KeepT.refl (T : List TypeId) (w : World) : KeepT T w w := ⟨Nat.le_refl _, fun _ _ _ _ h _ => h⟩
theorem KeepT.trans {T : List TypeId} {w w1 w2 : World} (h : KeepT T w w1) (k : KeepT T w1 w2) : KeepT T w w2 := ⟨Nat.le_trans h.1 k.1, fun i c t fr hi ht => k.2 i c t fr (h.2 i c t fr hi ht) ht⟩
theorem KeepT.below {T : List TypeId} {w w' : World} (h : Below w.heap.size w w') : KeepT T w w' := ⟨h.size, fun k c t fr hk _ => by rw [h.block k (lt_of_block hk)]; exact hk⟩
theorem KeepT.mono {T T' : List TypeId} {w w' : World} (h : KeepT T w w') (hT : ∀ t ∈ T, t ∈ T') : KeepT T' w w' := ⟨h.1, fun k c t fr hk ht => h.2 k c t fr hk (fun hm => ht (hT t hm))⟩
theorem add_bad {B b dim n : Nat} {F v : List Int} (w : World) (h : ItemsAt w B b dim n F) (A : Option Addr) (c : Nat) (hv : Reads w A v.length (i32V v)) (he : vecE v dim ≠ 0) :
    Calls Tryz.prog 65 #[.pointer (some ⟨b, 0, none⟩), .slice A v.length c] w fun e w' => e = .returned (.tuple #[.int .i64 0, .int .i64 (vecE v dim)]) ∧ w = w' := by
  have H := Lib.hid (vcheck_any v (dim : Int) A v.length c w hv)
  obtain ⟨C, d, h1, h2⟩ := h.box
  have c0 : w.cell? ⟨b, 0, none⟩ = some (.int .i64 (dim : Int)) := cell_of_row _ _ _ _ _ _ h1
  have hb : (vecE v (dim : Int) == 0) = false := by simpa using he
  generalize vecE v (dim : Int) = er at *
  clear h h1 h2 hv he
  go_enter Tryz.func65, Tryz.ntmps65
  go_wp2_with (go_at_call 71; refine H.out.mono ?_; rintro e w1 ⟨rfl, rfl⟩)
  go_ret2
  exact ⟨rfl, rfl⟩
/-- An item more. -/
def AddPost (w : World) (B b dim n : Nat) (F v : List Int) (e : Ending) (w' : World) : Prop :=
  e = .returned (.tuple #[.int .i64 (n : Int), .int .i64 0]) ∧ ItemsAt w' B b dim (n + 1) (F ++ v) ∧ Below B w w' ∧ KeepT [178, 21] w w'
theorem vecE_ok {v : List Int} {dim : Nat} (he : vecE v dim = 0) : v.length = dim ∧ Bd 1048576 v := by
  unfold vecE at he
  split at he
  · cases he
  · split at he
    · cases he
    · split at he
      · rename_i h1 h2 h3
        exact ⟨by omega, okV_bd h3⟩
      · cases he
set_option maxHeartbeats 400000 in
theorem add_ok {B b dim n : Nat} {F v : List Int} (w : World) (h : ItemsAt w B b dim n F) (A : Option Addr) (c : Nat) (hv : Reads w A v.length (i32V v)) (he : vecE v dim = 0) (hn : n < 1000000) :
    Calls Tryz.prog 65 #[.pointer (some ⟨b, 0, none⟩), .slice A v.length c] w (AddPost w B b dim n F v) := by
  obtain ⟨hvl, hvb⟩ := vecE_ok he
  have H := Lib.hid (vcheck_any v (dim : Int) A v.length c w hv)
  rw [he] at H
  have HLEN := Lib.hid (len_any w h)
  have HIT := Lib.hid h
  have hB := h.base
  have hlt := h.lt
  obtain ⟨C, d, h1, h2⟩ := h.box
  have c0 : w.cell? ⟨b, 0, none⟩ = some (.int .i64 (dim : Int)) := cell_of_row _ _ _ _ _ _ h1
  have c1 : w.cell? ⟨b, 1, none⟩ = some (.slice C F.length d) := cell_of_row _ _ _ _ _ _ h1
  have hfl : F.length ≤ 1073741824 := by rw [h.len]; have := Nat.mul_le_mul h.hn h.hdim.2; omega
  have hdm := h.hdim
  have HV := Lib.hid hv
  have V1 := Lib.hid (i32V_one v)
  have HO := Lib.hid h2
  have HG := Lib.hid h1
  have hvl' : v.length ≤ 1024 := by omega
  have hge : decide ((1048576 : Int) ≤ (n : Int)) = false := by simp; omega
  have hl1 : (F.length + v.length) * 4 ≤ 140737488355328 := by omega
  have HL1 := Lib.hid hl1
  have HVL := Lib.hid hvl
  clear h h1 h2 hv he hn hfl hl1 hvl
  go_enter Tryz.func65, Tryz.ntmps65
  go_wp2_with (first
    | (go_at_call 71; refine H.out.mono ?_; rintro e w1 ⟨rfl, rfl⟩)
    | (go_at_call 73; refine HLEN.out.mono ?_; rintro e w1 ⟨rfl, n1, rfl⟩)
    | (at_builtin; refine append_reads B rfl _ _ 30 21 (.int .i32 0) 4 rfl Tryz.underlying30 Tryz.info21 rfl (by decide) (.slice C F.length d) F.length (i32V F) rfl (own_drewN HO.out _) A v.length c (i32V v) rfl (HV.out.drewN _) V1.out HL1.out (by simp; omega) ?_))
  intro A1 e1 w1 ho1 hg1
  have hgb : w1.heap[b]? = some (.cells #[.int .i64 (dim : Int), .slice C F.length d] 178 (0, 0)) := by
    rw [hg1.block b hlt (own_ne2 HO.out HG.out (by decide))]
    exact HG.out
  have HGB := Lib.hid hgb
  have c1' : w1.cell? ⟨b, 1, none⟩ = some (.slice C F.length d) := cell_of_row _ _ _ _ _ _ hgb
  have f1' : w1.frozen? ⟨b, 1, none⟩ = false := frozen_of_row _ _ _ _ _ hgb
  have HO1 := Lib.hid ho1
  have HG1 := Lib.hid hg1
  clear hgb ho1 hg1
  go_wp2
  go_ret2
  have hne : (Value.slice A1 (F.length + v.length) e1).ownBlock ≠ some b := fun e => own_ne2 HO1.out HGB.out (by decide) e.symm
  have hone : ∀ k, (Value.slice C F.length d).ownBlock = some k → B ≤ k := own_base HO.out
  have hsz := HG1.out.size
  have hlen' : (F ++ v).length = F.length + v.length := List.length_append
  refine ⟨rfl, ⟨hdm, by have := HIT.out.hn; simp at hge; omega, ?_, ?_, hB, A1, e1, ?_, ?_⟩, ?_, ?_⟩
  · rw [hlen', HIT.out.len, HVL.out, Nat.succ_mul]
  · intro x hx
    rcases List.mem_append.1 hx with h | h
    · exact HIT.out.bd x h
    · exact hvb x h
  · have := heap_setCell_same w1 b 1 _ _ (.slice A1 (F.length + v.length) e1) HGB.out
    rw [hlen']
    exact this
  · have := ownsRow_setCell_other HO1.out (a := ⟨b, 1, none⟩) (fun e => hne e) (.slice A1 (F.length + v.length) e1)
    rw [hlen']
    simpa [i32V] using this
  · have h1 : Below B w w1 := by
      have := (Below.refl B (w.drewN n1)).grown HG1.out (by simp; omega) hone
      exact (bel_drewN (Below.refl _ _) n1).trans this
    exact h1.setCell hB _
  · refine ⟨by simpa [World.setCell] using hsz, fun k cells t fr hk ht => ?_⟩
    have hkb : k ≠ b := by
      rintro rfl
      rw [HG.out] at hk
      injection hk with hk
      injection hk with _ h2
      exact ht (by rw [← h2]; simp)
    rw [Below.heap_setCell _ _ _ _ hkb, HG1.out.block k (lt_of_block hk) (own_ne2' HO.out hk (fun e => ht (by rw [← e]; simp)))]
    exact hk
end Go.Proofs.YtladmconpolneaaGreat

/- Items of a list. -/
set_option linter.unusedVariables false
set_option linter.unusedSimpArgs false
namespace Go.Proofs.YtladmconpolneaaGreat
open Go.RowKit
/-- A list of vectors, read. -/
def ListsAt (w : World) (A : Option Addr) (vs : List (List Int)) : Prop :=
  ∀ i (h : i < vs.length), ∃ ad C c, A = some ad ∧ w.cell? (ad.add i) = some (.slice C (vs[i]).length c) ∧ Reads w C (vs[i]).length (i32V vs[i])
theorem ListsAt.below {w w' : World} {A : Option Addr} {vs : List (List Int)} (h : ListsAt w A vs) (hb : Below w.heap.size w w') : ListsAt w' A vs := fun i hi => by
  obtain ⟨ad, C, c, e, hc, hr⟩ := h i hi
  exact ⟨ad, C, c, e, (hb.cell (World.block_lt_of_cell? w _ hc)).trans hc, hr.below hb⟩
/-- .. of old memory, while new memory is written. -/
def ListsOld (B : Nat) (w : World) (A : Option Addr) (vs : List (List Int)) : Prop :=
  ∀ i (h : i < vs.length), ∃ ad C c, A = some ad ∧ ad.block < B ∧ w.cell? (ad.add i) = some (.slice C (vs[i]).length c) ∧ Reads w C (vs[i]).length (i32V vs[i]) ∧ (∀ ad, C = some ad → 0 < (vs[i]).length → ad.block < B)
theorem Reads.lt {w : World} {A : Option Addr} {n : Nat} {vs : List Value} (h : Reads w A n vs) (ad : Addr) (e : A = some ad) (hn : 0 < n) : ad.block < w.heap.size := by
  obtain ⟨ad', e', hc⟩ := h.at_ 0 hn
  have : ad = ad' := Option.some.inj (e.symm.trans e')
  subst this
  have h2 := World.block_lt_of_cell? w _ hc
  have hbl : (ad.add 0).block = ad.block := by unfold Addr.add; split <;> rfl
  rw [hbl] at h2
  exact h2
theorem Reads.old {w w1 : World} {A : Option Addr} {n : Nat} {vs : List Value} (h : Reads w A n vs) {B : Nat} (hb : Below B w w1) (hB : ∀ ad, A = some ad → 0 < n → ad.block < B) : Reads w1 A n vs :=
  ⟨h.1, h.2.1, fun j hj => by
    obtain ⟨ad, e, hc⟩ := h.2.2 j hj
    have hbl : (ad.add j).block = ad.block := by unfold Addr.add; split <;> rfl
    exact ⟨ad, e, (hb.cell (p := ad.add j) (by rw [hbl]; exact hB ad e (by omega))).trans hc⟩⟩
theorem ListsAt.old {w : World} {A : Option Addr} {vs : List (List Int)} (h : ListsAt w A vs) : ListsOld w.heap.size w A vs := fun i hi => by
  obtain ⟨ad, C, c, e, hc, hr⟩ := h i hi
  have hbl : (ad.add i).block = ad.block := by unfold Addr.add; split <;> rfl
  exact ⟨ad, C, c, e, by rw [← hbl]; exact World.block_lt_of_cell? w _ hc, hc, hr, fun a ea hp => hr.lt a ea hp⟩
theorem ListsOld.below {B : Nat} {w w' : World} {A : Option Addr} {vs : List (List Int)} (h : ListsOld B w A vs) (hb : Below B w w') : ListsOld B w' A vs := fun i hi => by
  obtain ⟨ad, C, c, e, hlt, hc, hr, hl⟩ := h i hi
  have hbl : (ad.add i).block = ad.block := by unfold Addr.add; split <;> rfl
  exact ⟨ad, C, c, e, hlt, (hb.cell (p := ad.add i) (by rw [hbl]; exact hlt)).trans hc, hr.old hb hl, hl⟩
def flat (vs : List (List Int)) (k : Nat) : List Int := (vs.take k).flatten
theorem flat_succ (vs : List (List Int)) (k : Nat) (h : k < vs.length) : flat vs (k + 1) = flat vs k ++ vs[k] := by
  unfold flat
  rw [List.take_succ_eq_append_getElem h, List.flatten_append]
  simp
/-- May all be? -/
def okL (dim : Nat) (vs : List (List Int)) : Prop := ∀ v ∈ vs, vecE v dim = 0
def OfPost (w : World) (dim : Int) (vs : List (List Int)) (e : Ending) (w' : World) : Prop :=
  Below w.heap.size w w' ∧ ((∃ er : Int, er ≠ 0 ∧ e = .returned (.tuple #[.pointer none, .int .i64 er]) ∧ ¬ (1 ≤ dim ∧ dim ≤ 1024 ∧ okL dim.toNat vs)) ∨
    (∃ b, e = .returned (.tuple #[.pointer (some ⟨b, 0, none⟩), .int .i64 0]) ∧ 1 ≤ dim ∧ dim ≤ 1024 ∧ okL dim.toNat vs ∧ ItemsAt w' w.heap.size b dim.toNat vs.length vs.flatten))
set_option maxHeartbeats 800000 in
theorem of_any (dim : Int) (vs : List (List Int)) (A : Option Addr) (c : Nat) (w : World) (h : ListsAt w A vs) (hn : vs.length ≤ 1000) : Calls Tryz.prog 47 #[.int .i64 dim, .slice A vs.length c] w (OfPost w dim vs) := by
  by_cases hd : dim < 1 ∨ 1024 < dim
  · have H := Lib.hid (fun w => new_bad dim w hd)
    go_enter Tryz.func47, Tryz.ntmps47
    go_wp2_with (go_at_call 64; refine (H.out _).mono ?_; rintro e w1 ⟨rfl, rfl⟩)
    go_ret2
    exact ⟨Below.refl _ _, .inl ⟨1, by decide, rfl, by omega⟩⟩
  · obtain ⟨d, rfl⟩ := Int.eq_ofNat_of_zero_le (show 0 ≤ dim by omega)
    have hd' : 1 ≤ d ∧ d ≤ 1024 := by omega
    have H := Lib.hid (fun w => new_any d w hd')
    have HL := Lib.hid h.old
    clear h hd
    go_enter Tryz.func47, Tryz.ntmps47
    go_wp2_with (go_at_call 64; refine (H.out _).mono ?_; rintro e w1 ⟨rfl, rfl⟩)
    go_loopg [22] vs.length (fun gk i wr => ∃ k : Nat, gk = vs.length - k ∧ k ≤ vs.length ∧ i = .int .i64 (k : Int) ∧ ItemsAt wr w.heap.size w.heap.size d k (flat vs k) ∧ okL d (vs.take k) ∧ Below w.heap.size w wr)
    case atStart => exact ⟨0, rfl, Nat.zero_le _, rfl, items_new w d hd', (fun v hv => by cases hv), (Below.refl _ _).alloc (Nat.le_refl _) _⟩
    case round =>
      obtain ⟨k, rfl, hk, rfl, hit, hok, hbel⟩ := hrel
      have HI := Lib.hid hit
      have HOK := Lib.hid hok
      have HBE := Lib.hid hbel
      by_cases hlt : k < vs.length
      · obtain ⟨ad, C, c2, rfl, hlta, hc, hr, hl⟩ := (HL.out.below hbel) k hlt
        have hlt' : (k : Int) < (vs.length : Int) := by omega
        have HR := Lib.hid hr
        have HFS := Lib.hid (flat_succ vs k hlt)
        have HTS := Lib.hid (List.take_succ_eq_append_getElem hlt)
        have HMEM := Lib.hid (List.getElem_mem hlt)
        generalize vs[k] = v at *
        by_cases he : vecE v (d : Int) = 0
        · have HADD := Lib.hid (add_ok wr hit C c2 hr he (by omega))
          have HE := Lib.hid he
          clear hit hok hbel hr hl he
          go_wp2_with (go_at_call 65; refine HADD.out.mono ?_; rintro e w2 ⟨rfl, hi2, hb2, hk2⟩; have HI2 := Lib.hid hi2; have HB2 := Lib.hid hb2; clear hi2 hb2 hk2)
          go_roundg (vs.length - (k + 1))
          case measure => omega
          case rel =>
            refine ⟨k + 1, rfl, hlt, by go_num, ?_, ?_, HBE.out.trans HB2.out⟩
            · rw [HFS.out]; exact HI2.out
            · rw [HTS.out]
              intro x hx
              rcases List.mem_append.1 hx with h | h
              · exact HOK.out x h
              · simp at h; rw [h]; exact HE.out
        · have HADD := Lib.hid (add_bad wr hit C c2 hr he)
          have HE := Lib.hid he
          have hne : (vecE v (d : Int) == 0) = false := by simpa using he
          clear hit hok hbel hr hl he
          go_wp2_with (go_at_call 65; refine HADD.out.mono ?_; rintro e w2 ⟨rfl, rfl⟩)
          go_ret2
          refine ⟨HBE.out, .inl ⟨_, HE.out, rfl, fun h => ?_⟩⟩
          exact HE.out (by have := h.2.2 v HMEM.out; simpa using this)
      · obtain rfl : k = vs.length := by omega
        clear hit hok hbel
        go_wp2
        go_ret2
        refine ⟨HBE.out, .inr ⟨w.heap.size, rfl, by omega, by omega, ?_, ?_⟩⟩
        · have := HOK.out; rw [List.take_length] at this; simpa using this
        · have := HI.out
          unfold flat at this
          rw [List.take_length] at this
          simpa using this
def ItemsPost (w : World) (dim : Int) (vs : List (List Int)) (e : Ending) (w' : World) : Prop :=
  Below w.heap.size w w' ∧ ((e = .returned (.pointer none) ∧ ¬ (1 ≤ dim ∧ dim ≤ 1024 ∧ okL dim.toNat vs)) ∨
    (∃ b, e = .returned (.pointer (some ⟨b, 0, none⟩)) ∧ 1 ≤ dim ∧ dim ≤ 1024 ∧ okL dim.toNat vs ∧ ItemsAt w' w.heap.size b dim.toNat vs.length vs.flatten))
theorem items_any (dim : Int) (vs : List (List Int)) (A : Option Addr) (c : Nat) (w : World) (h : ListsAt w A vs) (hn : vs.length ≤ 1000) : Calls Tryz.prog 18 #[.int .i64 dim, .slice A vs.length c] w (ItemsPost w dim vs) := by
  have H := Lib.hid (of_any dim vs A c w h hn)
  clear h hn
  go_enter Tryz.func18, Tryz.ntmps18
  go_wp2_with fail
  refine H.out.mono ?_
  rintro e w1 ⟨hb, ⟨er, hne, rfl, hno⟩ | ⟨b, rfl, hd1, hd2, hok, hit⟩⟩
  · have hne' : (er == 0) = false := by simpa using hne
    have HB := Lib.hid hb
    have HN := Lib.hid hno
    clear hb hno hne
    go_wp2
    go_ret
    exact ⟨HB.out, .inl ⟨rfl, HN.out⟩⟩
  · have HB := Lib.hid hb
    have HOK := Lib.hid hok
    have HI := Lib.hid hit
    clear hb hok hit
    go_wp2
    go_ret
    exact ⟨HB.out, .inr ⟨b, rfl, hd1, hd2, HOK.out, HI.out⟩⟩
end Go.Proofs.YtladmconpolneaaGreat

/- index: New, Add. -/
set_option linter.unusedVariables false
set_option linter.unusedSimpArgs false
namespace Go.Proofs.YtladmconpolneaaGreat
open Go.RowKit
/-- An index without a forest. -/
structure IxAt (w : World) (B x b dim n : Nat) (F : List Int) : Prop where
  box : w.heap[x]? = some (.cells #[.int .i64 (dim : Int), .pointer (some ⟨b, 0, none⟩), .pointer none, .int .i64 0, .int .i64 0, .slice none 0 0, .bool false] 93 (0, 0))
  base : B ≤ x
  items : ItemsAt w B b dim n F
theorem IxAt.below {w W : World} {B x b dim n : Nat} {F : List Int} (h : IxAt w B x b dim n F) (hb : Below w.heap.size w W) : IxAt W B x b dim n F :=
  ⟨(hb.block _ (lt_of_block h.box)).trans h.box, h.base, h.items.below hb⟩
theorem inew_bad (dim : Int) (w : World) (h : dim < 1 ∨ 1024 < dim) : Calls Tryz.prog 29 #[.int .i64 dim] w fun e w' => e = .returned (.tuple #[.pointer none, .int .i64 1]) ∧ w = w' := by
  have H := Lib.hid (fun w => new_bad dim w h)
  clear h
  go_enter Tryz.func29, Tryz.ntmps29
  go_wp2_with (go_at_call 64; refine (H.out _).mono ?_; rintro e w1 ⟨rfl, rfl⟩)
  go_ret2
  exact ⟨rfl, rfl⟩
theorem inew_any (dim : Nat) (w : World) (h : 1 ≤ dim ∧ dim ≤ 1024) : Calls Tryz.prog 29 #[.int .i64 (dim : Int)] w fun e w' => ∃ x b, e = .returned (.tuple #[.pointer (some ⟨x, 0, none⟩), .int .i64 0]) ∧ IxAt w' w.heap.size x b dim 0 [] ∧ Below w.heap.size w w' := by
  have H := Lib.hid (fun w => new_any dim w h)
  have HI := Lib.hid (fun w => items_new w dim h)
  clear h
  go_enter Tryz.func29, Tryz.ntmps29
  go_wp2_with (go_at_call 64; refine (H.out _).mono ?_; rintro e w1 ⟨rfl, rfl⟩)
  go_ret2
  have hb1 : Below w.heap.size w (w.alloc (.cells #[.int .i64 (dim : Int), .slice none 0 0] 178)) := (Below.refl _ _).alloc (Nat.le_refl _) _
  have hb2 : ∀ o, Below (w.alloc (.cells #[.int .i64 (dim : Int), .slice none 0 0] 178)).heap.size (w.alloc (.cells #[.int .i64 (dim : Int), .slice none 0 0] 178)) ((w.alloc (.cells #[.int .i64 (dim : Int), .slice none 0 0] 178)).alloc o) := fun o => (Below.refl _ _).alloc (Nat.le_refl _) _
  refine ⟨_, w.heap.size, rfl, ⟨by have := heap_alloc_new (w.alloc (.cells #[.int .i64 (dim : Int), .slice none 0 0] 178)) (.cells #[.int .i64 (dim : Int), .pointer (some ⟨w.heap.size, 0, none⟩), .pointer none, .int .i64 0, .int .i64 0, .slice none 0 0, .bool false] 93); simpa using this, by simp, (HI.out w).below (hb2 _)⟩, hb1.trans ((hb2 _).mono hb1.size)⟩
theorem iadd_bad {B x b dim n : Nat} {F v : List Int} (w : World) (h : IxAt w B x b dim n F) (A : Option Addr) (c : Nat) (hv : Reads w A v.length (i32V v)) (he : vecE v dim ≠ 0) :
    Calls Tryz.prog 30 #[.pointer (some ⟨x, 0, none⟩), .slice A v.length c] w fun e w' => (∃ i er, e = .returned (.tuple #[.int .i64 i, .int .i64 er])) ∧ w = w' := by
  have HADD := Lib.hid (add_bad w h.items A c hv he)
  have c6 : w.cell? ⟨x, 6, none⟩ = some (.bool false) := cell_of_row _ _ _ _ _ _ h.box
  have c1 : w.cell? ⟨x, 1, none⟩ = some (.pointer (some ⟨b, 0, none⟩)) := cell_of_row _ _ _ _ _ _ h.box
  clear h hv he
  go_enter Tryz.func30, Tryz.ntmps30
  go_wp2_with (go_at_call 65; refine HADD.out.mono ?_; rintro e w2 ⟨rfl, rfl⟩)
  go_ret2
  exact ⟨⟨_, _, rfl⟩, rfl⟩
theorem iadd_ok {B x b dim n : Nat} {F v : List Int} (w : World) (h : IxAt w B x b dim n F) (A : Option Addr) (c : Nat) (hv : Reads w A v.length (i32V v)) (he : vecE v dim = 0) (hn : n < 1000000) :
    Calls Tryz.prog 30 #[.pointer (some ⟨x, 0, none⟩), .slice A v.length c] w fun e w' => (∃ i er, e = .returned (.tuple #[.int .i64 i, .int .i64 er])) ∧ IxAt w' B x b dim (n + 1) (F ++ v) ∧ Below B w w' := by
  have HADD := Lib.hid (add_ok w h.items A c hv he hn)
  have c6 : w.cell? ⟨x, 6, none⟩ = some (.bool false) := cell_of_row _ _ _ _ _ _ h.box
  have c1 : w.cell? ⟨x, 1, none⟩ = some (.pointer (some ⟨b, 0, none⟩)) := cell_of_row _ _ _ _ _ _ h.box
  have HX := Lib.hid h
  clear h hv he
  go_enter Tryz.func30, Tryz.ntmps30
  go_wp2_with (go_at_call 65; refine HADD.out.mono ?_; rintro e w2 ⟨rfl, hi2, hb2, hk2⟩; have HI2 := Lib.hid hi2; have HB2 := Lib.hid hb2; have HK2 := Lib.hid hk2; clear hi2 hb2 hk2)
  go_ret2
  exact ⟨⟨_, _, rfl⟩, ⟨HK2.out.2 _ _ _ _ HX.out.box (by decide), HX.out.base, HI2.out⟩, HB2.out⟩
end Go.Proofs.YtladmconpolneaaGreat

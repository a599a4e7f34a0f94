/- Several texts of this seat, laid together (no statement of its own): their conditions stand in each theorem. -/
import Derived.WalkKit
import Derived.WalkLawsBesides
import Derived.WalkSpells
import Derived.Lib.Hide
import Derived.KernelRfl
import Derived.Laws.BitsAllLaws
import Derived.Maps.AppendAt
import Derived.Below
import Derived.Deep.Draws
import Derived.Deep.AppendLies
import Derived.OwnWalk
import Derived.Laws.BytesArg
import Derived.Laws.MakeOwn
import Derived.Laws.OwnMore
import Derived.Deep.OwnRows
import Derived.Lib.ConvBytes
import Derived.Laws.Slices
import Derived.RowKit3
import Derived.Deep.LoopGhost
import Derived.Deep.QuietTactic
import Derived.BigQuiet
import Derived.WideLaws
import Derived.Deep.DeepCutAuto
import Derived.Deep.CutBlock
import Derived.Deep.RegionHeld3
import Derived.Laws.Rows
import Derived.Lib.AppendStr
import Derived.ArgAppend
import Derived.Laws.IdiomCopy
import Derived.RowKit
import Derived.Deep.DeepFit
import Derived.Deep.RegionLaw
import Derived.Test.YtladmconpolneaaGreatProg
import Derived.Laws.CopyOwn
/- SMALL LAWS of my own over any program: append of one element onto a row of the call's own; what a store leaves; results. -/
namespace Go.Proofs.YtladmconpolneaaGreat
open Go.RowKit
theorem ret_bool {a b : Bool} (h : a = b) : Ending.returned (.bool a) = .returned (.bool b) := by rw [h]
theorem ret_int {k : IntKind} {a b : Int} (h : a = b) : Ending.returned (.int k a) = .returned (.int k b) := by rw [h]
theorem ret_str {a b : ByteArray} (h : a = b) : Ending.returned (.string a) = .returned (.string b) := by rw [h]

/-- What is owned lies in no block of another element type. -/
theorem own_ne {w : World} {base : Nat} {e : TypeId} {size n : Nat} {v u : Value} {xs : List Value} {b : Nat} {t : TypeId} (h : w.ownsRow base e size v n xs) (hb : w.heap[b]? = some (.cells #[u] t (0, 0))) (ht : e ≠ t) :
    some b ≠ v.ownBlock := by
  rcases h.2 with ⟨rfl, _⟩ | ⟨g, cap, cur, rfl, _, hg, _⟩
  · simp [Value.ownBlock]
  · intro he
    have : b = g := by simpa [Value.ownBlock] using he
    subst this
    rw [hb] at hg
    injection hg with hg
    injection hg with _ h2
    exact ht h2.symm
theorem own_base {w : World} {base : Nat} {e : TypeId} {size n : Nat} {v : Value} {xs : List Value} (h : w.ownsRow base e size v n xs) (k : Nat) (hk : v.ownBlock = some k) : base ≤ k := (h.lt k hk).1
theorem own_slice {w : World} {base n : Nat} {e : TypeId} {size : Nat} {v : Value} {xs : List Value} (h : w.ownsRow base e size v n xs) : ∃ A c, v = .slice A n c := by
  rcases h.2 with ⟨rfl, rfl⟩ | ⟨g, cap, cur, rfl, _⟩
  · exact ⟨none, 0, rfl⟩
  · exact ⟨_, cap, rfl⟩
theorem own_below {w w1 : World} {base : Nat} {e : TypeId} {size n : Nat} {v : Value} {xs : List Value} (h : w.ownsRow base e size v n xs) (hb : Below w.heap.size w w1) : w1.ownsRow base e size v n xs :=
  h.kept (row := none) ⟨hb.os, hb.tape, hb.output, hb.size, fun i hi _ => hb.block i hi⟩ (by cases v.ownBlock <;> simp)
/-- '^x' on a uint32. -/
theorem not_u32 (m : Nat) (hm : m < 4294967296) : Op.unary .xor (.int .u32 (m : Int)) = pure (.int .u32 ((m ^^^ 4294967295 : Nat) : Int)) := by
  have h := u32_xor_nat 4294967295 m (by decide) hm
  have e : (if IntKind.u32.signed then (-1 : Int) else IntKind.u32.max) = ((4294967295 : Nat) : Int) := rfl
  rw [unary_xor, e, intBits_xor, h, Nat.xor_comm]
theorem run_min4 {P : Program} (w : World) (ts : Array TypeId) (t : TypeId) (x y z v : Int) : (Builtin.min_ ts t #[.int .i64 x, .int .i64 y, .int .i64 z, .int .i64 v]).run P w = .ok (.int .i64 (min (min (min x y) z) v)) w := by
  simp only [Int.min_def]
  simp [Builtin.min_, Builtin.min2]
  repeat' split
  all_goals omega
/-- 'make([]T, n)' of whole numbers, whatever n. -/
theorem run_make_ints {P : Program} (t e : TypeId) (k : IntKind) (bytes : Nat) (ht : P.underlying t = some (.slice e)) (hinfo : (P.info? e).map (fun i => (i.zero, i.size, i.bytes)) = some (some (.int k 0), 1, bytes)) (hb0 : 0 < bytes)
    (m : Nat) (hn : m * bytes ≤ 281474976710656) :
    ∀ W : World, (Instr.makeSlice t (.int .i64 (m : Int)) (.int .i64 (m : Int))).run P W = .ok (.slice (some ⟨W.heap.size, 0, none⟩) m m) (W.alloc (.cells (madeCells #[.int k 0] m) e)) := by
  intro W
  have hm : m ≤ 281474976710656 := Nat.le_trans (Nat.le_mul_of_pos_right _ hb0) hn
  exact run_make_row' t e (.int k 0) bytes ht hinfo rfl .i64 .i64 m (by rw [Nat.mul_comm]; exact hn) (by omega) W
theorem own_made (W : World) (base : Nat) (e : TypeId) (k : IntKind) (m : Nat) (hb : base ≤ W.heap.size) (hm : m ≤ 9223372036854775807) :
    (W.alloc (.cells (madeCells #[.int k 0] m) e)).ownsRow base e 1 (.slice (some ⟨W.heap.size, 0, none⟩) m m) m (List.replicate m (.int k 0)) := by
  have := World.ownsRow_lit (base := base) (e := e) (size := 1) W (madeCells #[.int k 0] m) m hb (by simp only [maxLen]; omega) (by rw [size_madeCells]; simp)
  rwa [toList_madeCells_one] at this
/-- What a call leaves of old memory, call by call. -/
theorem bel_trans {w w1 w2 : World} (h : Below w.heap.size w w1) (k : Below w1.heap.size w1 w2) : Below w.heap.size w w2 := h.trans (k.mono h.size)
theorem bel_drewN {B : Nat} {w W : World} (h : Below B w W) (n : Nat) : Below B w (W.drewN n) := ⟨h.os, h.tape, h.output, h.size, h.block⟩
theorem cell_new_arr {w : World} {cs : Array Value} {t : TypeId} {q : Nat} {v : Value} (h : cs[q]? = some v) : (w.alloc (.cells cs t)).cell? ⟨w.heap.size, q, none⟩ = some v := by
  rw [cell_of_row _ _ _ cs t (0, 0) (heap_alloc_new w _)]; exact h
/-- A block of one cell while another one is written; two of unlike types are not one. -/
theorem one_other {w : World} {b : Nat} {v : Value} {t : TypeId} (h : w.heap[b]? = some (.cells #[v] t (0, 0))) {a : Addr} (ha : a.block ≠ b) (u : Value) : (w.setCell a u).heap[b]? = some (.cells #[v] t (0, 0)) := by
  rw [Below.heap_setCell _ _ _ _ (fun e => ha e.symm)]; exact h
theorem one_ne {w : World} {b c : Nat} {v u : Value} {t s : TypeId} (h : w.heap[b]? = some (.cells #[v] t (0, 0))) (h' : w.heap[c]? = some (.cells #[u] s (0, 0))) (ht : t ≠ s) : b ≠ c := by
  rintro rfl
  rw [h] at h'
  injection h' with h'
  injection h' with _ h2
  exact ht h2
section
variable {P : Program} {ops : Array Oper} {rest : List Oper} {o : Oper} {a : Act} {Q : Exit → Act → World → Prop}
/-- A whole array, by value, into a block that is known. -/
theorem wpList_store_row {w : World} (hgd : o.guard = none) (ty : TypeId) (x y : Operand) (ho : o.op = .store ty x y) (g : Nat) (hx : a.eval x = .pointer (some ⟨g, 0, none⟩)) (t : TypeId) (c c' : Array Value) (hy : a.eval y = .agg c')
    (hg : w.heap[g]? = some (.cells c t (0, 0))) (hi : (P.info? ty).map (·.size) = some c'.size) (hsz : c.size = c'.size) (h1 : c'.all (·.oneCell') = true)
    (h : wpList P ops Q rest (a.put o.dst undef) (w.setRow g c')) : wpList P ops Q (o :: rest) a w := by
  refine wpList_plain hgd fun K hK => ?_
  have hr := run_storeVar_row (P := P) w g t ty c c' hg hi hsz h1
  unfold Oper.wp
  simp [execOp, ho, hx, hy, Instr.storeAt, Instr.sureAddr, hr, Result.andThen]
  exact hK _ _ h
/-- 'append(v, x)': the box of x has just been laid. -/
theorem append_one {W : World} (base : Nat) (hgd : o.guard = none) (s x : Operand) (t e : TypeId) (z : Value) (bytes : Nat)
    (ho : o.op = .call { callee := .builtin .append, args := #[s, x], argTypes := #[t, t] })
    (ht : P.underlying t = some (.slice e)) (hinfo : (P.info? e).map (fun i => (i.zero, i.size, i.bytes)) = some (some z, 1, bytes)) (hz : z.cells.size = 1) (hb0 : 0 < bytes)
    (v : Value) (k : Nat) (xs : List Value) (y : Value) (hs : a.eval s = v) (hx : a.eval x = .slice (some ⟨W.heap.size, 0, none⟩) 1 1) (h1 : y.oneCell' = true)
    (HO : W.ownsRow base e 1 v k xs) (hbase : base ≤ W.heap.size) (hl : (k + 1) * bytes ≤ 140737488355328)
    (h : ∀ A1 c1 w1, w1.ownsRow base e 1 (.slice A1 (k + 1) c1) (k + 1) (xs ++ [y]) → W.grownBy w1 v.ownBlock →
      ((Value.slice A1 (k + 1) c1).ownBlock = v.ownBlock ∨ ∃ b, (Value.slice A1 (k + 1) c1).ownBlock = some b ∧ W.heap.size ≤ b) → W.heap.size < w1.heap.size → wpList P ops Q rest (a.put o.dst (.slice A1 (k + 1) c1)) w1) :
    wpList P ops Q (o :: rest) a (W.alloc (.cells #[y] e)) := by
  obtain ⟨i0, hi, hz0, hz1, hz2⟩ := info_parts hinfo
  have hlen : k + 1 ≤ 140737488355328 := Nat.le_trans (Nat.le_mul_of_pos_right _ hb0) hl
  refine wpList_append_own_at (W.alloc (.cells #[y] e)) hgd s x t ho base e i0 z 1 bytes ht hi hz0 hz1 hz2 hz (by omega) v k xs hs (HO.alloc _) ⟨W.heap.size, 0, none⟩ 1 1 [y] hx rfl
    (World.news_of_block (cs := #[y]) (t := e) (fr := (0, 0)) (heap_alloc_new W _)) (by simpa using h1) (by simp only [maxLen]; omega) hl (by simp; omega) ?_
  intro v1 w1 hown hg _ hat
  have hsz := hg.size
  obtain ⟨A1, c1, rfl⟩ := own_slice hown
  refine h A1 c1 w1 (by simpa using hown) (World.grownBy.trans (World.grownBy_alloc W _ _) hg) ?_ (by simp at hsz; omega)
  rcases hat with hat | hat
  · exact .inl hat
  · exact .inr ⟨_, hat, by simp⟩
end
/-- A text, of a list of bytes; bytes as values. -/
def str (l : List UInt8) : ByteArray := ⟨l.toArray⟩
theorem str_list (s : ByteArray) : str s.data.toList = s := rfl
theorem str_data (l : List UInt8) : (str l).data.toList = l := rfl
theorem str_size (l : List UInt8) : (str l).size = l.length := by simp [str, ByteArray.size]
def bytesV (l : List UInt8) : List Value := l.map fun c => .int .u8 (c.toNat : Int)
theorem bytesV_length (l : List UInt8) : (bytesV l).length = l.length := by simp [bytesV]
theorem bytesV_append (l m : List UInt8) : bytesV (l ++ m) = bytesV l ++ bytesV m := by simp [bytesV]
theorem take_all (s : ByteArray) : s.data.toList.take s.size = s.data.toList := List.take_of_length_le (by rw [Array.length_toList]; exact Nat.le_refl _)
theorem take_succ (s : ByteArray) (k : Nat) (h : k < s.size) : s.data.toList.take (k + 1) = s.data.toList.take k ++ [s[k]] := by
  rw [List.take_succ_eq_append_getElem (by simpa using h)]; rfl
theorem str_nums (l : List UInt8) : str l = strOfNums (l.map fun c => (c.toNat : Int)) := by
  unfold str strOfNums
  rw [List.map_map]
  congr 2
  induction l with
  | nil => rfl
  | cons c l ih => rw [List.map_cons, ← ih]; simp
theorem run_bytes_str {P : Program} {w : World} {base n : Nat} {e' src dst e : TypeId} {A : Option Addr} {c : Nat} {l : List UInt8} (hs : P.underlying src = some (.slice e)) (he : P.underlying e = some (.int .u8)) (hd : P.underlying dst = some .string)
    (h : w.ownsRow base e' 1 (.slice A n c) n (bytesV l)) : (convert src dst (.slice A n c)).run P w = .ok (.string (str l)) w := by
  have hl : l.length = n := by have := h.1; simp [bytesV] at this; exact this
  rw [str_nums]
  rcases h.2 with ⟨h1, rfl⟩ | ⟨g, cap, cur, h1, _⟩
  · obtain rfl : l = [] := List.eq_nil_of_length_eq_zero hl
    simp only [Value.slice.injEq] at h1
    obtain ⟨rfl, -, rfl⟩ := h1
    exact run_convert_bytes_nil w src e hs he 0 0 dst hd
  · simp only [Value.slice.injEq] at h1
    obtain ⟨rfl, -, rfl⟩ := h1
    refine run_convert_bytes_arg w src e hs he g 0 n _ _ (by simpa using hl) (fun i hi => ?_) dst hd
    have hc := h.cells (g := g) rfl i (.int .u8 ((l.map fun c => (c.toNat : Int)).getD i 0)) (by simp [bytesV, List.getElem?_eq_getElem (show i < l.length by omega), List.getD_eq_getElem?_getD])
    have ha : (⟨g, 0, none⟩ : Addr).add i = ⟨g, 0 + i, none⟩ := by unfold Addr.add; split <;> simp_all
    rwa [ha] at hc
theorem run_byte_str {P : Program} {src dst e : TypeId} (hs : P.underlying src = some (.slice e)) (he : P.underlying e = some (.int .u8)) (hd : P.underlying dst = some .string) (c : UInt8) (t : TypeId) (W : World) :
    (convert src dst (.slice (some ⟨W.heap.size, 0, none⟩) 1 1)).run P (W.alloc (.cells #[.int .u8 (c.toNat : Int)] t)) = .ok (.string (str [c])) (W.alloc (.cells #[.int .u8 (c.toNat : Int)] t)) :=
  run_bytes_str (base := 0) (e' := t) hs he hd (World.ownsRow_lit (base := 0) (e := t) (size := 1) W #[.int .u8 (c.toNat : Int)] 1 (Nat.zero_le _) (by decide) rfl)
theorem str_append (l m : List UInt8) : str l ++ str m = str (l ++ m) := by
  apply ByteArray.ext
  rw [ByteArray.data_append]
  simp [str]
section
variable {P : Program} {ops : Array Oper} {rest : List Oper} {o : Oper} {a : Act} {Q : Exit → Act → World → Prop}
/-- 'append(v, x)' as a step of a region that draws its order: the box of x lies in block B. -/
theorem step_append_one {w : World} {K : Act → World → Prop} {E : Prop} (base : Nat) (hgd : o.guard = none) (s x : Operand) (t e : TypeId) (z : Value) (bytes : Nat)
    (ho : o.op = .call { callee := .builtin .append, args := #[s, x], argTypes := #[t, t] })
    (ht : P.underlying t = some (.slice e)) (hinfo : (P.info? e).map (fun i => (i.zero, i.size, i.bytes)) = some (some z, 1, bytes)) (hz : z.cells.size = 1) (hb0 : 0 < bytes)
    (v : Value) (k : Nat) (xs : List Value) (B : Nat) (y : Value) (hs : a.eval s = v) (hx : a.eval x = .slice (some ⟨B, 0, none⟩) 1 1) (hbox : w.heap[B]? = some (.cells #[y] e (0, 0))) (h1 : y.oneCell' = true)
    (HO : w.ownsRow base e 1 v k xs) (hbase : base ≤ w.heap.size) (hl : (k + 1) * bytes ≤ 140737488355328)
    (h : ∀ A1 c1 w1, w1.ownsRow base e 1 (.slice A1 (k + 1) c1) (k + 1) (xs ++ [y]) → w.grownBy w1 v.ownBlock →
      ((Value.slice A1 (k + 1) c1).ownBlock = v.ownBlock ∨ (Value.slice A1 (k + 1) c1).ownBlock = some w.heap.size) → K (a.put o.dst (.slice A1 (k + 1) c1)) w1) :
    if Region.wanted o (yielded ops a.tmps) = true then Oper.wp P o a w K Q else E := by
  obtain ⟨i0, hi, hz0, hz1, hz2⟩ := info_parts hinfo
  have hlen : k + 1 ≤ 140737488355328 := Nat.le_trans (Nat.le_mul_of_pos_right _ hb0) hl
  have hw : Region.wanted o (yielded ops a.tmps) = true := by simp [Region.wanted, hgd]
  rw [if_pos hw]
  obtain ⟨v', w', hr, h2, h3, _, h5⟩ := run_append_own_at (P := P) w base t o.type e i0 z 1 bytes ht hi hz0 hz1 hz2 hz (by omega) v k xs HO ⟨B, 0, none⟩ 1 1 [y] rfl
    (World.news_of_block (cs := #[y]) hbox) (by simpa using h1) (by simp only [maxLen]; omega) hl hbase
  obtain ⟨A1, c1, rfl⟩ := own_slice h2
  unfold Oper.wp execOp
  simp only [ho, resolve, invoke, builtin, Sem.run_bind, Sem.run_pure, Result.andThen_ok, List.map_toArray, List.map_cons, List.map_nil, hs, hx, hr]
  exact h A1 c1 w' h2 h3 h5
end
/-! A slice that is read: nil, empty and others alike; its elements are one cell each. -/
def Reads (w : World) (A : Option Addr) (n : Nat) (vs : List Value) : Prop :=
  vs.length = n ∧ n ≤ 9223372036854775807 ∧ ∀ j, j < n → ∃ ad, A = some ad ∧ w.cell? (ad.add j) = some (vs.getD j undef)
theorem Reads.at_ {w : World} {A : Option Addr} {n : Nat} {vs : List Value} (h : Reads w A n vs) (j : Nat) (hj : j < n) : ∃ ad, A = some ad ∧ w.cell? (ad.add j) = some (vs.getD j undef) := h.2.2 j hj
theorem Reads.below {w w1 : World} {A : Option Addr} {n : Nat} {vs : List Value} (h : Reads w A n vs) (hb : Below w.heap.size w w1) : Reads w1 A n vs :=
  ⟨h.1, h.2.1, fun j hj => by
    obtain ⟨ad, e, hc⟩ := h.2.2 j hj
    exact ⟨ad, e, (hb.cell (World.block_lt_of_cell? w _ hc)).trans hc⟩⟩
theorem Reads.same {w w1 : World} {A : Option Addr} {n : Nat} {vs : List Value} (h : Reads w A n vs) {B : Nat} (hb : Below B w w1) (hB : ∀ ad, A = some ad → ad.block < B) : Reads w1 A n vs :=
  ⟨h.1, h.2.1, fun j hj => by
    obtain ⟨ad, e, hc⟩ := h.2.2 j hj
    have hbl : (ad.add j).block = ad.block := by unfold Addr.add; split <;> rfl
    exact ⟨ad, e, (hb.cell (p := ad.add j) (by rw [hbl]; exact hB ad e)).trans hc⟩⟩
theorem own_reads {w : World} {base n : Nat} {e : TypeId} {A : Option Addr} {c : Nat} {xs : List Value} (h : w.ownsRow base e 1 (.slice A n c) n xs) : Reads w A n xs := by
  have hl : xs.length = n := by have := h.1; simpa using this
  refine ⟨hl, ?_, fun j hj => ?_⟩
  · rcases h.2 with ⟨_, h1⟩ | ⟨g', cap', cur, he, _, _, h1, h2, _⟩
    · omega
    · simp only [maxLen] at h2; omega
  · rcases h.2 with ⟨_, h1⟩ | ⟨g, cap, cur, h1, _⟩
    · omega
    · simp only [Value.slice.injEq] at h1
      obtain ⟨rfl, -, rfl⟩ := h1
      refine ⟨_, rfl, h.cells (g := g) rfl j _ ?_⟩
      rw [List.getD_eq_getElem?_getD, List.getElem?_eq_getElem (by omega)]; rfl
theorem strCells_str (l : List UInt8) : Lib.strCells (str l) = bytesV l := rfl
section
variable {P : Program} {ops : Array Oper} {rest : List Oper} {o : Oper} {a : Act} {Q : Exit → Act → World → Prop}
/-- 'append(b, s...)', b bytes of the call's own, s a text. -/
theorem append_str {w : World} (base : Nat) (hgd : o.guard = none) (sl x : Operand) (t u e : TypeId) (ho : o.op = .call { callee := .builtin .append, args := #[sl, x], argTypes := #[t, u] })
    (ht : P.underlying t = some (.slice e)) (hu : P.underlying u = some .string) (hinfo : (P.info? e).map (fun i => (i.zero, i.size, i.bytes)) = some (some (.int .u8 0), 1, 1))
    (v : Value) (n : Nat) (l m : List UInt8) (hs : a.eval sl = v) (hown : w.ownsRow base e 1 v n (bytesV l)) (hx : a.eval x = .string (str m)) (hb : n + m.length ≤ 140737488355328) (hbase : base ≤ w.heap.size)
    (h : ∀ A1 c1 w1, w1.ownsRow base e 1 (.slice A1 (n + m.length) c1) (n + m.length) (bytesV (l ++ m)) → w.grownBy w1 v.ownBlock → wpList P ops Q rest (a.put o.dst (.slice A1 (n + m.length) c1)) w1) :
    wpList P ops Q (o :: rest) a w := by
  obtain ⟨i0, hi, hz0, hz1, hz2⟩ := info_parts hinfo
  refine Lib.wpList_append_own_string w hgd sl x t u ho base e i0 ht hu hi hz0 hz1 hz2 v n (bytesV l) hs hown (str m) hx (by rw [str_size]; simp only [maxLen]; omega) (by rw [str_size]; exact hb) hbase ?_
  intro v1 w1 ho1 hg1 _
  rw [str_size, strCells_str, ← bytesV_append] at ho1
  obtain ⟨A1, c1, rfl⟩ := own_slice ho1
  exact h A1 c1 w1 ho1 hg1
end
/-- A slice of whole numbers that came in, as the guide's shell opens it. -/
theorem reads_of_row {k : IntKind} {w : World} {a : Option Addr} {len cap : Nat} {zs : List Int} (h : (a = none ∧ len = 0 ∧ cap = 0 ∧ zs = []) ∨
    ∃ x, a = some x ∧ len ≤ cap ∧ cap ≤ maxLen ∧ zs.length = cap ∧ (∀ i, i < zs.length → w.cell? (x.add i) = some (.int k (zs.getD i 0))) ∧ ∀ n ∈ zs, (Lit.int k n).wf = true) :
    Reads w a len ((zs.take len).map fun z => .int k z) ∧ ∀ n ∈ zs.take len, (Lit.int k n).wf = true := by
  rcases h with ⟨rfl, rfl, rfl, rfl⟩ | ⟨x, rfl, hl, hm, hz, hc, hw⟩
  · exact ⟨⟨rfl, by decide, fun j hj => by omega⟩, fun n hn => by simp at hn⟩
  · simp only [maxLen] at hm
    refine ⟨⟨by simp; omega, by omega, fun j hj => ⟨x, rfl, ?_⟩⟩, fun n hn => hw n (List.mem_of_mem_take hn)⟩
    rw [hc j (by omega)]
    simp [hj, show j < zs.length by omega]
theorem reads_nil (w : World) : Reads w none 0 [] := ⟨rfl, by decide, fun j hj => by omega⟩
end Go.Proofs.YtladmconpolneaaGreat

/- Vectors: how many places both have, the sum of products, how far. -/
set_option linter.unusedVariables false
set_option linter.unusedSimpArgs false
namespace Go.Proofs.YtladmconpolneaaGreat
open Go.RowKit
def i32V (l : List Int) : List Value := l.map fun z => .int .i32 z
def Bd (B : Int) (l : List Int) : Prop := ∀ x ∈ l, -B ≤ x ∧ x ≤ B
theorem i32V_length (l : List Int) : (i32V l).length = l.length := by simp [i32V]
theorem i32V_getD (l : List Int) (k : Nat) (h : k < l.length) : (i32V l).getD k undef = .int .i32 (l.getD k 0) := by
  simp [i32V, List.getD_eq_getElem?_getD, List.getElem?_eq_getElem h]
theorem Bd.getD {B : Int} {l : List Int} (h : Bd B l) (h0 : 0 ≤ B) (k : Nat) : -B ≤ l.getD k 0 ∧ l.getD k 0 ≤ B := by
  rw [List.getD_eq_getElem?_getD]
  cases hk : l[k]? with
  | none => simp; omega
  | some x => exact h x (List.mem_of_getElem? hk)
theorem mul_bd (x y : Int) (B C : Nat) (hx : -(B : Int) ≤ x ∧ x ≤ B) (hy : -(C : Int) ≤ y ∧ y ≤ C) : -((B * C : Nat) : Int) ≤ x * y ∧ x * y ≤ ((B * C : Nat) : Int) := by
  have h1 : x.natAbs ≤ B := by omega
  have h2 : y.natAbs ≤ C := by omega
  have h3 := Nat.mul_le_mul h1 h2
  rw [← Int.natAbs_mul] at h3
  omega
theorem mul_bd21 (x y : Int) (hx : -2097152 ≤ x ∧ x ≤ 2097152) (hy : -2097152 ≤ y ∧ y ≤ 2097152) : -4398046511104 ≤ x * y ∧ x * y ≤ 4398046511104 := by
  have h := mul_bd x y 2097152 2097152 hx hy
  have e : ((2097152 * 2097152 : Nat) : Int) = 4398046511104 := by decide +kernel
  rw [e] at h
  exact h
/-- The sum of products of the first k places. -/
def dotTo (a b : List Int) : Nat → Int
  | 0 => 0
  | k + 1 => dotTo a b k + a.getD k 0 * b.getD k 0
def dotL (a b : List Int) : Int := dotTo a b (min a.length b.length)
theorem dotTo_bd (a b : List Int) (ha : Bd 2097152 a) (hb : Bd 2097152 b) (k : Nat) : -((k : Int) * 4398046511104) ≤ dotTo a b k ∧ dotTo a b k ≤ (k : Int) * 4398046511104 := by
  induction k with
  | zero => simp [dotTo]
  | succ k ih =>
    have := mul_bd21 (a.getD k 0) (b.getD k 0) (ha.getD (by decide) k) (hb.getD (by decide) k)
    simp only [dotTo]
    omega
theorem Reads.i32 {w : World} {A : Option Addr} {n : Nat} {l : List Int} (h : Reads w A n (i32V l)) (k : Nat) (hk : k < n) : ∃ ad, A = some ad ∧ w.cell? (ad.add k) = some (.int .i32 (l.getD k 0)) := by
  obtain ⟨ad, e, hc⟩ := h.at_ k hk
  refine ⟨ad, e, ?_⟩
  rw [hc, i32V_getD _ _ (by have := h.1; rw [i32V_length] at this; omega)]
theorem Reads.i32_len {w : World} {A : Option Addr} {n : Nat} {l : List Int} (h : Reads w A n (i32V l)) : l.length = n := by
  have := h.1; rw [i32V_length] at this; exact this
theorem both_any (A B : Option Addr) (n c m d : Nat) (w : World) : Calls Tryz.prog 94 #[.slice A n c, .slice B m d] w fun e w' => e = .returned (.int .i64 ((min n m : Nat) : Int)) ∧ w = w' := by
  go_enter Tryz.func94, Tryz.ntmps94
  go_wp2
  all_goals
    go_ret
    exact ⟨ret_int (by omega), rfl⟩
theorem quiet_below {w w' : World} (h : ∃ n, w' = w.drewN n) : Below w.heap.size w w' := by
  obtain ⟨n, rfl⟩ := h
  exact bel_drewN (Below.refl _ _) n
theorem Reads.drewN {w : World} {A : Option Addr} {n : Nat} {vs : List Value} (h : Reads w A n vs) (m : Nat) : Reads (w.drewN m) A n vs := h.below (bel_drewN (Below.refl _ _) m)
theorem quiet_add {P : Program} {f : FuncId} {args : Array Value} {w : World} {a n : Nat} {v : Value}
    (h : Calls P f args (w.drewN (a + n)) fun e w' => e = .returned v ∧ ∃ m, w' = (w.drewN (a + n)).drewN m) :
    Calls P f args (w.drewN (a + n)) fun e w'' => e = .returned v ∧ ∃ m, w'' = w.drewN (a + m) :=
  h.mono fun _ _ ⟨he, m, hm⟩ => ⟨he, n + m, by rw [hm, World.drewN_drewN, Nat.add_assoc]⟩
set_option maxHeartbeats 400000 in
theorem dot_any (a b : List Int) (A B : Option Addr) (n c m d : Nat) (w : World) (ha : Reads w A n (i32V a)) (hb : Reads w B m (i32V b)) (hA : Bd 2097152 a) (hB : Bd 2097152 b) (hn : min n m ≤ 1024) :
    Calls Tryz.prog 101 #[.slice A n c, .slice B m d] w fun e w' => e = .returned (.int .i64 (dotL a b)) ∧ ∃ nn, w' = w.drewN nn := by
  obtain rfl := ha.i32_len
  obtain rfl := hb.i32_len
  unfold dotL
  obtain ⟨q, hq⟩ : ∃ q, min a.length b.length = q := ⟨_, rfl⟩
  have hBoth := Lib.hid (fun w => both_any A B a.length c b.length d w)
  rw [hq] at hBoth hn ⊢
  have hqa : q ≤ a.length := by omega
  have hqb : q ≤ b.length := by omega
  have HA := Lib.hid ha
  have HB := Lib.hid hb
  clear ha hb hq
  go_enter Tryz.func101, Tryz.ntmps101
  go_wp2_with (go_at_call 94; refine (hBoth.out _).mono ?_; rintro e w1 ⟨rfl, rfl⟩)
  go_loopg [5, 10] q (fun gk s b_ wr => ∃ k nn : Nat, gk = q - k ∧ k ≤ q ∧ b_ = .int .i64 (k : Int) ∧ s = .int .i64 (dotTo a b k) ∧ wr = w.drewN nn)
  case atStart => exact ⟨0, 0, rfl, Nat.zero_le _, rfl, rfl, rfl⟩
  case round =>
    obtain ⟨k, nn, rfl, hk, rfl, rfl, rfl⟩ := hrel
    by_cases hlt : k < q
    · obtain ⟨ad, rfl, hc⟩ := HA.out.i32 k (by omega)
      obtain ⟨bd, rfl, hd⟩ := HB.out.i32 k (by omega)
      have h1 := mul_bd21 (a.getD k 0) (b.getD k 0) (hA.getD (by decide) k) (hB.getD (by decide) k)
      have h2 := dotTo_bd a b hA hB k
      have h3 := hA.getD (by decide) k
      have h4 := hB.getD (by decide) k
      have HS := Lib.hid (show dotTo a b (k + 1) = dotTo a b k + a.getD k 0 * b.getD k 0 from rfl)
      clear hA hB
      generalize dotTo a b k = s at *
      generalize a.getD k 0 = x at *
      generalize b.getD k 0 = y at *
      have hlt' : (k : Int) < (q : Int) := by omega
      have hka : (k : Int) < (a.length : Int) := by omega
      have hkb : (k : Int) < (b.length : Int) := by omega
      have w1 : IntKind.i64.wrap (x * y) = x * y := IntWalk.i64_in _ (by omega)
      have w2 : IntKind.i64.wrap (s + x * y) = s + x * y := IntWalk.i64_in _ (by omega)
      go_wp2_with (go_quiet (fail))
      go_roundg (q - (k + 1))
      case measure => omega
      case rel => exact ⟨k + 1, _, rfl, hlt, by go_num, by rw [HS.out], rfl⟩
    · obtain rfl : k = q := by omega
      go_wp2
      go_ret
      exact ⟨rfl, nn, rfl⟩
def farTo (a b : List Int) : Nat → Int
  | 0 => 0
  | k + 1 => farTo a b k + (a.getD k 0 - b.getD k 0) * (a.getD k 0 - b.getD k 0)
def farL (a b : List Int) : Int := farTo a b (min a.length b.length)
theorem farTo_bd (a b : List Int) (ha : Bd 1048576 a) (hb : Bd 1048576 b) (k : Nat) : 0 ≤ farTo a b k ∧ farTo a b k ≤ (k : Int) * 4398046511104 := by
  induction k with
  | zero => simp [farTo]
  | succ k ih =>
    have h1 := ha.getD (by decide) k
    have h2 := hb.getD (by decide) k
    have := mul_bd21 (a.getD k 0 - b.getD k 0) (a.getD k 0 - b.getD k 0) (by omega) (by omega)
    have h0 : 0 ≤ (a.getD k 0 - b.getD k 0) * (a.getD k 0 - b.getD k 0) := by
      rcases Int.le_total 0 (a.getD k 0 - b.getD k 0) with h | h
      · exact Int.mul_nonneg h h
      · exact Int.mul_nonneg_of_nonpos_of_nonpos h h
    simp only [farTo]
    omega
set_option maxHeartbeats 400000 in
theorem far_any (a b : List Int) (A B : Option Addr) (n c m d : Nat) (w : World) (ha : Reads w A n (i32V a)) (hb : Reads w B m (i32V b)) (hA : Bd 1048576 a) (hB : Bd 1048576 b) (hn : min n m ≤ 1024) :
    Calls Tryz.prog 48 #[.slice A n c, .slice B m d] w fun e w' => e = .returned (.int .i64 (farL a b)) ∧ ∃ nn, w' = w.drewN nn := by
  obtain rfl := ha.i32_len
  obtain rfl := hb.i32_len
  unfold farL
  obtain ⟨q, hq⟩ : ∃ q, min a.length b.length = q := ⟨_, rfl⟩
  have hBoth := Lib.hid (fun w => both_any A B a.length c b.length d w)
  rw [hq] at hBoth hn ⊢
  have hqa : q ≤ a.length := by omega
  have hqb : q ≤ b.length := by omega
  have HA := Lib.hid ha
  have HB := Lib.hid hb
  clear ha hb hq
  go_enter Tryz.func48, Tryz.ntmps48
  go_wp2_with (go_at_call 94; refine (hBoth.out _).mono ?_; rintro e w1 ⟨rfl, rfl⟩)
  go_loopg [5, 11] q (fun gk s b_ wr => ∃ k nn : Nat, gk = q - k ∧ k ≤ q ∧ b_ = .int .i64 (k : Int) ∧ s = .int .i64 (farTo a b k) ∧ wr = w.drewN nn)
  case atStart => exact ⟨0, 0, rfl, Nat.zero_le _, rfl, rfl, rfl⟩
  case round =>
    obtain ⟨k, nn, rfl, hk, rfl, rfl, rfl⟩ := hrel
    by_cases hlt : k < q
    · obtain ⟨ad, rfl, hc⟩ := HA.out.i32 k (by omega)
      obtain ⟨bd, rfl, hd⟩ := HB.out.i32 k (by omega)
      have h3 := hA.getD (by decide) k
      have h4 := hB.getD (by decide) k
      have h1 := mul_bd21 (a.getD k 0 - b.getD k 0) (a.getD k 0 - b.getD k 0) (by omega) (by omega)
      have h2 := farTo_bd a b hA hB k
      have HS := Lib.hid (show farTo a b (k + 1) = farTo a b k + (a.getD k 0 - b.getD k 0) * (a.getD k 0 - b.getD k 0) from rfl)
      clear hA hB
      generalize farTo a b k = s at *
      generalize a.getD k 0 = x at *
      generalize b.getD k 0 = y at *
      have hlt' : (k : Int) < (q : Int) := by omega
      have hka : (k : Int) < (a.length : Int) := by omega
      have hkb : (k : Int) < (b.length : Int) := by omega
      have w0 : IntKind.i64.wrap (x - y) = x - y := IntWalk.i64_in _ (by omega)
      have w1 : IntKind.i64.wrap ((x - y) * (x - y)) = (x - y) * (x - y) := IntWalk.i64_in _ (by omega)
      have w2 : IntKind.i64.wrap (s + (x - y) * (x - y)) = s + (x - y) * (x - y) := IntWalk.i64_in _ (by omega)
      go_wp2_with (go_quiet (fail))
      go_roundg (q - (k + 1))
      case measure => omega
      case rel => exact ⟨k + 1, _, rfl, hlt, by go_num, by rw [HS.out], rfl⟩
    · obtain rfl : k = q := by omega
      go_wp2
      go_ret
      exact ⟨rfl, nn, rfl⟩
end Go.Proofs.YtladmconpolneaaGreat

/- Vectors: may one be? new memory; the same ones? differences. -/
set_option linter.unusedVariables false
set_option linter.unusedSimpArgs false
namespace Go.Proofs.YtladmconpolneaaGreat
open Go.RowKit
def okc (x : Int) : Bool := decide (-1048576 ≤ x) && decide (x ≤ 1048576)
def okV (l : List Int) : Bool := l.all okc
theorem okV_bd {l : List Int} (h : okV l = true) : Bd 1048576 l := by
  intro x hx
  have := List.all_eq_true.1 h x hx
  simpa [okc] using this
theorem bd_okV {l : List Int} (h : Bd 1048576 l) : okV l = true := by
  refine List.all_eq_true.2 fun x hx => ?_
  have := h x hx
  simp [okc]; omega
theorem bad_any (x : Int) (w : World) : Calls Tryz.prog 110 #[.int .i32 x] w fun e w' => e = .returned (.bool (!okc x)) ∧ w = w' := by
  by_cases h1 : x < -1048576
  · have e : okc x = false := by simp [okc]; omega
    rw [e]
    go_enter Tryz.func110, Tryz.ntmps110
    go_wp2
    go_ret
    exact ⟨rfl, rfl⟩
  · by_cases h2 : 1048576 < x
    · have e : okc x = false := by simp [okc]; omega
      rw [e]
      go_enter Tryz.func110, Tryz.ntmps110
      go_wp2
      go_ret
      exact ⟨rfl, rfl⟩
    · have e : okc x = true := by simp [okc]; omega
      rw [e]
      go_enter Tryz.func110, Tryz.ntmps110
      go_wp2
      go_ret
      exact ⟨rfl, rfl⟩
def IdxPost (b : Bool) (w : World) (e : Ending) (w' : World) : Prop := ∃ r : Int, e = .returned (.int .i64 r) ∧ (b = true → r = -1) ∧ (b = false → 0 ≤ r) ∧ -1 ≤ r ∧ w = w'
theorem okV_take (l : List Int) (k : Nat) (h : k < l.length) : okV (l.take (k + 1)) = (okV (l.take k) && okc (l.getD k 0)) := by
  unfold okV
  rw [List.take_succ_eq_append_getElem h, List.all_append]
  simp [List.getD_eq_getElem?_getD, List.getElem?_eq_getElem h]
theorem okV_false (l : List Int) (k : Nat) (h : k < l.length) (hb : okc (l.getD k 0) = false) : okV l = false := by
  cases ho : okV l with
  | false => rfl
  | true =>
    have := List.all_eq_true.1 ho (l.getD k 0) (by rw [List.getD_eq_getElem?_getD, List.getElem?_eq_getElem h]; exact List.getElem_mem h)
    rw [this] at hb; cases hb
set_option maxHeartbeats 400000 in
theorem idx_any (l : List Int) (A : Option Addr) (n c : Nat) (w : World) (h : Reads w A n (i32V l)) : Calls Tryz.prog 149 #[.slice A n c, .func (.func 110) #[] #[]] w (IdxPost (okV l) w) := by
  obtain rfl := h.i32_len
  have hm := h.2.1
  have H := Lib.hid h
  have HB := Lib.hid (fun x w => bad_any x w)
  clear h
  go_enter Tryz.func149, Tryz.ntmps149
  go_wp2
  go_loopg [8] l.length (fun gk b wr => wr = w ∧ ∃ k : Nat, gk = l.length - k ∧ k ≤ l.length ∧ b = .int .i64 (k : Int) ∧ okV (l.take k) = true)
  case atStart => exact ⟨rfl, 0, rfl, Nat.zero_le _, rfl, rfl⟩
  case round =>
    obtain ⟨rfl, k, rfl, hk, rfl, hok⟩ := hrel
    have HK := Lib.hid hok
    clear hok
    by_cases hlt : k < l.length
    · obtain ⟨ad, rfl, hc⟩ := H.out.i32 k hlt
      have HT := Lib.hid (okV_take l k hlt)
      have HF := Lib.hid (okV_false l k hlt)
      have hlt' : (k : Int) < (l.length : Int) := by omega
      generalize l.getD k 0 = x at *
      cases ho : okc x with
      | true =>
        rw [ho] at HT
        have HO := Lib.hid ho
        clear ho
        go_wp2_with (go_at_call 110; refine (HB.out _ _).mono ?_; rw [HO.out]; rintro e w1 ⟨rfl, rfl⟩)
        go_roundg (l.length - (k + 1))
        case measure => omega
        case rel => exact ⟨rfl, k + 1, rfl, hlt, by go_num, by rw [HT.out, HK.out]; rfl⟩
      | false =>
        have HO := Lib.hid ho
        clear ho
        go_wp2_with (go_at_call 110; refine (HB.out _ _).mono ?_; rw [HO.out]; rintro e w1 ⟨rfl, rfl⟩)
        go_ret
        refine ⟨_, rfl, fun h => ?_, fun _ => by omega, by omega, rfl⟩
        rw [HF.out HO.out] at h; cases h
    · obtain rfl : k = l.length := by omega
      go_wp2
      go_ret
      have hK := HK.out
      rw [List.take_length] at hK
      exact ⟨_, rfl, fun _ => rfl, (fun h => by rw [hK] at h; cases h), by decide, rfl⟩
theorem has_any (l : List Int) (A : Option Addr) (n c : Nat) (w : World) (h : Reads w A n (i32V l)) : Calls Tryz.prog 109 #[.slice A n c, .func (.func 110) #[] #[]] w fun e w' => e = .returned (.bool (!okV l)) ∧ w = w' := by
  have H := Lib.hid (fun w => idx_any l A n c w)
  have HR := Lib.hid h
  clear h
  cases ho : okV l with
  | true =>
    rw [ho] at H
    go_enter Tryz.func109, Tryz.ntmps109
    go_wp2_with (go_at_call 149; refine (H.out _ HR.out).mono ?_; rintro e w1 ⟨r, rfl, h1, h2, h3, rfl⟩; obtain rfl := h1 rfl; clear h1 h2)
    go_ret
    exact ⟨rfl, rfl⟩
  | false =>
    rw [ho] at H
    go_enter Tryz.func109, Tryz.ntmps109
    go_wp2_with (go_at_call 149; refine (H.out _ HR.out).mono ?_; rintro e w1 ⟨r, rfl, h1, h2, h3, rfl⟩; have h4 := h2 rfl; clear h1 h2)
    go_ret
    exact ⟨rfl, rfl⟩
/-- The error's number of a vector. -/
def vecE (l : List Int) (dim : Int) : Int := if dim < 1 ∨ 1024 < dim then 1 else if (l.length : Int) ≠ dim then 3 else if okV l then 0 else 4
theorem vcheck_any (l : List Int) (dim : Int) (A : Option Addr) (n c : Nat) (w : World) (h : Reads w A n (i32V l)) : Calls Tryz.prog 71 #[.slice A n c, .int .i64 dim] w fun e w' => e = .returned (.int .i64 (vecE l dim)) ∧ w = w' := by
  obtain rfl := h.i32_len
  have H := Lib.hid (fun w => has_any l A l.length c w)
  have HR := Lib.hid h
  clear h
  unfold vecE
  by_cases h1 : dim < 1
  · rw [if_pos (.inl h1)]
    go_enter Tryz.func71, Tryz.ntmps71
    go_wp2
    go_ret
    exact ⟨rfl, rfl⟩
  by_cases h2 : 1024 < dim
  · rw [if_pos (.inr h2)]
    go_enter Tryz.func71, Tryz.ntmps71
    go_wp2
    go_ret
    exact ⟨rfl, rfl⟩
  rw [if_neg (by omega)]
  by_cases h3 : (l.length : Int) = dim
  · rw [if_neg (by omega)]
    obtain ⟨q, rfl⟩ := Int.eq_ofNat_of_zero_le (show 0 ≤ dim by omega)
    have h3' : l.length = q := by omega
    subst h3'
    clear h3
    cases ho : okV l with
    | true =>
      rw [if_pos rfl]
      rw [ho] at H
      go_enter Tryz.func71, Tryz.ntmps71
      go_wp2_with (go_at_call 109; refine (H.out _ HR.out).mono ?_; rintro e w1 ⟨rfl, rfl⟩)
      go_ret
      exact ⟨rfl, rfl⟩
    | false =>
      rw [if_neg (by decide)]
      rw [ho] at H
      go_enter Tryz.func71, Tryz.ntmps71
      go_wp2_with (go_at_call 109; refine (H.out _ HR.out).mono ?_; rintro e w1 ⟨rfl, rfl⟩)
      go_ret
      exact ⟨rfl, rfl⟩
  · rw [if_pos h3]
    have h3' : ((l.length : Int) == dim) = false := by simpa using h3
    clear h3
    go_enter Tryz.func71, Tryz.ntmps71
    go_wp2
    go_ret
    exact ⟨rfl, rfl⟩
end Go.Proofs.YtladmconpolneaaGreat

/- Laws on memory: append of a slice that is read, onto a row of the call's own. -/
set_option linter.unusedVariables false
set_option linter.unusedSimpArgs false
namespace Go.Proofs.YtladmconpolneaaGreat
open Go.RowKit
theorem Tryz.info21 : (Tryz.prog.info? 21).map (fun i => (i.zero, i.size, i.bytes)) = some (some (.int .i32 0), 1, 4) := by kernel_rfl
theorem Tryz.info3 : (Tryz.prog.info? 3).map (fun i => (i.zero, i.size, i.bytes)) = some (some (.int .i64 0), 1, 8) := by kernel_rfl
theorem run_append_nothing {P : Program} (w : World) (t ty e : TypeId) (i : TypeInfo) (ht : P.underlying t = some (.slice e)) (hi : P.info? e = some i) (B : Option Addr) (n cap c : Nat) (h : n ≤ cap) :
    (Builtin.append_ #[t, t] ty #[.slice B n cap, .slice none 0 c]).run P w = .ok (.slice B n cap) w := by
  unfold Builtin.append_
  cases B <;> simp [underlying, sizeOf, typeInfo, ht, hi, Builtin.lenOf, Builtin.firstCells, h, Sem.run_bind, Result.andThen, storeCells]
section
variable {P : Program} {ops : Array Oper} {rest : List Oper} {o : Oper} {a : Act} {Q : Exit → Act → World → Prop}
/-- 'append(v, x...)', v the call's own, x any slice that is read. -/
theorem append_reads {w : World} (base : Nat) (hgd : o.guard = none) (s x : Operand) (t e : TypeId) (z : Value) (bytes : Nat)
    (ho : o.op = .call { callee := .builtin .append, args := #[s, x], argTypes := #[t, t] })
    (ht : P.underlying t = some (.slice e)) (hinfo : (P.info? e).map (fun i => (i.zero, i.size, i.bytes)) = some (some z, 1, bytes)) (hz : z.cells.size = 1) (hb0 : 0 < bytes)
    (v : Value) (n : Nat) (xs : List Value) (hs : a.eval s = v) (hown : w.ownsRow base e 1 v n xs) (A : Option Addr) (m c : Nat) (ys : List Value) (hx : a.eval x = .slice A m c) (hr : Reads w A m ys) (h1 : ∀ u ∈ ys, u.oneCell' = true)
    (hb : (n + m) * bytes ≤ 140737488355328) (hbase : base ≤ w.heap.size)
    (h : ∀ A1 c1 w1, w1.ownsRow base e 1 (.slice A1 (n + m) c1) (n + m) (xs ++ ys) → w.grownBy w1 v.ownBlock → wpList P ops Q rest (a.put o.dst (.slice A1 (n + m) c1)) w1) :
    wpList P ops Q (o :: rest) a w := by
  obtain ⟨i0, hi, hz0, hz1, hz2⟩ := info_parts hinfo
  have hlen : n + m ≤ 140737488355328 := Nat.le_trans (Nat.le_mul_of_pos_right _ hb0) hb
  cases A with
  | some ad =>
    refine wpList_append_own_at w hgd s x t ho base e i0 z 1 bytes ht hi hz0 hz1 hz2 hz (by omega) v n xs hs hown ad m c ys hx (by rw [hr.1]; omega) ?_ h1 (by simp only [maxLen]; omega) hb hbase ?_
    · intro j u hj
      have hlt : j < m := by rw [← hr.1]; exact (List.getElem?_eq_some_iff.mp hj).1
      obtain ⟨ad', e', hc⟩ := hr.at_ j hlt
      cases e'
      rw [hc, List.getD_eq_getElem?_getD, hj]; rfl
    · intro v1 w1 ho1 hg1 _ _
      obtain ⟨A1, c1, rfl⟩ := own_slice ho1
      exact h A1 c1 w1 ho1 hg1
  | none =>
    have hm : m = 0 := by
      rcases Nat.eq_zero_or_pos m with h0 | h0
      · exact h0
      · obtain ⟨_, e', _⟩ := hr.at_ 0 h0; cases e'
    subst hm
    obtain rfl : ys = [] := List.eq_nil_of_length_eq_zero hr.1
    obtain ⟨A1, c1, rfl⟩ := own_slice hown
    have hcap : n ≤ c1 := by
      rcases hown.2 with ⟨h0, h1⟩ | ⟨g, cap, cur, h0, _, _, h1, _⟩
      · simp only [Value.slice.injEq] at h0; omega
      · simp only [Value.slice.injEq] at h0; omega
    refine wpList_plain hgd fun K hK => ?_
    have hr := run_append_nothing (P := P) w t o.type e i0 ht hi A1 n c1 c hcap
    unfold Oper.wp execOp
    simp only [ho, resolve, invoke, builtin, Sem.run_bind, Sem.run_pure, Result.andThen_ok, List.map_toArray, List.map_cons, List.map_nil, hs, hx, hr]
    exact hK _ _ (h A1 c1 w (by rw [List.append_nil]; exact hown) (World.grownBy.refl _ _))
end
theorem i32V_one (l : List Int) : ∀ u ∈ i32V l, u.oneCell' = true := fun u hu => by
  obtain ⟨z, _, rfl⟩ := List.mem_map.mp hu
  rfl
/-- New memory that holds a list. -/
def Made (e : TypeId) (w : World) (vs : List Value) (n : Nat) (en : Ending) (w' : World) : Prop :=
  ∃ A c, en = .returned (.slice A n c) ∧ w'.ownsRow w.heap.size e 1 (.slice A n c) n vs ∧ Below w.heap.size w w'
theorem own_nil (w : World) (base : Nat) (e : TypeId) (size : Nat) : w.ownsRow base e size (.slice none 0 0) 0 [] := World.ownsRow_nil _ _ _ _
/-- A row of the call's own that isn't empty isn't nil. -/
theorem own_some {w : World} {base n c : Nat} {e : TypeId} {size : Nat} {A : Option Addr} {xs : List Value} (h : w.ownsRow base e size (.slice A n c) n xs) (hn : 0 < n) : A ≠ none := by
  rcases h.2 with ⟨_, h1⟩ | ⟨g, cap, cur, h1, _⟩
  · omega
  · simp only [Value.slice.injEq] at h1
    rw [h1.1]; simp
theorem clone_any (l : List Int) (A : Option Addr) (n c : Nat) (w : World) (h : Reads w A n (i32V l)) (hn : n ≤ 1000000) : Calls Tryz.prog 55 #[.slice A n c] w (Made 21 w (i32V l) n) := by
  obtain rfl := h.i32_len
  have H := Lib.hid h
  have V1 := Lib.hid (i32V_one l)
  clear h
  go_enter Tryz.func55, Tryz.ntmps55
  go_wp2_with (at_builtin; refine append_reads w.heap.size rfl _ _ 30 21 (.int .i32 0) 4 rfl Tryz.underlying30 Tryz.info21 rfl (by decide) (.slice none 0 0) 0 [] rfl (own_nil _ _ _ _) A l.length c (i32V l) rfl H.out V1.out (by omega) (Nat.le_refl _) ?_)
  intro A1 c1 w1 ho1 hg1
  have hb : Below w.heap.size w w1 := (Below.refl _ _).grown hg1 (Nat.le_refl _) (fun k hk => by cases hk)
  have HO := Lib.hid ho1
  have HB := Lib.hid hb
  have HG := Lib.hid hg1
  clear ho1 hb hg1
  go_wp2
  go_ret
  exact ⟨A1, c1, by simp, by simpa using HO.out, HB.out⟩
/-- A list of ints, read. -/
def i64V (l : List Int) : List Value := l.map fun z => .int .i64 z
theorem i64V_length (l : List Int) : (i64V l).length = l.length := by simp [i64V]
theorem i64V_getD (l : List Int) (k : Nat) (h : k < l.length) : (i64V l).getD k undef = .int .i64 (l.getD k 0) := by
  simp [i64V, List.getD_eq_getElem?_getD, List.getElem?_eq_getElem h]
theorem Reads.i64 {w : World} {A : Option Addr} {n : Nat} {l : List Int} (h : Reads w A n (i64V l)) (k : Nat) (hk : k < n) : ∃ ad, A = some ad ∧ w.cell? (ad.add k) = some (.int .i64 (l.getD k 0)) := by
  obtain ⟨ad, e, hc⟩ := h.at_ k hk
  refine ⟨ad, e, ?_⟩
  rw [hc, i64V_getD _ _ (by have := h.1; rw [i64V_length] at this; omega)]
theorem Reads.i64_len {w : World} {A : Option Addr} {n : Nat} {l : List Int} (h : Reads w A n (i64V l)) : l.length = n := by
  have := h.1; rw [i64V_length] at this; exact this
theorem i64V_one (l : List Int) : ∀ u ∈ i64V l, u.oneCell' = true := fun u hu => by
  obtain ⟨z, _, rfl⟩ := List.mem_map.mp hu
  rfl
/-! ### the same vectors? -/
theorem eq_take (a b : List Int) (k : Nat) (ha : k < a.length) (hb : k < b.length) : (a.take (k + 1) == b.take (k + 1)) = ((a.take k == b.take k) && (a.getD k 0 == b.getD k 0)) := by
  rw [List.take_succ_eq_append_getElem ha, List.take_succ_eq_append_getElem hb, Bool.eq_iff_iff]
  simp only [List.getD_eq_getElem?_getD, List.getElem?_eq_getElem ha, List.getElem?_eq_getElem hb, Option.getD_some, beq_iff_eq, Bool.and_eq_true]
  constructor
  · intro h
    have hl : (a.take k).length = (b.take k).length := by simp; omega
    have := List.append_inj h hl
    exact ⟨this.1, by simpa using this.2⟩
  · rintro ⟨h1, h2⟩
    rw [h1, h2]
theorem eq_far (a b : List Int) (k : Nat) (ha : k < a.length) (hb : k < b.length) (h : (a.getD k 0 == b.getD k 0) = false) : (a == b) = false := by
  rw [beq_eq_false_iff_ne] at h ⊢
  intro e
  exact h (by rw [e])
set_option maxHeartbeats 400000 in
theorem equal_any (a b : List Int) (A B : Option Addr) (n c m d : Nat) (w : World) (ha : Reads w A n (i32V a)) (hb : Reads w B m (i32V b)) :
    Calls Tryz.prog 100 #[.slice A n c, .slice B m d] w fun e w' => e = .returned (.bool (a == b)) ∧ ∃ nn, w' = w.drewN nn := by
  obtain rfl := ha.i32_len
  obtain rfl := hb.i32_len
  have hma := ha.2.1
  have HA := Lib.hid ha
  have HB := Lib.hid hb
  clear ha hb
  by_cases hl : a.length = b.length
  · have hl' : ((a.length : Int) == (b.length : Int)) = true := by simp; omega
    have HL := Lib.hid hl
    clear hl
    go_enter Tryz.func100, Tryz.ntmps100
    go_wp2
    go_loopg [13] a.length (fun gk i wr => ∃ k nn : Nat, gk = a.length - k ∧ k ≤ a.length ∧ i = .int .i64 (k : Int) ∧ (a.take k == b.take k) = true ∧ wr = w.drewN nn)
    case atStart => exact ⟨0, 0, rfl, Nat.zero_le _, rfl, rfl, rfl⟩
    case round =>
      obtain ⟨k, nn, rfl, hk, rfl, heq, rfl⟩ := hrel
      have HE := Lib.hid heq
      clear heq
      have hL := HL.out
      by_cases hlt : k < a.length
      · have hltb : k < b.length := by omega
        obtain ⟨ad, rfl, hc⟩ := HA.out.i32 k (by omega)
        obtain ⟨bd, rfl, hd⟩ := HB.out.i32 k (by omega)
        have HT := Lib.hid (eq_take a b k hlt hltb)
        have HF := Lib.hid (eq_far a b k hlt hltb)
        have hlt' : (k : Int) < (a.length : Int) := by omega
        have hltb' : (k : Int) < (b.length : Int) := by omega
        clear hL
        generalize a.getD k 0 = x at *
        generalize b.getD k 0 = y at *
        by_cases hxy : x = y
        · subst hxy
          go_wp2_with (go_quiet (fail))
          go_roundg (a.length - (k + 1))
          case measure => omega
          case rel => exact ⟨k + 1, _, rfl, hlt, by go_num, by rw [HT.out, HE.out]; simp, rfl⟩
        · have hxy' : (x == y) = false := by simpa using hxy
          have HX := Lib.hid hxy'
          clear hxy
          go_wp2_with (go_quiet (fail))
          go_ret
          exact ⟨ret_bool (HF.out HX.out).symm, _, by rw [World.drewN_drewN]⟩
      · obtain rfl : k = a.length := by omega
        have hE := HE.out
        rw [List.take_length, hL, List.take_length] at hE
        have HE2 := Lib.hid hE
        clear hE hL
        go_wp2
        go_ret
        exact ⟨ret_bool HE2.out.symm, nn, rfl⟩
  · have hl' : ((a.length : Int) == (b.length : Int)) = false := by simp; omega
    have hne : (a == b) = false := by rw [beq_eq_false_iff_ne]; intro e; exact hl (by rw [e])
    have HN := Lib.hid hne
    clear hl hne
    go_enter Tryz.func100, Tryz.ntmps100
    go_wp2
    go_ret
    exact ⟨ret_bool HN.out.symm, 0, rfl⟩
theorem same_any (a b : List Int) (A B : Option Addr) (n c m d : Nat) (w : World) (ha : Reads w A n (i32V a)) (hb : Reads w B m (i32V b)) :
    Calls Tryz.prog 54 #[.slice A n c, .slice B m d] w fun e w' => e = .returned (.bool (a == b)) ∧ ∃ nn, w' = w.drewN nn := by
  have H := Lib.hid (equal_any a b A B n c m d w ha hb)
  clear ha hb
  go_enter Tryz.func54, Tryz.ntmps54
  go_wp2_with (go_at_call 100; refine H.out.mono ?_; rintro e w1 ⟨rfl, nn, rfl⟩)
  go_ret
  exact ⟨rfl, nn, rfl⟩
end Go.Proofs.YtladmconpolneaaGreat

/- Planes: between two vectors, flat, their margins, the same ones? may one be? -/
set_option linter.unusedVariables false
set_option linter.unusedSimpArgs false
namespace Go.Proofs.YtladmconpolneaaGreat
open Go.RowKit
theorem made_list (z : Value) (hz : #[z].size = 1) (q : Nat) : madeCells #[z] q = (List.replicate q z).toArray := by
  apply Array.ext'
  rw [toList_madeCells_one]
def subTo (a b : List Int) (k : Nat) : List Int := (List.range a.length).map fun i => if i < k then a.getD i 0 - b.getD i 0 else a.getD i 0
def subL (a b : List Int) : List Int := (List.range a.length).map fun i => a.getD i 0 - b.getD i 0
theorem subTo_length (a b : List Int) (k : Nat) : (subTo a b k).length = a.length := by simp [subTo]
theorem subL_length (a b : List Int) : (subL a b).length = a.length := by simp [subL]
theorem subTo_zero (a b : List Int) : subTo a b 0 = a := by
  refine List.ext_getElem (by simp [subTo]) fun i h1 h2 => ?_
  simp [subTo, List.getElem?_eq_getElem h2]
theorem subTo_all (a b : List Int) : subTo a b a.length = subL a b := by
  refine List.ext_getElem (by simp [subTo, subL]) fun i h1 h2 => ?_
  have : i < a.length := by simpa [subTo] using h1
  simp [subTo, subL, this]
theorem subTo_succ (a b : List Int) (k : Nat) (h : k < a.length) : subTo a b (k + 1) = (subTo a b k).set k (a.getD k 0 - b.getD k 0) := by
  refine List.ext_getElem (by simp [subTo]) fun i h1 h2 => ?_
  have hi : i < a.length := by simpa [subTo] using h1
  rw [List.getElem_set]
  by_cases hik : k = i
  · subst hik; simp [subTo]
  · rw [if_neg hik]
    simp only [subTo, List.getElem_map, List.getElem_range]
    by_cases h3 : i < k
    · rw [if_pos h3, if_pos (by omega)]
    · rw [if_neg h3, if_neg (by omega)]
theorem subTo_getD (a b : List Int) (k : Nat) (h : k < a.length) : (subTo a b k).getD k 0 = a.getD k 0 := by
  rw [List.getD_eq_getElem?_getD, List.getElem?_eq_getElem (by rw [subTo_length]; exact h)]
  simp [subTo]
theorem subL_bd {a b : List Int} (ha : Bd 1048576 a) (hb : Bd 1048576 b) : Bd 2097152 (subL a b) := by
  intro x hx
  simp only [subL, List.mem_map, List.mem_range] at hx
  obtain ⟨i, _, rfl⟩ := hx
  have h1 := ha.getD (by decide) i
  have h2 := hb.getD (by decide) i
  omega
theorem block_cell {w : World} {g : Nat} {l : List Int} {e : TypeId} (h : w.heap[g]? = some (.cells (i32V l).toArray e (0, 0))) (k : Nat) (hk : k < l.length) :
    w.cell? ⟨g, k, none⟩ = some (.int .i32 (l.getD k 0)) ∧ w.frozen? ⟨g, k, none⟩ = false := by
  refine ⟨?_, frozen_of_row _ _ _ _ _ h⟩
  rw [cell_of_row _ _ _ _ _ _ h]
  simp [i32V, List.getElem?_eq_getElem hk, List.getD_eq_getElem?_getD]
theorem own_of_block {w : World} {g base : Nat} {vs : List Value} {e : TypeId} (h : w.heap[g]? = some (.cells vs.toArray e (0, 0))) (hb : base ≤ g) (hn : vs.length ≤ 1000000000) : w.ownsRow base e 1 (.slice (some ⟨g, 0, none⟩) vs.length vs.length) vs.length vs :=
  ⟨by simp, .inr ⟨g, vs.length, vs.toArray, rfl, hb, h, Nat.le_refl _, by simp only [maxLen]; omega, by simp, by simp⟩⟩
theorem splice_all (q : Nat) (z : Value) (cs : List Value) (h : cs.length = q) : splice (List.replicate q z) 0 cs = cs := by
  simp [splice, h]
set_option maxHeartbeats 800000 in
theorem less_any (a b : List Int) (A B : Option Addr) (c d : Nat) (w : World) (ha : Reads w A a.length (i32V a)) (hb : Reads w B b.length (i32V b)) (hl : a.length = b.length) (hA : Bd 1048576 a) (hB : Bd 1048576 b) (hn : a.length ≤ 1024) :
    Calls Tryz.prog 181 #[.slice A a.length c, .slice B b.length d] w (Made 21 w (i32V (subL a b)) a.length) := by
  have hBoth : Hid (∀ w, Calls Tryz.prog 94 #[.slice A a.length c, .slice B b.length d] w fun e w' => e = .returned (.int .i64 (a.length : Int)) ∧ w = w') := fun w => by
    have := both_any A B a.length c b.length d w
    rw [show min a.length b.length = a.length from by omega] at this; exact this
  have hmk := run_make_ints (P := Tryz.prog) 30 21 .i32 4 Tryz.underlying30 Tryz.info21 (by decide) a.length (by omega)
  have hg1 : ∀ W : World, (W.alloc (.cells (madeCells #[.int .i32 0] a.length) 21)).heap[W.heap.size]? = some (.cells (List.replicate a.length (.int .i32 0)).toArray 21 (0, 0)) := fun W => by
    rw [heap_alloc_new, made_list _ rfl]
  have HG1 := Lib.hid hg1
  have HA := Lib.hid ha
  have HBr := Lib.hid hb
  have V1 := Lib.hid (i32V_one a)
  have HL := Lib.hid hl
  have hi21 : (Tryz.prog.info? 21).map (·.size) = some 1 := by kernel_rfl
  have HI := Lib.hid hi21
  clear ha hb hg1 hi21 hl
  have HAl : Hid (Reads (w.alloc (.cells (madeCells #[.int .i32 0] a.length) 21)) A a.length (i32V a)) := HA.out.below ((Below.refl _ _).alloc (Nat.le_refl _) _)
  go_enter Tryz.func181, Tryz.ntmps181
  go_wp2_with (first
    | (go_at_call 94; refine (hBoth.out _).mono ?_; rintro e w1 ⟨rfl, rfl⟩)
    | (with_reducible refine wpList_copy_splice rfl (.tmp 11) (.tmp 12) 30 30 rfl 21 Tryz.underlying30 HI.out (some ⟨w.heap.size, 0, none⟩) A a.length a.length a.length c rfl rfl w.heap.size 0 (List.replicate a.length (.int .i32 0)) 21 (HG1.out w) (i32V a) (by rw [i32V_length]; simp) (fun h0 => ?p1) (by rw [i32V_length]; simp) V1.out w.heap.size w ((Below.refl _ _).alloc (Nat.le_refl _) _) (Nat.le_refl _) ?p2))
  case p1 =>
    have h1 : 0 < a.length := by rw [i32V_length] at h0; exact h0
    obtain ⟨ad, e, _⟩ := HAl.out.at_ 0 h1
    refine ⟨ad, e, fun j v hj => ?_⟩
    have hj' : j < a.length := by have := (List.getElem?_eq_some_iff.mp hj).1; rw [i32V_length] at this; exact this
    obtain ⟨ad', e', hc⟩ := HAl.out.at_ j hj'
    obtain rfl : ad = ad' := Option.some.inj (e.symm.trans e')
    rw [hc, List.getD_eq_getElem?_getD, hj]; rfl
  case p2 =>
    intro w2 hg2 hb2
    have hg2' := hg2.out
    rw [splice_all _ _ _ (i32V_length a)] at hg2'
    have HG2 : Hid (w2.heap[w.heap.size]? = some (.cells (i32V (subTo a b 0)).toArray 21 (0, 0))) := by show _ = _; rw [subTo_zero]; exact hg2'
    have HB2 := Lib.hid hb2
    clear hg2 hg2' hb2
    have hcs : (i32V a).length = a.length := i32V_length a
    have HCS := Lib.hid hcs
    clear hcs
    go_wp2
    go_loopg [16] a.length (fun gk i wr => ∃ k : Nat, gk = a.length - k ∧ k ≤ a.length ∧ i = .int .i64 (k : Int) ∧ wr.heap[w.heap.size]? = some (.cells (i32V (subTo a b k)).toArray 21 (0, 0)) ∧ Below w.heap.size w wr)
    case atStart => exact ⟨0, rfl, Nat.zero_le _, rfl, HG2.out, HB2.out⟩
    case round =>
      obtain ⟨k, rfl, hk, rfl, hg, hbel⟩ := hrel
      have HG := Lib.hid hg
      have HB := Lib.hid hbel
      by_cases hlt : k < a.length
      · obtain ⟨c1, f1⟩ := block_cell hg k (by rw [subTo_length]; exact hlt)
        rw [subTo_getD _ _ _ hlt] at c1
        obtain ⟨bd, rfl, hd⟩ := (HBr.out.below hbel).i32 k (by have := HL.out; omega)
        have h3 := hA.getD (by decide) k
        have h4 := hB.getD (by decide) k
        have HS := Lib.hid (subTo_succ a b k hlt)
        have hlb : (k : Int) < (b.length : Int) := by have := HL.out; omega
        clear hg hbel
        generalize a.getD k 0 = x at *
        generalize b.getD k 0 = y at *
        have hlt' : (k : Int) < (a.length : Int) := by omega
        have w0 : IntKind.i32.wrap (x - y) = x - y := IntWalk.i32_in _ (by omega)
        go_wp2
        go_region
        all_goals
          go_wp2
          go_roundg (a.length - (k + 1))
          case measure => omega
          case rel =>
            refine ⟨k + 1, rfl, hlt, by go_num, ?_, ?_⟩
            · have h5 := heap_setCell_same _ _ k _ _ (.int .i32 (x - y)) HG.out
              rw [HS.out]
              have e5 : (i32V (subTo a b k)).toArray.setIfInBounds k (.int .i32 (x - y)) = (i32V ((subTo a b k).set k (x - y))).toArray := by
                simp [i32V, List.map_set]
              rw [e5] at h5
              exact h5
            · exact (HB.out.setCell (Nat.le_refl _) _).drew
      · obtain rfl : k = a.length := by omega
        go_wp2
        go_ret
        have hG := HG.out
        rw [subTo_all] at hG
        have ho := own_of_block (base := w.heap.size) hG (Nat.le_refl _) (by rw [i32V_length, subL_length]; omega)
        rw [i32V_length, subL_length] at ho
        exact ⟨_, _, rfl, ho, HB.out⟩
end Go.Proofs.YtladmconpolneaaGreat

/- SMALL LAWS of my own over any program: append of one element onto a row of the call's own; what a store leaves; results. -/
import Derived.WalkKit
import Derived.WalkLawsBesides
import Derived.WalkSpells
import Derived.Lib.Hide
import Derived.KernelRfl
import Derived.Laws.BitsAllLaws
import Derived.Maps.AppendAt
import Derived.Below
import Derived.Deep.Draws
import Derived.Deep.AppendLies
import Derived.OwnWalk
import Derived.Laws.BytesArg
import Derived.Laws.MakeOwn
import Derived.Laws.OwnMore
import Derived.Deep.OwnRows
import Derived.Lib.ConvBytes
import Derived.Laws.Slices
import Derived.RowKit3
import Derived.Deep.LoopGhost
import Derived.Deep.QuietTactic
import Derived.BigQuiet
import Derived.WideLaws
import Derived.Deep.DeepCutAuto
import Derived.Deep.CutBlock
import Derived.Deep.RegionHeld3
import Derived.Laws.Rows
import Derived.Lib.AppendStr
import Derived.ArgAppend
import Derived.Laws.IdiomCopy
import Derived.RowKit
import Derived.Deep.DeepFit
import Derived.Deep.RegionLaw
namespace Go.Proofs.Ytfokjemoolgojaa
open Go.RowKit
theorem ret_bool {a b : Bool} (h : a = b) : Ending.returned (.bool a) = .returned (.bool b) := by rw [h]
theorem ret_int {k : IntKind} {a b : Int} (h : a = b) : Ending.returned (.int k a) = .returned (.int k b) := by rw [h]
theorem ret_str {a b : ByteArray} (h : a = b) : Ending.returned (.string a) = .returned (.string b) := by rw [h]

/-- What is owned lies in no block of another element type. -/
theorem own_ne {w : World} {base : Nat} {e : TypeId} {size n : Nat} {v u : Value} {xs : List Value} {b : Nat} {t : TypeId} (h : w.ownsRow base e size v n xs) (hb : w.heap[b]? = some (.cells #[u] t (0, 0))) (ht : e ≠ t) :
    some b ≠ v.ownBlock := by
  rcases h.2 with ⟨rfl, _⟩ | ⟨g, cap, cur, rfl, _, hg, _⟩
  · simp [Value.ownBlock]
  · intro he
    have : b = g := by simpa [Value.ownBlock] using he
    subst this
    rw [hb] at hg
    injection hg with hg
    injection hg with _ h2
    exact ht h2.symm
theorem own_base {w : World} {base : Nat} {e : TypeId} {size n : Nat} {v : Value} {xs : List Value} (h : w.ownsRow base e size v n xs) (k : Nat) (hk : v.ownBlock = some k) : base ≤ k := (h.lt k hk).1
theorem own_slice {w : World} {base n : Nat} {e : TypeId} {size : Nat} {v : Value} {xs : List Value} (h : w.ownsRow base e size v n xs) : ∃ A c, v = .slice A n c := by
  rcases h.2 with ⟨rfl, rfl⟩ | ⟨g, cap, cur, rfl, _⟩
  · exact ⟨none, 0, rfl⟩
  · exact ⟨_, cap, rfl⟩
theorem own_below {w w1 : World} {base : Nat} {e : TypeId} {size n : Nat} {v : Value} {xs : List Value} (h : w.ownsRow base e size v n xs) (hb : Below w.heap.size w w1) : w1.ownsRow base e size v n xs :=
  h.kept (row := none) ⟨hb.os, hb.tape, hb.output, hb.size, fun i hi _ => hb.block i hi⟩ (by cases v.ownBlock <;> simp)
/-- '^x' on a uint32. -/
theorem not_u32 (m : Nat) (hm : m < 4294967296) : Op.unary .xor (.int .u32 (m : Int)) = pure (.int .u32 ((m ^^^ 4294967295 : Nat) : Int)) := by
  have h := u32_xor_nat 4294967295 m (by decide) hm
  have e : (if IntKind.u32.signed then (-1 : Int) else IntKind.u32.max) = ((4294967295 : Nat) : Int) := rfl
  rw [unary_xor, e, intBits_xor, h, Nat.xor_comm]
theorem run_min4 {P : Program} (w : World) (ts : Array TypeId) (t : TypeId) (x y z v : Int) : (Builtin.min_ ts t #[.int .i64 x, .int .i64 y, .int .i64 z, .int .i64 v]).run P w = .ok (.int .i64 (min (min (min x y) z) v)) w := by
  simp only [Int.min_def]
  simp [Builtin.min_, Builtin.min2]
  repeat' split
  all_goals omega
/-- 'make([]T, n)' of whole numbers, whatever n. -/
theorem run_make_ints {P : Program} (t e : TypeId) (k : IntKind) (bytes : Nat) (ht : P.underlying t = some (.slice e)) (hinfo : (P.info? e).map (fun i => (i.zero, i.size, i.bytes)) = some (some (.int k 0), 1, bytes)) (hb0 : 0 < bytes)
    (m : Nat) (hn : m * bytes ≤ 281474976710656) :
    ∀ W : World, (Instr.makeSlice t (.int .i64 (m : Int)) (.int .i64 (m : Int))).run P W = .ok (.slice (some ⟨W.heap.size, 0, none⟩) m m) (W.alloc (.cells (madeCells #[.int k 0] m) e)) := by
  intro W
  have hm : m ≤ 281474976710656 := Nat.le_trans (Nat.le_mul_of_pos_right _ hb0) hn
  exact run_make_row' t e (.int k 0) bytes ht hinfo rfl .i64 .i64 m (by rw [Nat.mul_comm]; exact hn) (by omega) W
theorem own_made (W : World) (base : Nat) (e : TypeId) (k : IntKind) (m : Nat) (hb : base ≤ W.heap.size) (hm : m ≤ 9223372036854775807) :
    (W.alloc (.cells (madeCells #[.int k 0] m) e)).ownsRow base e 1 (.slice (some ⟨W.heap.size, 0, none⟩) m m) m (List.replicate m (.int k 0)) := by
  have := World.ownsRow_lit (base := base) (e := e) (size := 1) W (madeCells #[.int k 0] m) m hb (by simp only [maxLen]; omega) (by rw [size_madeCells]; simp)
  rwa [toList_madeCells_one] at this
/-- What a call leaves of old memory, call by call. -/
theorem bel_trans {w w1 w2 : World} (h : Below w.heap.size w w1) (k : Below w1.heap.size w1 w2) : Below w.heap.size w w2 := h.trans (k.mono h.size)
theorem bel_drewN {B : Nat} {w W : World} (h : Below B w W) (n : Nat) : Below B w (W.drewN n) := ⟨h.os, h.tape, h.output, h.size, h.block⟩
theorem cell_new_arr {w : World} {cs : Array Value} {t : TypeId} {q : Nat} {v : Value} (h : cs[q]? = some v) : (w.alloc (.cells cs t)).cell? ⟨w.heap.size, q, none⟩ = some v := by
  rw [cell_of_row _ _ _ cs t (0, 0) (heap_alloc_new w _)]; exact h
/-- A block of one cell while another one is written; two of unlike types are not one. -/
theorem one_other {w : World} {b : Nat} {v : Value} {t : TypeId} (h : w.heap[b]? = some (.cells #[v] t (0, 0))) {a : Addr} (ha : a.block ≠ b) (u : Value) : (w.setCell a u).heap[b]? = some (.cells #[v] t (0, 0)) := by
  rw [Below.heap_setCell _ _ _ _ (fun e => ha e.symm)]; exact h
theorem one_ne {w : World} {b c : Nat} {v u : Value} {t s : TypeId} (h : w.heap[b]? = some (.cells #[v] t (0, 0))) (h' : w.heap[c]? = some (.cells #[u] s (0, 0))) (ht : t ≠ s) : b ≠ c := by
  rintro rfl
  rw [h] at h'
  injection h' with h'
  injection h' with _ h2
  exact ht h2
section
variable {P : Program} {ops : Array Oper} {rest : List Oper} {o : Oper} {a : Act} {Q : Exit → Act → World → Prop}
/-- A whole array, by value, into a block that is known. -/
theorem wpList_store_row {w : World} (hgd : o.guard = none) (ty : TypeId) (x y : Operand) (ho : o.op = .store ty x y) (g : Nat) (hx : a.eval x = .pointer (some ⟨g, 0, none⟩)) (t : TypeId) (c c' : Array Value) (hy : a.eval y = .agg c')
    (hg : w.heap[g]? = some (.cells c t (0, 0))) (hi : (P.info? ty).map (·.size) = some c'.size) (hsz : c.size = c'.size) (h1 : c'.all (·.oneCell') = true)
    (h : wpList P ops Q rest (a.put o.dst undef) (w.setRow g c')) : wpList P ops Q (o :: rest) a w := by
  refine wpList_plain hgd fun K hK => ?_
  have hr := run_storeVar_row (P := P) w g t ty c c' hg hi hsz h1
  unfold Oper.wp
  simp [execOp, ho, hx, hy, Instr.storeAt, Instr.sureAddr, hr, Result.andThen]
  exact hK _ _ h
/-- 'append(v, x)': the box of x has just been laid. -/
theorem append_one {W : World} (base : Nat) (hgd : o.guard = none) (s x : Operand) (t e : TypeId) (z : Value) (bytes : Nat)
    (ho : o.op = .call { callee := .builtin .append, args := #[s, x], argTypes := #[t, t] })
    (ht : P.underlying t = some (.slice e)) (hinfo : (P.info? e).map (fun i => (i.zero, i.size, i.bytes)) = some (some z, 1, bytes)) (hz : z.cells.size = 1) (hb0 : 0 < bytes)
    (v : Value) (k : Nat) (xs : List Value) (y : Value) (hs : a.eval s = v) (hx : a.eval x = .slice (some ⟨W.heap.size, 0, none⟩) 1 1) (h1 : y.oneCell' = true)
    (HO : W.ownsRow base e 1 v k xs) (hbase : base ≤ W.heap.size) (hl : (k + 1) * bytes ≤ 140737488355328)
    (h : ∀ A1 c1 w1, w1.ownsRow base e 1 (.slice A1 (k + 1) c1) (k + 1) (xs ++ [y]) → W.grownBy w1 v.ownBlock →
      ((Value.slice A1 (k + 1) c1).ownBlock = v.ownBlock ∨ ∃ b, (Value.slice A1 (k + 1) c1).ownBlock = some b ∧ W.heap.size ≤ b) → W.heap.size < w1.heap.size → wpList P ops Q rest (a.put o.dst (.slice A1 (k + 1) c1)) w1) :
    wpList P ops Q (o :: rest) a (W.alloc (.cells #[y] e)) := by
  obtain ⟨i0, hi, hz0, hz1, hz2⟩ := info_parts hinfo
  have hlen : k + 1 ≤ 140737488355328 := Nat.le_trans (Nat.le_mul_of_pos_right _ hb0) hl
  refine wpList_append_own_at (W.alloc (.cells #[y] e)) hgd s x t ho base e i0 z 1 bytes ht hi hz0 hz1 hz2 hz (by omega) v k xs hs (HO.alloc _) ⟨W.heap.size, 0, none⟩ 1 1 [y] hx rfl
    (World.news_of_block (cs := #[y]) (t := e) (fr := (0, 0)) (heap_alloc_new W _)) (by simpa using h1) (by simp only [maxLen]; omega) hl (by simp; omega) ?_
  intro v1 w1 hown hg _ hat
  have hsz := hg.size
  obtain ⟨A1, c1, rfl⟩ := own_slice hown
  refine h A1 c1 w1 (by simpa using hown) (World.grownBy.trans (World.grownBy_alloc W _ _) hg) ?_ (by simp at hsz; omega)
  rcases hat with hat | hat
  · exact .inl hat
  · exact .inr ⟨_, hat, by simp⟩
end
/-- A text, of a list of bytes; bytes as values. -/
def str (l : List UInt8) : ByteArray := ⟨l.toArray⟩
theorem str_list (s : ByteArray) : str s.data.toList = s := rfl
theorem str_data (l : List UInt8) : (str l).data.toList = l := rfl
theorem str_size (l : List UInt8) : (str l).size = l.length := by simp [str, ByteArray.size]
def bytesV (l : List UInt8) : List Value := l.map fun c => .int .u8 (c.toNat : Int)
theorem bytesV_length (l : List UInt8) : (bytesV l).length = l.length := by simp [bytesV]
theorem bytesV_append (l m : List UInt8) : bytesV (l ++ m) = bytesV l ++ bytesV m := by simp [bytesV]
theorem take_all (s : ByteArray) : s.data.toList.take s.size = s.data.toList := List.take_of_length_le (by rw [Array.length_toList]; exact Nat.le_refl _)
theorem take_succ (s : ByteArray) (k : Nat) (h : k < s.size) : s.data.toList.take (k + 1) = s.data.toList.take k ++ [s[k]] := by
  rw [List.take_succ_eq_append_getElem (by simpa using h)]; rfl
theorem str_nums (l : List UInt8) : str l = strOfNums (l.map fun c => (c.toNat : Int)) := by
  unfold str strOfNums
  rw [List.map_map]
  congr 2
  induction l with
  | nil => rfl
  | cons c l ih => rw [List.map_cons, ← ih]; simp
theorem run_bytes_str {P : Program} {w : World} {base n : Nat} {e' src dst e : TypeId} {A : Option Addr} {c : Nat} {l : List UInt8} (hs : P.underlying src = some (.slice e)) (he : P.underlying e = some (.int .u8)) (hd : P.underlying dst = some .string)
    (h : w.ownsRow base e' 1 (.slice A n c) n (bytesV l)) : (convert src dst (.slice A n c)).run P w = .ok (.string (str l)) w := by
  have hl : l.length = n := by have := h.1; simp [bytesV] at this; exact this
  rw [str_nums]
  rcases h.2 with ⟨h1, rfl⟩ | ⟨g, cap, cur, h1, _⟩
  · obtain rfl : l = [] := List.eq_nil_of_length_eq_zero hl
    simp only [Value.slice.injEq] at h1
    obtain ⟨rfl, -, rfl⟩ := h1
    exact run_convert_bytes_nil w src e hs he 0 0 dst hd
  · simp only [Value.slice.injEq] at h1
    obtain ⟨rfl, -, rfl⟩ := h1
    refine run_convert_bytes_arg w src e hs he g 0 n _ _ (by simpa using hl) (fun i hi => ?_) dst hd
    have hc := h.cells (g := g) rfl i (.int .u8 ((l.map fun c => (c.toNat : Int)).getD i 0)) (by simp [bytesV, List.getElem?_eq_getElem (show i < l.length by omega), List.getD_eq_getElem?_getD])
    have ha : (⟨g, 0, none⟩ : Addr).add i = ⟨g, 0 + i, none⟩ := by unfold Addr.add; split <;> simp_all
    rwa [ha] at hc
theorem run_byte_str {P : Program} {src dst e : TypeId} (hs : P.underlying src = some (.slice e)) (he : P.underlying e = some (.int .u8)) (hd : P.underlying dst = some .string) (c : UInt8) (t : TypeId) (W : World) :
    (convert src dst (.slice (some ⟨W.heap.size, 0, none⟩) 1 1)).run P (W.alloc (.cells #[.int .u8 (c.toNat : Int)] t)) = .ok (.string (str [c])) (W.alloc (.cells #[.int .u8 (c.toNat : Int)] t)) :=
  run_bytes_str (base := 0) (e' := t) hs he hd (World.ownsRow_lit (base := 0) (e := t) (size := 1) W #[.int .u8 (c.toNat : Int)] 1 (Nat.zero_le _) (by decide) rfl)
theorem str_append (l m : List UInt8) : str l ++ str m = str (l ++ m) := by
  apply ByteArray.ext
  rw [ByteArray.data_append]
  simp [str]
section
variable {P : Program} {ops : Array Oper} {rest : List Oper} {o : Oper} {a : Act} {Q : Exit → Act → World → Prop}
/-- 'append(v, x)' as a step of a region that draws its order: the box of x lies in block B. -/
theorem step_append_one {w : World} {K : Act → World → Prop} {E : Prop} (base : Nat) (hgd : o.guard = none) (s x : Operand) (t e : TypeId) (z : Value) (bytes : Nat)
    (ho : o.op = .call { callee := .builtin .append, args := #[s, x], argTypes := #[t, t] })
    (ht : P.underlying t = some (.slice e)) (hinfo : (P.info? e).map (fun i => (i.zero, i.size, i.bytes)) = some (some z, 1, bytes)) (hz : z.cells.size = 1) (hb0 : 0 < bytes)
    (v : Value) (k : Nat) (xs : List Value) (B : Nat) (y : Value) (hs : a.eval s = v) (hx : a.eval x = .slice (some ⟨B, 0, none⟩) 1 1) (hbox : w.heap[B]? = some (.cells #[y] e (0, 0))) (h1 : y.oneCell' = true)
    (HO : w.ownsRow base e 1 v k xs) (hbase : base ≤ w.heap.size) (hl : (k + 1) * bytes ≤ 140737488355328)
    (h : ∀ A1 c1 w1, w1.ownsRow base e 1 (.slice A1 (k + 1) c1) (k + 1) (xs ++ [y]) → w.grownBy w1 v.ownBlock →
      ((Value.slice A1 (k + 1) c1).ownBlock = v.ownBlock ∨ (Value.slice A1 (k + 1) c1).ownBlock = some w.heap.size) → K (a.put o.dst (.slice A1 (k + 1) c1)) w1) :
    if Region.wanted o (yielded ops a.tmps) = true then Oper.wp P o a w K Q else E := by
  obtain ⟨i0, hi, hz0, hz1, hz2⟩ := info_parts hinfo
  have hlen : k + 1 ≤ 140737488355328 := Nat.le_trans (Nat.le_mul_of_pos_right _ hb0) hl
  have hw : Region.wanted o (yielded ops a.tmps) = true := by simp [Region.wanted, hgd]
  rw [if_pos hw]
  obtain ⟨v', w', hr, h2, h3, _, h5⟩ := run_append_own_at (P := P) w base t o.type e i0 z 1 bytes ht hi hz0 hz1 hz2 hz (by omega) v k xs HO ⟨B, 0, none⟩ 1 1 [y] rfl
    (World.news_of_block (cs := #[y]) hbox) (by simpa using h1) (by simp only [maxLen]; omega) hl hbase
  obtain ⟨A1, c1, rfl⟩ := own_slice h2
  unfold Oper.wp execOp
  simp only [ho, resolve, invoke, builtin, Sem.run_bind, Sem.run_pure, Result.andThen_ok, List.map_toArray, List.map_cons, List.map_nil, hs, hx, hr]
  exact h A1 c1 w' h2 h3 h5
end
/-! A slice that is read: nil, empty and others alike; its elements are one cell each. -/
def Reads (w : World) (A : Option Addr) (n : Nat) (vs : List Value) : Prop :=
  vs.length = n ∧ n ≤ 9223372036854775807 ∧ ∀ j, j < n → ∃ ad, A = some ad ∧ w.cell? (ad.add j) = some (vs.getD j undef)
theorem Reads.at_ {w : World} {A : Option Addr} {n : Nat} {vs : List Value} (h : Reads w A n vs) (j : Nat) (hj : j < n) : ∃ ad, A = some ad ∧ w.cell? (ad.add j) = some (vs.getD j undef) := h.2.2 j hj
theorem Reads.below {w w1 : World} {A : Option Addr} {n : Nat} {vs : List Value} (h : Reads w A n vs) (hb : Below w.heap.size w w1) : Reads w1 A n vs :=
  ⟨h.1, h.2.1, fun j hj => by
    obtain ⟨ad, e, hc⟩ := h.2.2 j hj
    exact ⟨ad, e, (hb.cell (World.block_lt_of_cell? w _ hc)).trans hc⟩⟩
theorem Reads.same {w w1 : World} {A : Option Addr} {n : Nat} {vs : List Value} (h : Reads w A n vs) {B : Nat} (hb : Below B w w1) (hB : ∀ ad, A = some ad → ad.block < B) : Reads w1 A n vs :=
  ⟨h.1, h.2.1, fun j hj => by
    obtain ⟨ad, e, hc⟩ := h.2.2 j hj
    have hbl : (ad.add j).block = ad.block := by unfold Addr.add; split <;> rfl
    exact ⟨ad, e, (hb.cell (p := ad.add j) (by rw [hbl]; exact hB ad e)).trans hc⟩⟩
theorem own_reads {w : World} {base n : Nat} {e : TypeId} {A : Option Addr} {c : Nat} {xs : List Value} (h : w.ownsRow base e 1 (.slice A n c) n xs) : Reads w A n xs := by
  have hl : xs.length = n := by have := h.1; simpa using this
  refine ⟨hl, ?_, fun j hj => ?_⟩
  · rcases h.2 with ⟨_, h1⟩ | ⟨g', cap', cur, he, _, _, h1, h2, _⟩
    · omega
    · simp only [maxLen] at h2; omega
  · rcases h.2 with ⟨_, h1⟩ | ⟨g, cap, cur, h1, _⟩
    · omega
    · simp only [Value.slice.injEq] at h1
      obtain ⟨rfl, -, rfl⟩ := h1
      refine ⟨_, rfl, h.cells (g := g) rfl j _ ?_⟩
      rw [List.getD_eq_getElem?_getD, List.getElem?_eq_getElem (by omega)]; rfl
theorem strCells_str (l : List UInt8) : Lib.strCells (str l) = bytesV l := rfl
section
variable {P : Program} {ops : Array Oper} {rest : List Oper} {o : Oper} {a : Act} {Q : Exit → Act → World → Prop}
/-- 'append(b, s...)', b bytes of the call's own, s a text. -/
theorem append_str {w : World} (base : Nat) (hgd : o.guard = none) (sl x : Operand) (t u e : TypeId) (ho : o.op = .call { callee := .builtin .append, args := #[sl, x], argTypes := #[t, u] })
    (ht : P.underlying t = some (.slice e)) (hu : P.underlying u = some .string) (hinfo : (P.info? e).map (fun i => (i.zero, i.size, i.bytes)) = some (some (.int .u8 0), 1, 1))
    (v : Value) (n : Nat) (l m : List UInt8) (hs : a.eval sl = v) (hown : w.ownsRow base e 1 v n (bytesV l)) (hx : a.eval x = .string (str m)) (hb : n + m.length ≤ 140737488355328) (hbase : base ≤ w.heap.size)
    (h : ∀ A1 c1 w1, w1.ownsRow base e 1 (.slice A1 (n + m.length) c1) (n + m.length) (bytesV (l ++ m)) → w.grownBy w1 v.ownBlock → wpList P ops Q rest (a.put o.dst (.slice A1 (n + m.length) c1)) w1) :
    wpList P ops Q (o :: rest) a w := by
  obtain ⟨i0, hi, hz0, hz1, hz2⟩ := info_parts hinfo
  refine Lib.wpList_append_own_string w hgd sl x t u ho base e i0 ht hu hi hz0 hz1 hz2 v n (bytesV l) hs hown (str m) hx (by rw [str_size]; simp only [maxLen]; omega) (by rw [str_size]; exact hb) hbase ?_
  intro v1 w1 ho1 hg1 _
  rw [str_size, strCells_str, ← bytesV_append] at ho1
  obtain ⟨A1, c1, rfl⟩ := own_slice ho1
  exact h A1 c1 w1 ho1 hg1
end
/-- A slice of whole numbers that came in, as the guide's shell opens it. -/
theorem reads_of_row {k : IntKind} {w : World} {a : Option Addr} {len cap : Nat} {zs : List Int} (h : (a = none ∧ len = 0 ∧ cap = 0 ∧ zs = []) ∨
    ∃ x, a = some x ∧ len ≤ cap ∧ cap ≤ maxLen ∧ zs.length = cap ∧ (∀ i, i < zs.length → w.cell? (x.add i) = some (.int k (zs.getD i 0))) ∧ ∀ n ∈ zs, (Lit.int k n).wf = true) :
    Reads w a len ((zs.take len).map fun z => .int k z) ∧ ∀ n ∈ zs.take len, (Lit.int k n).wf = true := by
  rcases h with ⟨rfl, rfl, rfl, rfl⟩ | ⟨x, rfl, hl, hm, hz, hc, hw⟩
  · exact ⟨⟨rfl, by decide, fun j hj => by omega⟩, fun n hn => by simp at hn⟩
  · simp only [maxLen] at hm
    refine ⟨⟨by simp; omega, by omega, fun j hj => ⟨x, rfl, ?_⟩⟩, fun n hn => hw n (List.mem_of_mem_take hn)⟩
    rw [hc j (by omega)]
    simp [hj, show j < zs.length by omega]
theorem reads_nil (w : World) : Reads w none 0 [] := ⟨rfl, by decide, fun j hj => by omega⟩
end Go.Proofs.Ytfokjemoolgojaa

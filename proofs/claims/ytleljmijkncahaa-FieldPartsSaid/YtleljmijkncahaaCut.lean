/- Walks of field.Cut and of its reference, of Texts. -/
import Derived.Test.YtleljmijkncahaaRef
set_option linter.unusedVariables false
set_option linter.unusedSimpArgs false
namespace Go.Proofs.Ytleljmijkncahaa
open Go.RowKit
theorem Try.info9 : (Try.prog.info? 9).map (fun i => (i.zero, i.size, i.bytes)) = some (some (.string ByteArray.empty), 1, 16) := by kernel_rfl
/-- In parts. -/
def cutR : List UInt8 → List Int → Option (List (List UInt8))
  | l, [] => if l = [] then some [] else none
  | l, n :: r => if n < 0 ∨ (l.length : Int) < n then none else (cutR (l.drop n.toNat) r).map (l.take n.toNat :: ·)
theorem cutR_flat (l : List UInt8) (r : List Int) (ps : List (List UInt8)) (h : cutR l r = some ps) : ps.flatten = l ∧ ps.length = r.length := by
  induction r generalizing l ps with
  | nil =>
    unfold cutR at h
    split at h
    · rename_i h0; simp only [Option.some.injEq] at h; subst h h0; exact ⟨rfl, rfl⟩
    · cases h
  | cons n r ih =>
    unfold cutR at h
    split at h
    · cases h
    · simp only [Option.map_eq_some_iff] at h
      obtain ⟨qs, hq, rfl⟩ := h
      have := ih _ _ hq
      exact ⟨by rw [List.flatten_cons, this.1, List.take_append_drop], by simp [this.2]⟩
def intsV (zs : List Int) : List Value := zs.map fun z => .int .i64 z
def textsV (ps : List (List UInt8)) : List Value := ps.map fun p => .string (str p)
/-- What Cut comes to. -/
def CutPost (w : World) (r : Option (List (List UInt8))) (e : Ending) (w' : World) : Prop :=
  Below w.heap.size w w' ∧ match r with
    | none => e = .returned (.tuple #[.slice none 0 0, .bool false])
    | some ps => ∃ A c, e = .returned (.tuple #[.slice A ps.length c, .bool true]) ∧ w'.ownsRow w.heap.size 9 1 (.slice A ps.length c) ps.length (textsV ps)
def CutRel (w : World) (l : List UInt8) (zs : List Int) (gk : Nat) (a0 a6 a11 : Value) (wr : World) : Prop :=
  ∃ k m acc A c, gk = zs.length - k ∧ k ≤ zs.length ∧ a11 = .int .i64 (k : Int) ∧ a0 = .string (str m) ∧ m.length ≤ l.length ∧ a6 = .slice A k c ∧ cutR l zs = (cutR m (zs.drop k)).map (acc ++ ·) ∧ acc.length = k ∧
    wr.ownsRow w.heap.size 9 1 (.slice A k c) k (textsV acc) ∧ Below w.heap.size w wr
theorem str_take (m : List UInt8) (n : Nat) : (str m).extract 0 n = str (m.take n) := by
  apply ByteArray.ext; simp [str]
theorem str_drop (m : List UInt8) (n : Nat) (h : n ≤ m.length) : (str m).extract n (str m).size = str (m.drop n) := by
  apply ByteArray.ext
  rw [str_size]
  simp only [str, ByteArray.data_extract, List.extract_toArray]
  rw [List.extract_eq_take_drop, List.take_of_length_le (by simp)]
theorem cut_bad (w w' : World) (l m : List UInt8) (zs : List Int) (acc : List (List UInt8)) (k : Nat) (z : Int) (hk : k < zs.length) (hz : zs[k] = z) (hcut : cutR l zs = (cutR m (zs.drop k)).map (acc ++ ·)) (hb : z < 0 ∨ (m.length : Int) < z) (hbel : Below w.heap.size w w')
    (e : Ending) (he : e = .returned (.tuple #[.slice none 0 0, .bool false])) : CutPost w (cutR l zs) e w' := by
  rw [List.drop_eq_getElem_cons hk, hz] at hcut
  unfold cutR at hcut
  rw [if_pos hb] at hcut
  have : cutR l zs = none := by
    cases zs with
    | nil => simp at hk
    | cons a r => exact hcut
  rw [this]
  exact ⟨hbel, he⟩
theorem cut_next (l m : List UInt8) (zs : List Int) (acc : List (List UInt8)) (k : Nat) (z : Int) (hk : k < zs.length) (hz : zs[k] = z) (hcut : cutR l zs = (cutR m (zs.drop k)).map (acc ++ ·)) (hb : ¬ (z < 0 ∨ (m.length : Int) < z)) :
    cutR l zs = (cutR (m.drop z.toNat) (zs.drop (k + 1))).map ((acc ++ [m.take z.toNat]) ++ ·) := by
  rw [List.drop_eq_getElem_cons hk, hz] at hcut
  rw [hcut]
  show Option.map _ (if z < 0 ∨ (m.length : Int) < z then none else (cutR (m.drop z.toNat) (zs.drop (k + 1))).map (m.take z.toNat :: ·)) = _
  rw [if_neg hb, Option.map_map]
  congr 1
  funext x
  simp
theorem cut_end (w w' : World) (l m : List UInt8) (zs : List Int) (acc : List (List UInt8)) (A : Option Addr) (c : Nat) (hcut : cutR l zs = (cutR m (zs.drop zs.length)).map (acc ++ ·)) (hacc : acc.length = zs.length) (hbel : Below w.heap.size w w')
    (hown : w'.ownsRow w.heap.size 9 1 (.slice A zs.length c) zs.length (textsV acc)) (e : Ending) (h0 : m = []) (he : e = .returned (.tuple #[.slice A zs.length c, .bool true])) : CutPost w (cutR l zs) e w' := by
  have : cutR l zs = some acc := by rw [hcut, List.drop_length, h0]; simp [cutR]
  rw [this]
  refine ⟨hbel, A, c, ?_, ?_⟩
  · rw [hacc]; exact he
  · rw [hacc]; exact hown
theorem cut_end_no (w w' : World) (l m : List UInt8) (zs : List Int) (acc : List (List UInt8)) (hcut : cutR l zs = (cutR m (zs.drop zs.length)).map (acc ++ ·)) (hbel : Below w.heap.size w w')
    (e : Ending) (h0 : m ≠ []) (he : e = .returned (.tuple #[.slice none 0 0, .bool false])) : CutPost w (cutR l zs) e w' := by
  have : cutR l zs = none := by rw [hcut, List.drop_length]; simp [cutR, h0]
  rw [this]
  exact ⟨hbel, he⟩
set_option maxHeartbeats 400000 in
theorem cut_any (l : List UInt8) (A0 : Option Addr) (n c0 : Nat) (zs : List Int) (w : World) (hl : l.length ≤ 2000) (hz : Reads w A0 n (intsV zs)) (hn : n ≤ 200) :
    Calls Try.prog 20 #[.string (str l), .slice A0 n c0] w (CutPost w (cutR l zs)) := by
  have hzn : zs.length = n := by have := hz.1; simpa [intsV] using this
  subst hzn
  have HZ := Lib.hid hz
  clear hz
  go_enter Try.func20, Try.ntmps20
  go_wp2
  go_loopg [0, 6, 11] zs.length (fun gk a0 a6 a11 wr => CutRel w l zs gk a0 a6 a11 wr)
  case atStart =>
    exact ⟨0, l, [], none, 0, by omega, Nat.zero_le _, rfl, rfl, Nat.le_refl _, rfl, by simp, rfl, World.ownsRow_nil _ _ _ _, Below.refl _ _⟩
  case round =>
    obtain ⟨k, m, acc, A, c, rfl, hk, rfl, rfl, hml, rfl, hcut, hacc, hown, hbel⟩ := hrel
    have HC := Lib.hid hcut
    have HA := Lib.hid hacc
    have HO := Lib.hid hown
    have HB := Lib.hid hbel
    clear hcut hacc hown hbel
    have HSZ := Lib.hid (str_size m)
    by_cases hlt : k < zs.length
    · obtain ⟨ad, rfl, hce⟩ := (HZ.out.below HB.out).at_ k (by omega)
      rw [show (intsV zs).getD k undef = .int .i64 (zs[k]) from by simp [intsV, hlt]] at hce
      obtain ⟨z, hzk⟩ : ∃ z, zs[k] = z := ⟨_, rfl⟩
      rw [hzk] at hce
      have HK := Lib.hid hzk
      clear hzk
      have hlz : (str m).size ≤ 2000 := by rw [HSZ.out]; omega
      by_cases hz0 : z < 0
      · go_wp2
        go_ret2
        exact cut_bad w wr l m zs acc k z hlt HK.out HC.out (.inl hz0) HB.out _ rfl
      · by_cases hz1 : ((str m).size : Int) < z
        · go_wp2
          go_ret2
          exact cut_bad w wr l m zs acc k z hlt HK.out HC.out (.inr (by rw [← HSZ.out]; exact hz1)) HB.out _ rfl
        · obtain ⟨p, rfl⟩ := Int.eq_ofNat_of_zero_le (show 0 ≤ z by omega)
          have t1 : (str m).extract 0 p = str (m.take p) := str_take m p
          have t2 : (str m).extract p (str m).size = str (m.drop p) := str_drop m p (by rw [← HSZ.out]; omega)
          have HN := Lib.hid (cut_next l m zs acc k p hlt HK.out HC.out (by rw [← HSZ.out]; omega))
          have hpl : p ≤ (str m).size := by omega
          go_wp2
          go_region_law (refine step_append_one w.heap.size rfl _ _ 30 9 (.string ByteArray.empty) 16 rfl Try.underlying30 Try.info9 rfl (by decide) (.slice A k c) k (textsV acc) wr.heap.size (.string (str (m.take p))) rfl rfl (heap_alloc_new wr _) rfl (HO.out.alloc _).drew (by have := HB.out.size; simp; omega) (by omega) ?_; intro A1 c1 w1 hown1 hg1 hat1)
          go_wp2
          go_roundg (zs.length - (k + 1))
          case measure => omega
          case rel =>
            refine ⟨k + 1, m.drop p, acc ++ [m.take p], A1, c1, rfl, hlt, by go_num, rfl, ?_, rfl, HN.out, ?_, ?_, ?_⟩
            · rw [List.length_drop]; omega
            · rw [List.length_append, HA.out]; rfl
            · have : textsV (acc ++ [m.take p]) = textsV acc ++ [.string (str (m.take p))] := by simp [textsV]
              rw [this]; exact hown1
            · exact (((HB.out.alloc HB.out.size _).drew).grown hg1 (by have := HB.out.size; simp; omega) (own_base HO.out))
    · obtain rfl : k = zs.length := by omega
      by_cases hm0 : m = []
      · subst hm0
        have he : (str []).toList.isEmpty = true := by rw [ByteArray.toList_eq]; rfl
        go_wp2
        go_ret2
        exact cut_end w wr l [] zs acc A c HC.out HA.out HB.out HO.out _ rfl rfl
      · have he : (str m).toList.isEmpty = false := by rw [ByteArray.toList_eq, str_data]; simpa using hm0
        have HM := Lib.hid hm0
        clear hm0
        go_wp2
        go_ret2
        exact cut_end_no w wr l m zs acc HC.out HB.out _ HM.out rfl
def RCutRel (w : World) (l : List UInt8) (zs : List Int) (gk : Nat) (a6 a7 a8 : Value) (wr : World) : Prop :=
  ∃ (k p : Nat) (acc : List (List UInt8)) (A : Option Addr) (c : Nat), gk = zs.length - k ∧ k ≤ zs.length ∧ a8 = .int .i64 (k : Int) ∧ a7 = .int .i64 (p : Int) ∧ p ≤ l.length ∧ a6 = .slice A k c ∧ cutR l zs = (cutR (l.drop p) (zs.drop k)).map (acc ++ ·) ∧ acc.length = k ∧
    wr.ownsRow w.heap.size 9 1 (.slice A k c) k (textsV acc) ∧ Below w.heap.size w wr
theorem str_mid (l : List UInt8) (p q : Nat) : (str l).extract p (p + q) = str ((l.drop p).take q) := by
  apply ByteArray.ext
  simp only [str, ByteArray.data_extract, List.extract_toArray]
  rw [List.extract_eq_take_drop, Nat.add_sub_cancel_left]
set_option maxHeartbeats 400000 in
theorem rcut_any (l : List UInt8) (A0 : Option Addr) (n c0 : Nat) (zs : List Int) (w : World) (hl : l.length ≤ 2000) (hz : Reads w A0 n (intsV zs)) (hn : n ≤ 200) :
    Calls Try.prog 21 #[.string (str l), .slice A0 n c0] w (CutPost w (cutR l zs)) := by
  have hzn : zs.length = n := by have := hz.1; simpa [intsV] using this
  subst hzn
  have HZ := Lib.hid hz
  have HSZ := Lib.hid (str_size l)
  have hlz : (str l).size ≤ 2000 := by rw [HSZ.out]; exact hl
  clear hz
  go_enter Try.func21, Try.ntmps21
  go_wp2
  go_loopg [6, 7, 8] zs.length (fun gk a6 a7 a8 wr => RCutRel w l zs gk a6 a7 a8 wr)
  case atStart =>
    exact ⟨0, 0, [], none, 0, by omega, Nat.zero_le _, rfl, rfl, Nat.zero_le _, rfl, by simp, rfl, World.ownsRow_nil _ _ _ _, Below.refl _ _⟩
  case round =>
    obtain ⟨k, p, acc, A, c, rfl, hk, rfl, rfl, hpl, rfl, hcut, hacc, hown, hbel⟩ := hrel
    have HC := Lib.hid hcut
    have HA := Lib.hid hacc
    have HO := Lib.hid hown
    have HB := Lib.hid hbel
    clear hcut hacc hown hbel
    by_cases hlt : k < zs.length
    · obtain ⟨ad, rfl, hce⟩ := (HZ.out.below HB.out).at_ k (by omega)
      rw [show (intsV zs).getD k undef = .int .i64 (zs[k]) from by simp [intsV, hlt]] at hce
      obtain ⟨z, hzk⟩ : ∃ z, zs[k] = z := ⟨_, rfl⟩
      rw [hzk] at hce
      have HK := Lib.hid hzk
      clear hzk
      by_cases hz0 : z < 0
      · go_wp2
        go_ret2
        exact cut_bad w wr l _ zs acc k z hlt HK.out HC.out (.inl hz0) HB.out _ rfl
      · by_cases hz1 : ((str l).size : Int) - p < z
        · go_wp2
          go_ret2
          exact cut_bad w wr l _ zs acc k z hlt HK.out HC.out (.inr (by rw [List.length_drop]; have := HSZ.out; omega)) HB.out _ rfl
        · obtain ⟨q, rfl⟩ := Int.eq_ofNat_of_zero_le (show 0 ≤ z by omega)
          have t1 : (str l).extract p (p + q) = str ((l.drop p).take q) := str_mid l p q
          have hql : p + q ≤ (str l).size := by omega
          have HN := Lib.hid (cut_next l (l.drop p) zs acc k q hlt HK.out HC.out (by rw [List.length_drop]; have := HSZ.out; omega))
          go_wp2_with (at_builtin; refine append_one w.heap.size rfl _ _ 30 9 (.string ByteArray.empty) 16 rfl Try.underlying30 Try.info9 rfl (by decide) (.slice A k c) k (textsV acc) (.string (str ((l.drop p).take q))) rfl rfl rfl HO.out HB.out.size (by omega) ?_)
          intro A1 c1 w1 hown1 hg1 hat1 hsz1
          have hb1 : Below w.heap.size w w1 := HB.out.grown hg1 HB.out.size (own_base HO.out)
          have hce1 : w1.cell? (ad.add k) = some (.int .i64 (q : Int)) := by
            obtain ⟨ad', e1, hc1⟩ := (HZ.out.below hb1).at_ k (by omega)
            cases e1
            rw [hc1]
            have := HK.out
            simp [intsV, hlt, this]
          have HO1 := Lib.hid hown1
          have HB1 := Lib.hid hb1
          clear hown1 hg1 hat1 hb1 hce
          go_wp2
          go_roundg (zs.length - (k + 1))
          case measure => omega
          case rel =>
            refine ⟨k + 1, p + q, acc ++ [(l.drop p).take q], A1, c1, rfl, hlt, by go_num, by go_num, ?_, rfl, ?_, ?_, ?_, HB1.out⟩
            · have := HSZ.out; omega
            · have := HN.out
              rw [List.drop_drop] at this
              exact this
            · rw [List.length_append, HA.out]; rfl
            · have : textsV (acc ++ [(l.drop p).take q]) = textsV acc ++ [.string (str ((l.drop p).take q))] := by simp [textsV]
              rw [this]; exact HO1.out
    · obtain rfl : k = zs.length := by omega
      by_cases hp : p = l.length
      · have e1 : ((p : Int) != ((str l).size : Int)) = false := by rw [HSZ.out, hp]; simp
        have HP : Hid (l.drop p = []) := by rw [hp]; exact List.drop_length
        clear hp
        go_wp2
        go_ret2
        exact cut_end w wr l _ zs acc A c HC.out HA.out HB.out HO.out _ HP.out rfl
      · have e1 : ((p : Int) != ((str l).size : Int)) = true := by rw [HSZ.out]; simp; omega
        have HP : Hid (l.drop p ≠ []) := by
          show _ ≠ _
          intro h
          have := List.drop_eq_nil_iff.1 h
          omega
        clear hp
        go_wp2
        go_ret2
        exact cut_end_no w wr l _ zs acc HC.out HB.out _ HP.out rfl
/-- Two lists of texts that are the same. -/
theorem texts_same (A B : Option Addr) (n c d : Nat) (ps : List (List UInt8)) (w : World) (h1 : Reads w A n (textsV ps)) (h2 : Reads w B n (textsV ps)) :
    Calls Try.prog 22 #[.slice A n c, .slice B n d] w fun e w' => e = .returned (.bool true) ∧ Below w.heap.size w w' := by
  have hn : ps.length = n := by have := h1.1; simpa [textsV] using this
  have hm := h1.2.1
  subst hn
  have H1 := Lib.hid h1
  have H2 := Lib.hid h2
  clear h1 h2
  go_enter Try.func22, Try.ntmps22
  go_wp2
  go_loopg [5] ps.length (fun gk b wr => ∃ k : Nat, gk = ps.length - k ∧ k ≤ ps.length ∧ b = .int .i64 (k : Int) ∧ Below w.heap.size w wr)
  case atStart => exact ⟨0, rfl, Nat.zero_le _, rfl, Below.refl _ _⟩
  case round =>
    obtain ⟨k, rfl, hk, rfl, hbel⟩ := hrel
    have HB := Lib.hid hbel
    clear hbel
    by_cases hlt : k < ps.length
    · obtain ⟨ad, rfl, c1⟩ := (H1.out.below HB.out).at_ k hlt
      obtain ⟨bd, rfl, c2⟩ := (H2.out.below HB.out).at_ k hlt
      rw [show (textsV ps).getD k undef = .string (str ps[k]) from by simp [textsV, hlt]] at c1 c2
      have hI : (k : Int) < (ps.length : Int) := by omega
      go_wp2
      go_quiet (fail)
      go_wp2
      go_roundg (ps.length - (k + 1))
      case measure => omega
      case rel => exact ⟨k + 1, rfl, hlt, by go_num, bel_drewN HB.out _⟩
    · go_wp2
      go_ret
      exact ⟨rfl, HB.out⟩
end Go.Proofs.Ytleljmijkncahaa

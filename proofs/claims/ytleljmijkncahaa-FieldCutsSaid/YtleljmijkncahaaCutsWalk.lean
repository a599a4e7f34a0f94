/- The walk of the law FieldCuts. -/
import Derived.Test.YtleljmijkncahaaCut
set_option linter.unusedVariables false
set_option linter.unusedSimpArgs false
namespace Go.Proofs.Ytleljmijkncahaa
open Go.RowKit
theorem cuts_great (s : ByteArray) (A : Option Addr) (n c : Nat) (w : World) (hn : n ≤ 9223372036854775807) (h : 2000 < (s.size : Int) ∨ 200 < (n : Int)) :
    Calls Try.prog 4 #[.string s, .slice A n c] w fun e w' => e = .returned (.bool true) ∧ Below w.heap.size w w' := by
  by_cases h1 : 2000 < (s.size : Int)
  · clear h
    go_enter Try.func4, Try.ntmps4
    go_wp2_with (go_at_call 16; refine (awake1 _).mono ?_; rintro e w1 ⟨rfl, hb1⟩)
    go_ret
    exact ⟨rfl, hb1⟩
  · have h2 : 200 < (n : Int) := by omega
    clear h
    go_enter Try.func4, Try.ntmps4
    go_wp2_with (go_at_call 16; refine (awake1 _).mono ?_; rintro e w1 ⟨rfl, hb1⟩)
    go_ret
    exact ⟨rfl, hb1⟩
theorem cuts_none (l : List UInt8) (A : Option Addr) (n c : Nat) (zs : List Int) (w : World) (hl : l.length ≤ 2000) (hz : Reads w A n (intsV zs)) (hn : n ≤ 200) (hc : cutR l zs = none) :
    Calls Try.prog 4 #[.string (str l), .slice A n c] w fun e w' => e = .returned (.bool true) ∧ Below w.heap.size w w' := by
  have g1 : ¬ 2000 < ((str l).size : Int) := by rw [str_size]; omega
  have g2 : ¬ 200 < (n : Int) := by omega
  have HC : Hid (∀ w2, Below w.heap.size w w2 → (Calls Try.prog 20 #[.string (str l), .slice A n c] w2 fun e w' => e = .returned (.tuple #[.slice none 0 0, .bool false]) ∧ Below w2.heap.size w2 w')) := fun w2 hb => by
    have := cut_any l A n c zs w2 hl (hz.below hb) hn
    rw [hc] at this
    exact this.mono fun e w' ⟨h1, h2⟩ => ⟨h2, h1⟩
  have HR : Hid (∀ w2, Below w.heap.size w w2 → (Calls Try.prog 21 #[.string (str l), .slice A n c] w2 fun e w' => e = .returned (.tuple #[.slice none 0 0, .bool false]) ∧ Below w2.heap.size w2 w')) := fun w2 hb => by
    have := rcut_any l A n c zs w2 hl (hz.below hb) hn
    rw [hc] at this
    exact this.mono fun e w' ⟨h1, h2⟩ => ⟨h2, h1⟩
  have HT : Hid (∀ w, Calls Try.prog 22 #[.slice none 0 0, .slice none 0 0] w fun e w' => e = .returned (.bool true) ∧ Below w.heap.size w w') := fun w => texts_same none none 0 0 0 [] w (reads_nil w) (reads_nil w)
  clear hz hc
  go_enter Try.func4, Try.ntmps4
  go_wp2_with (first
    | (go_at_call 16; refine (awake1 _).mono ?_; rintro e w1 ⟨rfl, hb1⟩)
    | (go_at_call 20; refine (HC.out _ hb1).mono ?_; rintro e w2 ⟨rfl, hb2'⟩; have hb2 := bel_trans hb1 hb2')
    | (go_at_call 21; refine (HR.out _ hb2).mono ?_; rintro e w3 ⟨rfl, hb3'⟩; have hb3 := bel_trans hb2 hb3')
    | (go_at_call 22; refine (HT.out _).mono ?_; rintro e w4 ⟨rfl, hb4'⟩; have hb4 := bel_trans hb3 hb4'))
  refine wp_loop_rounds 1 ?_
  rw [rounds_succ]
  go_wp2
  go_ret
  exact ⟨rfl, hb4⟩
set_option maxHeartbeats 400000 in
theorem cuts_some (l : List UInt8) (A : Option Addr) (n c : Nat) (zs : List Int) (ps : List (List UInt8)) (w : World) (hl : l.length ≤ 2000) (hz : Reads w A n (intsV zs)) (hn : n ≤ 200) (hc : cutR l zs = some ps) :
    Calls Try.prog 4 #[.string (str l), .slice A n c] w fun e w' => e = .returned (.bool true) ∧ Below w.heap.size w w' := by
  have g1 : ¬ 2000 < ((str l).size : Int) := by rw [str_size]; omega
  have g2 : ¬ 200 < (n : Int) := by omega
  obtain ⟨hflat, hpl⟩ := cutR_flat l zs ps hc
  have hpn : ps.length ≤ 200 := by have := hz.1; simp [intsV] at this; omega
  have HC : Hid (∀ w2, Below w.heap.size w w2 → (Calls Try.prog 20 #[.string (str l), .slice A n c] w2 fun e w' => Below w2.heap.size w2 w' ∧ ∃ B d, e = .returned (.tuple #[.slice B ps.length d, .bool true]) ∧ Reads w' B ps.length (textsV ps))) := fun w2 hb => by
    have := cut_any l A n c zs w2 hl (hz.below hb) hn
    rw [hc] at this
    exact this.mono fun e w' ⟨h1, B, d, h2, h3⟩ => ⟨h1, B, d, h2, own_reads h3⟩
  have HR : Hid (∀ w2, Below w.heap.size w w2 → (Calls Try.prog 21 #[.string (str l), .slice A n c] w2 fun e w' => Below w2.heap.size w2 w' ∧ ∃ B d, e = .returned (.tuple #[.slice B ps.length d, .bool true]) ∧ Reads w' B ps.length (textsV ps))) := fun w2 hb => by
    have := rcut_any l A n c zs w2 hl (hz.below hb) hn
    rw [hc] at this
    exact this.mono fun e w' ⟨h1, B, d, h2, h3⟩ => ⟨h1, B, d, h2, own_reads h3⟩
  have HT := Lib.hid (fun A B c d w h1 h2 => texts_same A B ps.length c d ps w h1 h2)
  have HF := Lib.hid hflat
  have hz0 : ((ps.length : Int) == 0) = decide (ps.length = 0) := by
    by_cases h : ps.length = 0 <;> simp [h]
  clear hz hc hflat hpl hz0
  go_enter Try.func4, Try.ntmps4
  go_wp2_with (first
    | (go_at_call 16; refine (awake1 _).mono ?_; rintro e w1 ⟨rfl, hb1⟩)
    | (go_at_call 20; refine (HC.out _ hb1).mono ?_; rintro e w2 ⟨hb2', B2, d2, rfl, hr2⟩; have hb2 := bel_trans hb1 hb2')
    | (go_at_call 21; refine (HR.out _ hb2).mono ?_; rintro e w3 ⟨hb3', B3, d3, rfl, hr3⟩; have hb3 := bel_trans hb2 hb3')
    | (go_at_call 22; refine (HT.out _ _ _ _ _ (hr2.below hb3') hr3).mono ?_; rintro e w4 ⟨rfl, hb4'⟩; have hb4 := bel_trans hb3 hb4'))
  have HR2 := Lib.hid ((hr2.below hb3').below hb4')
  have HB4 := Lib.hid hb4
  clear hr2 hr3 hb1 hb2 hb2' hb3 hb3' hb4 hb4'
  go_loopg [9, 10] ps.length (fun gk a b wr => wr = w4 ∧ ∃ k : Nat, gk = ps.length - k ∧ k ≤ ps.length ∧ b = .int .i64 (k : Int) ∧ a = .string (str (ps.take k).flatten))
  case atStart => exact ⟨rfl, 0, rfl, Nat.zero_le _, rfl, rfl⟩
  case round =>
    obtain ⟨rfl, k, rfl, hk, rfl, rfl⟩ := hrel
    by_cases hlt : k < ps.length
    · obtain ⟨ad, rfl, hce⟩ := HR2.out.at_ k hlt
      rw [show (textsV ps).getD k undef = .string (str ps[k]) from by simp [textsV, hlt]] at hce
      have hfl : (ps.take (k + 1)).flatten = (ps.take k).flatten ++ ps[k] := by rw [List.take_succ_eq_append_getElem hlt, List.flatten_append]; simp only [List.flatten_cons, List.flatten_nil, List.append_nil]
      have had : str (ps.take k).flatten ++ str ps[k] = str (ps.take (k + 1)).flatten := by rw [str_append, hfl]
      have hlen : (ps.take (k + 1)).flatten.length ≤ 2000 := by
        have h1 : ((ps.take (k + 1)).flatten ++ (ps.drop (k + 1)).flatten).length = l.length := by rw [← List.flatten_append, List.take_append_drop, HF.out]
        rw [List.length_append] at h1; omega
      rw [hfl, List.length_append] at hlen
      have z1 : (str (ps.take k).flatten).size ≤ 2000 := by rw [str_size]; omega
      have z2 : (str ps[k]).size ≤ 2000 := by rw [str_size]; omega
      clear hfl hlen
      go_wp2
      go_roundg (ps.length - (k + 1))
      case measure => omega
      case rel => exact ⟨rfl, k + 1, rfl, hlt, by go_num, rfl⟩
    · obtain rfl : k = ps.length := by omega
      rw [List.take_length, HF.out]
      go_wp2
      go_ret
      exact ⟨rfl, HB4.out⟩
theorem cuts_law (s : ByteArray) (A : Option Addr) (n c : Nat) (zs : List Int) (w : World) (hz : Reads w A n (intsV zs)) :
    Calls Try.prog 4 #[.string s, .slice A n c] w fun e w' => e = .returned (.bool true) ∧ Below w.heap.size w w' := by
  by_cases h : 2000 < (s.size : Int) ∨ 200 < (n : Int)
  · exact cuts_great s A n c w hz.2.1 h
  · have hs : s.data.toList.length ≤ 2000 := by simp; omega
    cases hc : cutR s.data.toList zs with
    | none => exact cuts_none s.data.toList A n c zs w hs hz (by omega) hc
    | some ps => exact cuts_some s.data.toList A n c zs ps w hs hz (by omega) hc
end Go.Proofs.Ytleljmijkncahaa

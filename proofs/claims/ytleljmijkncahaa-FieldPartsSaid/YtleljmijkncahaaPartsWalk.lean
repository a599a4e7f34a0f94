/- The walk of the law FieldParts. -/
import Derived.Test.YtleljmijkncahaaParts
set_option linter.unusedVariables false
set_option linter.unusedSimpArgs false
namespace Go.Proofs.Ytleljmijkncahaa
open Go.RowKit
theorem Try.info3 : (Try.prog.info? 3).map (fun i => (i.zero, i.size, i.bytes)) = some (some (.int .i64 0), 1, 8) := by kernel_rfl
theorem parts_great (A B : Option Addr) (n m c d : Nat) (w : World) (h : 300 < (n : Int) ∨ 300 < (m : Int)) :
    Calls Try.prog 6 #[.slice A n c, .slice B m d] w fun e w' => e = .returned (.bool true) ∧ Below w.heap.size w w' := by
  by_cases h1 : 300 < (n : Int)
  · clear h
    go_enter Try.func6, Try.ntmps6
    go_wp2_with (go_at_call 16; refine (awake1 _).mono ?_; rintro e w1 ⟨rfl, hb1⟩)
    go_ret
    exact ⟨rfl, hb1⟩
  · have h2 : 300 < (m : Int) := by omega
    clear h
    go_enter Try.func6, Try.ntmps6
    go_wp2_with (go_at_call 16; refine (awake1 _).mono ?_; rintro e w1 ⟨rfl, hb1⟩)
    go_ret
    exact ⟨rfl, hb1⟩
theorem i32V_append (xs ys : List Int) : i32V xs ++ i32V ys = i32V (xs ++ ys) := by simp [i32V]
theorem i32V_one (xs : List Int) : ∀ u ∈ i32V xs, u.oneCell' = true := by
  intro u hu
  obtain ⟨z, _, rfl⟩ := List.mem_map.mp hu
  rfl
set_option maxHeartbeats 1600000 in
theorem parts_law (A B : Option Addr) (n m c d : Nat) (xs ys : List Int) (w : World) (hx : Reads w A n (i32V xs)) (hy : Reads w B m (i32V ys)) :
    Calls Try.prog 6 #[.slice A n c, .slice B m d] w fun e w' => e = .returned (.bool true) ∧ Below w.heap.size w w' := by
  by_cases h : 300 < (n : Int) ∨ 300 < (m : Int)
  · exact parts_great A B n m c d w h
  have g1 : ¬ 300 < (n : Int) := by omega
  have g2 : ¬ 300 < (m : Int) := by omega
  clear h
  have hxn : xs.length = n := by have := hx.1; simpa [i32V] using this
  have hyn : ys.length = m := by have := hy.1; simpa [i32V] using this
  have HX := Lib.hid hx
  have HY := Lib.hid hy
  have HXR : Hid (∀ w1, Below w.heap.size w w1 → (Calls Try.prog 23 #[.slice A n c] w1 fun e w' => e = .returned (.string (str (rowL xs))) ∧ Below w1.heap.size w1 w')) :=
    fun w1 hb => row_any A n c xs w1 (hx.below hb) (by omega)
  have HYR : Hid (∀ w1, Below w.heap.size w w1 → (Calls Try.prog 23 #[.slice B m d] w1 fun e w' => e = .returned (.string (str (rowL ys))) ∧ Below w1.heap.size w1 w')) :=
    fun w1 hb => row_any B m d ys w1 (hy.below hb) (by omega)
  have hadd : str (rowL xs) ++ str (rowL ys) = str (rowL (xs ++ ys)) := by rw [str_append, rowL_append]
  have z1 : (str (rowL xs)).size ≤ 1200 := by rw [str_size, rowL_length]; omega
  have z2 : (str (rowL ys)).size ≤ 1200 := by rw [str_size, rowL_length]; omega
  have hzl : (xs ++ ys).length = n + m := by rw [List.length_append, hxn, hyn]
  have HZL := Lib.hid hzl
  have HNM : Hid (n + m ≤ 600) := by show _ ≤ _; omega
  have HX1 := Lib.hid (i32V_one xs)
  have HY1 := Lib.hid (i32V_one ys)
  clear hx hy hzl
  go_enter Try.func6, Try.ntmps6
  go_wp2_with (first
    | (go_at_call 16; refine (awake1 _).mono ?_; rintro e w1 ⟨rfl, hb1⟩)
    | (at_builtin; refine append_reads w.heap.size rfl _ _ 36 21 (.int .i32 0) 4 rfl Try.underlying36 Try.info21 rfl (by decide) _ 0 [] rfl (World.ownsRow_lit (base := w.heap.size) (e := 21) (size := 1) w1 #[] 0 hb1.size (by decide) rfl) A n c (i32V xs) rfl ((HX.out.below hb1).below ((Below.refl w1.heap.size w1).alloc (Nat.le_refl _) _)) HX1.out (by omega) (by have := hb1.size; simp; omega) ?_))
  intro A1 c1 w2 ho2 hg2
  have hb2 : Below w.heap.size w w2 := (hb1.alloc hb1.size _).grown hg2 (by have := hb1.size; simp; omega) (fun k hk => by cases hk; exact hb1.size)
  go_wp2_with (at_builtin; refine append_reads w.heap.size rfl _ _ 36 21 (.int .i32 0) 4 rfl Try.underlying36 Try.info21 rfl (by decide) _ n (i32V xs) rfl ho2 B m d (i32V ys) rfl (HY.out.below hb2) HY1.out (by omega) hb2.size ?_)
  intro A2 c2 w3 ho3 hg3
  have hb3 : Below w.heap.size w w3 := hb2.grown hg3 hb2.size (own_base ho2)
  rw [i32V_append] at ho3
  have HR3 := Lib.hid (own_reads ho3)
  have HB3 := Lib.hid hb3
  have HLR : Hid (∀ w1, Below w3.heap.size w3 w1 → (Calls Try.prog 23 #[.slice A2 ((n + m : Nat)) c2] w1 fun e w' => e = .returned (.string (str (rowL (xs ++ ys)))) ∧ Below w1.heap.size w1 w')) :=
    fun w1 hb => row_any A2 (n + m) c2 (xs ++ ys) w1 (HR3.out.below hb) HNM.out
  clear hb1 ho2 hg2 hb2 ho3 hg3 hb3 HX HY HX1 HY1
  generalize hN : n + m = N at *
  generalize hzs : xs ++ ys = zs at *
  have hbw : Below w3.heap.size w3 w3 := Below.refl _ _
  go_wp2_with (first
    | (go_at_call 23; (with_reducible refine (HXR.out _ (bel_trans HB3.out hbw)).mono ?_); rintro e w4 ⟨rfl, hb4'⟩; have hb4 := bel_trans hbw hb4')
    | (go_at_call 23; (with_reducible refine (HYR.out _ (bel_trans HB3.out hb4)).mono ?_); rintro e w5 ⟨rfl, hb5'⟩; have hb5 := bel_trans hb4 hb5')
    | (go_at_call 23; (with_reducible refine (HLR.out _ hb5).mono ?_); rintro e w6 ⟨rfl, hb6'⟩; have hb6 := bel_trans hb5 hb6'))
  have HR6 := Lib.hid (HR3.out.below hb6)
  have HB6 := Lib.hid (bel_trans HB3.out hb6)
  have hs6 := hb6.size
  have HLR6 : Hid (∀ w1, Below w6.heap.size w6 w1 → (Calls Try.prog 23 #[.slice A2 N c2] w1 fun e w' => e = .returned (.string (str (rowL zs))) ∧ Below w1.heap.size w1 w')) := fun w1 hb => HLR.out w1 (bel_trans hb6 hb)
  clear hb4 hb4' hb5 hb5' hb6 hb6' hbw HLR HXR HYR
  obtain rfl : zs.length = N := HZL.out
  have hmem := World.ownsRow_nil
  have hN0 : ∀ k : Nat, k ≤ zs.length → k ≤ 600 := fun k h => Nat.le_trans h HNM.out
  have HN0 := Lib.hid hN0
  clear hN0
  go_loopg [6, 35] zs.length (fun gk a b wr => ∃ (k : Nat) (A3 : Option Addr) (c3 : Nat), gk = zs.length - k ∧ k ≤ zs.length ∧ b = .int .i64 (k : Int) ∧ a = .slice A3 k c3 ∧ wr.ownsRow w6.heap.size 3 1 (.slice A3 k c3) k (intsV (List.replicate k 4)) ∧ Below w6.heap.size w6 wr)
  case atStart => exact ⟨0, none, 0, rfl, Nat.zero_le _, rfl, rfl, World.ownsRow_nil _ _ _ _, Below.refl _ _⟩
  case round =>
    obtain ⟨k, A3, c3, rfl, hk, rfl, rfl, hown, hbel⟩ := hrel
    have HO := Lib.hid hown
    have HB := Lib.hid hbel
    clear hown hbel
    have hk6 := HN0.out k hk
    by_cases hlt : k < zs.length
    · go_wp2_with (at_builtin; refine append_one w6.heap.size rfl _ _ 29 3 (.int .i64 0) 8 rfl Try.underlying29 Try.info3 rfl (by decide) (.slice A3 k c3) k (intsV (List.replicate k 4)) (.int .i64 4) rfl rfl rfl HO.out HB.out.size (by omega) ?_)
      intro A4 c4 w7 ho7 hg7 hat7 hsz7
      have e5 : intsV (List.replicate k 4) ++ [.int .i64 4] = intsV (List.replicate (k + 1) 4) := by rw [List.replicate_succ']; simp [intsV]
      rw [e5] at ho7
      have HO7 := Lib.hid ho7
      have HB7 : Hid (Below w6.heap.size w6 w7) := HB.out.grown hg7 HB.out.size (own_base HO.out)
      clear ho7 hg7 hat7 hsz7 e5
      go_wp2
      go_roundg (zs.length - (k + 1))
      case measure => omega
      case rel => exact ⟨k + 1, A4, c4, rfl, hlt, by go_num, rfl, HO7.out, HB7.out⟩
    · obtain rfl : k = zs.length := by omega
      have HF : Hid (∀ w1, Below wr.heap.size wr w1 → (Calls Try.prog 20 #[.string (str (rowL zs)), .slice A3 zs.length c3] w1 fun e w' => Below w1.heap.size w1 w' ∧ ∃ B1 d1, e = .returned (.tuple #[.slice B1 zs.length d1, .bool true]) ∧ Reads w' B1 zs.length (textsV (zs.map fun x => Crc.put (un x) 4)))) := fun w1 hb => by
        have := cut_wide (rowL zs) A3 zs.length c3 (List.replicate zs.length 4) w1 (by rw [rowL_length]; omega) ((own_reads HO.out).below hb) hk6
        rw [cut_fours] at this
        refine this.mono fun e w' ⟨h1, B1, d1, h2, h3⟩ => ⟨h1, B1, d1, ?_, ?_⟩
        · rw [List.length_map] at h2; exact h2
        · rw [List.length_map] at h3; exact own_reads h3
      have hbw : Below wr.heap.size wr wr := Below.refl _ _
      clear hk6
      go_wp2_with (first
        | (go_at_call 23; (with_reducible refine (HLR6.out _ HB.out).mono ?_); rintro e w7 ⟨rfl, hb7⟩)
        | (go_at_call 20; (with_reducible refine (HF.out _ hb7).mono ?_); rintro e w8 ⟨hb8', B1, d1, rfl, hr8⟩; have hb8 := bel_trans hb7 hb8'))
      have HR8 := Lib.hid hr8
      have HL8 := Lib.hid ((HR6.out.below HB.out).below hb8)
      have HB8 : Hid (Below w.heap.size w w8) := bel_trans HB6.out (bel_trans HB.out hb8)
      clear hr8 hb7 hb8 hb8' hbw HF HO HB HLR6
      go_loopg [9] zs.length (fun gk b wr => Below w8.heap.size w8 wr ∧ ∃ k : Nat, gk = zs.length - k ∧ k ≤ zs.length ∧ b = .int .i64 (k : Int))
      case atStart => exact ⟨Below.refl _ _, 0, rfl, Nat.zero_le _, rfl⟩
      case round =>
        obtain ⟨hw, k, rfl, hk, rfl⟩ := hrel
        by_cases hlt : k < zs.length
        · obtain ⟨ad, rfl, hce⟩ := (HR8.out.below hw).at_ k hlt
          obtain ⟨ad', rfl, hce'⟩ := (HL8.out.below hw).at_ k hlt
          rw [show (textsV (zs.map fun x => Crc.put (un x) 4)).getD k undef = .string (str (Crc.put (un zs[k]) 4)) from by simp [textsV, hlt]] at hce
          rw [show (i32V zs).getD k undef = .int .i32 zs[k] from by simp [i32V, hlt]] at hce'
          have hp := fun w => put_any (un zs[k] : Int) 4 w (Int.natCast_nonneg _) (by have := un_lt zs[k]; omega)
          rw [putI_un] at hp
          have HP := Lib.hid hp
          have e0 := un_wrap zs[k]
          have hlt' : (k : Int) < (zs.length : Int) := by omega
          have HW := Lib.hid hw
          have HC9 : Hid (∀ w9, Below wr.drew.heap.size wr.drew w9 → w9.cell? (ad.add k) = some (.string (str (Crc.put (un zs[k]) 4)))) := fun w9 hb => (hb.cell (World.block_lt_of_cell? wr _ hce)).trans hce
          clear hp hw
          generalize un zs[k] = M at *
          generalize zs[k] = x at *
          generalize hS : str (Crc.put M 4) = S at *
          go_wp2
          go_region_with (go_at_call 17; refine (HP.out _).mono ?_; rintro e w9 ⟨rfl, hb9⟩; have hc9 := HC9.out _ hb9)
          all_goals
            go_wp2
            go_roundg (zs.length - (k + 1))
            case measure => omega
            case rel => exact ⟨bel_trans HW.out.drew hb9, k + 1, rfl, hlt, by go_num⟩
        · obtain rfl : k = zs.length := by omega
          go_wp2
          go_ret
          exact ⟨rfl, bel_trans HB8.out hw⟩
end Go.Proofs.Ytleljmijkncahaa

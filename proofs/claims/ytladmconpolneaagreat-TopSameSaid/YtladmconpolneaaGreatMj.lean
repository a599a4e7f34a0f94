/- Several texts of this seat, laid together (no statement of its own): their conditions stand in each theorem. -/
import Derived.Test.YtladmconpolneaaGreatMi
import Derived.Test.YtladmconpolneaaGreatMh
/- exact: Values, Each, as iterators. -/
set_option linter.unusedVariables false
set_option linter.unusedSimpArgs false
namespace Go.Proofs.YtladmconpolneaaGreat
open Go.RowKit
attribute [local go_sem] Oper.semAt_some
set_option maxHeartbeats 800000 in
theorem values_seq (w0 W : World) (ids : List Nat) (A : Option Addr) (c b1 : Nat) (TB : List TypeId) (hr : RT w0 3 A ids.length (natV ids)) (hb : w0.heap[b1]? = some (.cells #[.slice A ids.length c] 66 (0, 0))) (hn : ids.length ≤ 60000) (hW : Below w0.heap.size w0 W) :
    SeqT Tryz.prog 128 #[.pointer (some ⟨b1, 0, none⟩)] (fun x : Nat => #[.int .i64 (x : Int)]) (fun pre x _ => ∃ k, ∃ hk : k < ids.length, pre = ids.take k ∧ x = ids[k]) (fun A B => A = B) (KpB w0.heap.size TB) (fun xs _ => xs = ids) (fun _ _ => True) W := by
  intro l J Jx hJ hJx hY h0
  have HR := Lib.hid hr
  have HB := Lib.hid hW
  have HY := Lib.hid hY
  have hnb : (ids.length : Int) ≤ 60000 := by omega
  have c1 : W.cell? ⟨b1, 0, none⟩ = some (.slice A ids.length c) := keepc hW (cell_of_row _ _ _ _ _ _ hb)
  clear hY hJ hJx hb hW hr hn
  go_enter Tryz.func128, Tryz.ntmps128
  go_wp2
  clear c1
  go_loopg [7] ids.length (fun gk i wr => ∃ k : Nat, gk = ids.length - k ∧ k ≤ ids.length ∧ i = .int .i64 (k : Int) ∧ Hid (J (ids.take k) wr) ∧ Hid (Below w0.heap.size w0 wr))
  case atStart => exact ⟨0, rfl, Nat.zero_le _, rfl, Lib.hid h0, HB⟩
  case round =>
    obtain ⟨k, rfl, hk, rfl, HJ, HB1⟩ := hrel
    by_cases hkn : k = ids.length
    · subst hkn
      go_wp2
      go_end0
      exact ⟨⟨_, rfl⟩, .inl ⟨_, List.take_length, HJ.out⟩⟩
    · have hkn' : k < ids.length := by omega
      have hkl : (k : Int) < (ids.length : Int) := by omega
      have hk9 : (0 : Int) ≤ (k : Int) := by omega
      have hkb : (k : Int) ≤ 60000 := by omega
      obtain ⟨ad, rfl, hc⟩ := HR.out.1.nat k hkn'
      have hgd : ids.getD k 0 = ids[k] := by rw [List.getD_eq_getElem?_getD, List.getElem?_eq_getElem hkn']; rfl
      rw [hgd] at hc
      have hc1 := keepc HB1.out hc
      have htk : ids.take (k + 1) = ids.take k ++ [ids[k]] := List.take_succ_eq_append_getElem hkn'
      obtain ⟨fn, tmps, assign, body, hy, hR⟩ := HY.out _ ids[k] wr HJ.out ⟨k, hkn', rfl, rfl⟩
      have hy' : (Instr.yield l #[.int .i64 (ids[k] : Int)]).run Tryz.prog wr = .ok (.round l fn tmps assign body) wr := hy
      generalize ids[k] = x at *
      have HTK := Lib.hid htk
      clear hy htk hgd hc
      refine (wpIn_wide (n := 1)).1 ?_
      gi_wp2_with fail
      refine hR.mono ?_
      rintro e W3 (⟨rfl, hJ3, hk3⟩ | ⟨rfl, hJx3⟩)
      · have HJ3 := Lib.hid hJ3
        have HB3 := Lib.hid (HB1.out.trans hk3.1)
        clear hJ3 hk3 hR hy' hc1
        gi_wp2
        go_roundg (ids.length - (k + 1))
        case measure => omega
        case rel => exact ⟨k + 1, rfl, by omega, by simp, by rw [HTK.out]; exact HJ3, HB3⟩
      · have HJ3 := Lib.hid hJx3
        clear hJx3 hR hy' hc1
        gi_wp2
        refine bodyPost_ret (results_none rfl _ _ _) rfl ?_
        exact ⟨⟨_, rfl⟩, .inr ⟨_, trivial, HJ3.out⟩⟩
theorem values_any (A : Option Addr) (n c : Nat) (w : World) : Calls Tryz.prog 87 #[.slice A n c] w fun e w' => e = .returned (.func (.func 128) #[] #[.pointer (some ⟨w.heap.size, 0, none⟩)]) ∧ w'.heap[w.heap.size]? = some (.cells #[.slice A n c] 66 (0, 0)) ∧ Below w.heap.size w w' := by
  go_enter Tryz.func87, Tryz.ntmps87
  go_wp2
  go_ret
  exact ⟨rfl, heap_alloc_new _ _, (Below.refl _ _).alloc (Nat.le_refl _) _⟩
theorem each_any (b b1 : Nat) (A : Option Addr) (n c : Nat) (w : World) : Calls Tryz.prog 86 #[.pointer (some ⟨b, 0, none⟩), .slice A n c, .func (.func 128) #[] #[.pointer (some ⟨b1, 0, none⟩)]] w fun e w' => e = .returned (.func (.func 127) #[] #[.pointer (some ⟨w.heap.size + 2, 0, none⟩), .pointer (some ⟨w.heap.size, 0, none⟩), .pointer (some ⟨w.heap.size + 1, 0, none⟩)]) ∧
    w'.heap[w.heap.size]? = some (.cells #[.pointer (some ⟨b, 0, none⟩)] 57 (0, 0)) ∧ w'.heap[w.heap.size + 1]? = some (.cells #[.slice A n c] 30 (0, 0)) ∧ w'.heap[w.heap.size + 2]? = some (.cells #[.func (.func 128) #[] #[.pointer (some ⟨b1, 0, none⟩)]] 153 (0, 0)) ∧ Below w.heap.size w w' := by
  go_enter Tryz.func86, Tryz.ntmps86
  go_wp2
  go_ret
  refine ⟨by simp, ?_, ?_, ?_, ?_⟩
  · rw [Below.heap_alloc _ _ _ (by simp; omega), Below.heap_alloc _ _ _ (by simp)]; exact heap_alloc_new _ _
  · rw [Below.heap_alloc _ _ _ (by simp)]; exact alloc_at0 _ _ _ (by simp)
  · exact alloc_at0 _ _ _ (by simp)
  · exact (((Below.refl _ _).alloc (Nat.le_refl _) _).alloc (by simp) _).alloc (by simp; omega) _
/-- What an answer of a search is. -/
def resE (F v : List Int) (dim : Nat) (id : Nat) : El := [(id : Int), farL (rowL F dim id) v]
/-- The iterator's own steps: nothing old turns but records. -/
def StepE (m : Nat) (A B : World) : Prop := Below m A B ∧ KeepT [] A B
/-- Records from m on lie as they lay. -/
def NC (m : Nat) (A B : World) : Prop := ∀ k o, m ≤ k → A.heap[k]? = some o → o.isCells = false → B.heap[k]? = some o
def KpE (n0 m : Nat) (TB : List TypeId) (A B : World) : Prop := KpB n0 TB A B ∧ NC m A B
theorem two_of {e : Ending} {W : World} {A B : World → Prop} (h : (e = Ending.returned (.bool true) ∧ A W) ∨ (e = Ending.returned (.bool false) ∧ B W)) : ∃ bo : Bool, e = Ending.returned (.bool bo) ∧ (bo = true → A W) ∧ (bo = false → B W) := by
  rcases h with ⟨h1, h2⟩ | ⟨h1, h2⟩
  · exact ⟨true, h1, fun _ => h2, fun h => Bool.noConfusion h⟩
  · exact ⟨false, h1, fun h => Bool.noConfusion h, fun _ => h2⟩
structure EachAt (w0 : World) (B b dim n : Nat) (F v : List Int) (A : Option Addr) (c : Nat) (ids : List Nat) (Ai : Option Addr) (ci b1 b3 b4 b5 : Nat) : Prop where
  items : ItemsAt w0 B b dim n F
  vec : Reads w0 A v.length (i32V v)
  bd : Bd 1048576 v
  row : RT w0 3 Ai ids.length (natV ids)
  len : ids.length ≤ 60000
  lt : ∀ i ∈ ids, i < n
  k1 : w0.heap[b1]? = some (.cells #[.slice Ai ids.length ci] 66 (0, 0))
  k3 : w0.heap[b3]? = some (.cells #[.pointer (some ⟨b, 0, none⟩)] 57 (0, 0))
  k4 : w0.heap[b4]? = some (.cells #[.slice A v.length c] 30 (0, 0))
  k5 : w0.heap[b5]? = some (.cells #[.func (.func 128) #[] #[.pointer (some ⟨b1, 0, none⟩)]] 153 (0, 0))
set_option maxHeartbeats 800000 in
set_option maxRecDepth 100000 in
theorem each_seq (w0 W : World) (B b dim n : Nat) (F v : List Int) (A : Option Addr) (c : Nat) (ids : List Nat) (Ai : Option Addr) (ci b1 b3 b4 b5 : Nat) (TB : List TypeId) (hE : EachAt w0 B b dim n F v A c ids Ai ci b1 b3 b4 b5) (hW : Below w0.heap.size w0 W) (hT : 219 ∉ TB) :
    SeqN Tryz.prog 127 #[.pointer (some ⟨b5, 0, none⟩), .pointer (some ⟨b3, 0, none⟩), .pointer (some ⟨b4, 0, none⟩)] (fun x : El => #[.agg (i64V x).toArray]) (fun pre x _ => ∃ k, ∃ hk : k < ids.length, pre = (ids.take k).map (resE F v dim) ∧ x = resE F v dim ids[k])
      (StepE W.heap.size) (KpE w0.heap.size W.heap.size TB) (fun xs _ => xs = ids.map (resE F v dim)) (fun _ _ => True) W := by
  intro y J Jx hF hJ hJx hY h0
  have HF := Lib.hid hF
  have HE := Lib.hid hE
  have HB := Lib.hid hW
  have HY := Lib.hid hY
  have HJ0 := Lib.hid hJ
  have H00 := Lib.hid h0
  have HT := Lib.hid hT
  have hbs : Below W.heap.size W (W.alloc (.cells #[.func (.yield y) #[] #[]] 219)) := (Below.refl _ _).alloc (Nat.le_refl _) _
  have c5 : (W.alloc (.cells #[.func (.yield y) #[] #[]] 219)).cell? ⟨b5, 0, none⟩ = some (.func (.func 128) #[] #[.pointer (some ⟨b1, 0, none⟩)]) := keepc hbs (keepc hW (cell_of_row _ _ _ _ _ _ hE.k5))
  clear hY hJ hJx hE hW h0 hT hF
  refine calls_marks Tryz.func127 rfl ?_
  simp only [Tryz.ntmps127, List.size_toArray, List.length_cons, List.length_nil, Nat.reduceAdd, Nat.reduceSub, Array.replicate_succ, Array.replicate_zero, List.push_toArray, List.append_toArray, List.nil_append, List.cons_append]
  go_wp2_with fail
  clear c5
  have HBS := Lib.hid hbs
  have HG := Lib.hid (heap_alloc_new W (.cells #[.func (.yield y) #[] #[]] 219))
  have HW1 : Hid ((W.alloc (.cells #[.func (.yield y) #[] #[]] 219)).heap.size = W.heap.size + 1) := by show _ = _; simp
  have HM0 : Hid (w0.heap.size ≤ W.heap.size) := HB.out.size
  clear hbs
  generalize W.alloc (.cells #[.func (.yield y) #[] #[]] 219) = W1 at *
  have hbel : ∀ o o' : Obj, Below W1.heap.size W1 ((W1.alloc o).alloc o') := fun o o' => ((Below.refl _ _).alloc (Nat.le_refl _) _).alloc (by simp) _
  have hle : W.heap.size ≤ W1.heap.size := HBS.out.size
  refine wp_rangeT (α := Nat) (gf := 128) (lb := #[.pointer (some ⟨b1, 0, none⟩)]) rfl (Go.Proofs.enters_of Tryz.func128 (by kernel_rfl) rfl) (encs := fun x : Nat => #[.int .i64 (x : Int)])
    (V := fun pre x _ => ∃ k, ∃ hk : k < ids.length, pre = ids.take k ∧ x = ids[k]) (T := fun A B => A = B) (Kp := KpB w0.heap.size TB)
    (S := fun xs _ => xs = ids) (Sp := fun _ _ => True)
    (fun o o' _ _ => values_seq w0 _ ids Ai ci b1 TB HE.out.row HE.out.k1 HE.out.len (HB.out.trans ((HBS.out.mono HM0.out).trans ((hbel o o').mono (Nat.le_trans HM0.out hle))))) (fun _ => rfl)
    (fun xs Wx => J (xs.map (resE F v dim)) Wx ∧ Below w0.heap.size w0 Wx ∧ Wx.heap[W.heap.size]? = some (.cells #[.func (.yield y) #[] #[]] 219 (0, 0))) (fun _ _ _ => False)
    ?_ ?_ ?_ ?_ ?_ ?_ ?_ ?_ ?_ ?_ ?round ?done ?stop
  · rintro A B rfl; exact Stays.refl _ _
  · rintro s A B h rfl; exact h
  · rintro c s A B h rfl; exact h
  · rintro s Wx o o' ⟨h1, h2, h3⟩ h4 h5 h6
    have hk := KeepT.putObj o' h4 h5
    exact ⟨HJ0.out _ _ _ h1 ⟨bel_putObj (Below.refl _ _) (by omega), hk⟩, bel_putObj h2 (by have := HM0.out; omega), hk.2 _ _ _ _ h3 (by simp)⟩
  · rintro c s W o o' h; exact h.elim
  · rintro A B C h k; exact h.trans k
  · rintro Wx o o' h1 h2; exact KpB.putObj o' h1 h2 (by have := HM0.out; omega)
  · rintro s W o' h; exact h
  · rintro s W o' h; exact h
  · rintro o o' _ _
    have h1 : Below W.heap.size W ((W1.alloc o).alloc o') := HBS.out.trans ((hbel o o').mono hle)
    exact ⟨HJ0.out _ _ _ H00.out ⟨h1, KeepT.below h1⟩, HB.out.trans (h1.mono HM0.out), ((hbel o o').block _ (lt_of_block HG.out)).trans HG.out⟩
  case round =>
    rintro l pre x Wx ⟨hj, hb, hbx⟩ hkx _
    have HKX := Lib.hid hkx
    clear hkx
    gi_wp2
    refine ⟨Stays.refl _ _, ?_⟩
    rintro o ho
    try simp only [forall_exists_index, and_imp]
    intro o1 ho1 ho2
    have hk0 := KeepT.putObj o ho1 ho2
    have hbp : Below W.heap.size Wx (Wx.putObj (W1.heap.size + 1) o) := bel_putObj (Below.refl _ _) (by omega)
    have HJ1 := Lib.hid (HJ0.out _ _ _ hj ⟨hbp, hk0⟩)
    have HB1 := Lib.hid (hb.trans (hbp.mono HM0.out))
    have HX1 := Lib.hid (hk0.2 _ _ _ _ hbx (by simp))
    have HK1 : Hid (KpB w0.heap.size TB Wx (Wx.putObj (W1.heap.size + 1) o)) := KpB.putObj o ho1 ho2 (by have := HM0.out; omega)
    generalize Wx.putObj (W1.heap.size + 1) o = W2 at *
    have HPR : Hid ((pre ++ [x]).map (resE F v dim) = pre.map (resE F v dim) ++ [resE F v dim x]) := by show _ = _; simp
    have hxn : x < n := by
      obtain ⟨k, hk, _, hx⟩ := HKX.out
      exact HE.out.lt x (by rw [hx]; exact List.getElem_mem hk)
    have HV : Hid (∃ k, ∃ hk : k < ids.length, pre.map (resE F v dim) = (ids.take k).map (resE F v dim) ∧ resE F v dim x = resE F v dim ids[k]) := by
      obtain ⟨k, hk, hpre, hx⟩ := HKX.out
      exact ⟨k, hk, by rw [hpre], by rw [hx]⟩
    have hnn := HE.out.items.hn
    have hx9 : (0 : Int) ≤ (x : Int) := by omega
    have hxl : (x : Int) < (n : Int) := by omega
    have hxb : (x : Int) ≤ 1048576 := by omega
    have hr3 : W2.cell? ⟨b3, 0, none⟩ = some (.pointer (some ⟨b, 0, none⟩)) := keepc HB1.out (cell_of_row _ _ _ _ _ _ HE.out.k3)
    have hr4 : W2.cell? ⟨b4, 0, none⟩ = some (.slice A v.length c) := keepc HB1.out (cell_of_row _ _ _ _ _ _ HE.out.k4)
    have hr2 : W2.cell? ⟨W.heap.size, 0, none⟩ = some (.func (.yield y) #[] #[]) := cell_of_row _ _ _ _ _ _ HX1.out
    have HLEN := Lib.hid (fun W3 (hb3 : Below w0.heap.size w0 W3) => len_any W3 (HE.out.items.below hb3))
    have HFAR := Lib.hid (fun W3 (hb3 : Below w0.heap.size w0 W3) => ifar_any W3 (HE.out.items.below hb3) x hxn A c (HE.out.vec.below hb3) HE.out.bd)
    obtain ⟨d, hd⟩ : ∃ d, farL (rowL F dim x) v = d := ⟨_, rfl⟩
    have HENC : Hid (#[Value.agg (i64V (resE F v dim x)).toArray] = #[.agg #[.int .i64 (x : Int), .int .i64 d]]) := by show _ = _; rw [← hd]; rfl
    rw [hd] at HFAR
    clear hd
    clear hj hb hbx HKX hk0 ho1 hbp hbel
    gi_wp2_with (first
      | (refine ⟨trivial, rfl, ?_⟩; gi_at_call 73; refine (CallsIn.inRound l (callsIn_wide.2 (HLEN.out _ HB1.out))).mono ?_; rintro e w3 ⟨rfl, n3, rfl⟩)
      | fail)
    have HS4 : Hid (StepE W.heap.size W2 (W2.drewN n3)) := ⟨bel_drewN (Below.refl _ _) n3, KeepT.below (bel_drewN (Below.refl _ _) n3)⟩
    have HJ4 := Lib.hid (HJ0.out _ _ _ HJ1.out HS4.out)
    have HB4 := Lib.hid (HB1.out.trans (HS4.out.1.mono HM0.out))
    have HX4 := Lib.hid (HS4.out.2.2 _ _ _ _ HX1.out (by simp))
    have HK4 : Hid (KpB w0.heap.size TB Wx (W2.drewN n3)) := HK1.out.trans ⟨HS4.out.1.mono HM0.out, HS4.out.2.mono (by simp)⟩
    have HST4 : Hid (Stays W1.heap.size W2 (W2.drewN n3)) := Stays.below (bel_drewN (Below.refl _ _) n3)
    clear hr3 hr4 hr2 HJ1 HB1 HX1 HK1 HS4
    generalize W2.drewN n3 = W4 at *
    have hr3 : W4.cell? ⟨b3, 0, none⟩ = some (.pointer (some ⟨b, 0, none⟩)) := keepc HB4.out (cell_of_row _ _ _ _ _ _ HE.out.k3)
    have hr4 : W4.cell? ⟨b4, 0, none⟩ = some (.slice A v.length c) := keepc HB4.out (cell_of_row _ _ _ _ _ _ HE.out.k4)
    have hr2 : W4.cell? ⟨W.heap.size, 0, none⟩ = some (.func (.yield y) #[] #[]) := cell_of_row _ _ _ _ _ _ HX4.out
    have HFA := Lib.hid (HFAR.out W4.drew (HB4.out.trans (bel_drew (Below.refl _ _))))
    have HDR : Hid (∀ k, StepE W.heap.size W4 (W4.drew.drewN k)) := fun k => ⟨bel_drewN (bel_drew (Below.refl _ _)) k, KeepT.below (bel_drewN (bel_drew (Below.refl _ _)) k)⟩
    have hS0 : W4.drew.cell? ⟨b3, 0, none⟩ = some (.pointer (some ⟨b, 0, none⟩)) ∧ W4.drew.cell? ⟨b4, 0, none⟩ = some (.slice A v.length c) ∧ W4.drew.cell? ⟨W.heap.size, 0, none⟩ = some (.func (.yield y) #[] #[]) := ⟨hr3, hr4, hr2⟩
    refine wpIn_region_J (fun W' => W'.cell? ⟨b3, 0, none⟩ = some (.pointer (some ⟨b, 0, none⟩)) ∧ W'.cell? ⟨b4, 0, none⟩ = some (.slice A v.length c) ∧ W'.cell? ⟨W.heap.size, 0, none⟩ = some (.func (.yield y) #[] #[])) (by kernel_rfl) ?_
    refine wpAnyJ_take (i := 0) (v := .func (.yield y) #[] #[]) (by kernel_rfl) rfl (by kernel_rfl) (by kernel_rfl) (by kernel_rfl) (fun _ _ _ h => h) ⟨.inl ⟨by rfl, ?_⟩, fun _ => rfl⟩ hS0 ?_
    · rintro w ⟨g1, g2, g3⟩; go_simp
    simp only [Act.put, List.getElem_toArray, List.getElem_cons_zero, List.getElem_cons_succ, List.setIfInBounds_toArray, List.set_cons_zero, List.set_cons_succ]
    refine wpAnyJ_take (i := 1) (v := .int .i64 (x : Int)) (by kernel_rfl) rfl (by kernel_rfl) (by kernel_rfl) (by kernel_rfl) (fun _ _ _ h => h) ⟨.inl ⟨by rfl, ?_⟩, fun _ => rfl⟩ hS0 ?_
    · rintro w ⟨g1, g2, g3⟩; go_simp
    simp only [Act.put, List.getElem_toArray, List.getElem_cons_zero, List.getElem_cons_succ, List.setIfInBounds_toArray, List.set_cons_zero, List.set_cons_succ]
    refine wpAnyJ_take (i := 2) (v := .pointer (some ⟨b, 0, none⟩)) (by kernel_rfl) rfl (by kernel_rfl) (by kernel_rfl) (by kernel_rfl) (fun _ _ _ h => h) ⟨.inl ⟨by rfl, ?_⟩, fun _ => rfl⟩ hS0 ?_
    · rintro w ⟨g1, g2, g3⟩; go_simp
    simp only [Act.put, List.getElem_toArray, List.getElem_cons_zero, List.getElem_cons_succ, List.setIfInBounds_toArray, List.set_cons_zero, List.set_cons_succ]
    refine wpAnyJ_take (i := 3) (v := .int .i64 (x : Int)) (by kernel_rfl) rfl (by kernel_rfl) (by kernel_rfl) (by kernel_rfl) (fun _ _ _ h => h) ⟨.inl ⟨by rfl, ?_⟩, fun _ => rfl⟩ hS0 ?_
    · rintro w ⟨g1, g2, g3⟩; go_simp
    simp only [Act.put, List.getElem_toArray, List.getElem_cons_zero, List.getElem_cons_succ, List.setIfInBounds_toArray, List.set_cons_zero, List.set_cons_succ]
    refine wpAnyJ_take (i := 4) (v := .slice A v.length c) (by kernel_rfl) rfl (by kernel_rfl) (by kernel_rfl) (by kernel_rfl) (fun _ _ _ h => h) ⟨.inl ⟨by rfl, ?_⟩, fun _ => rfl⟩ hS0 ?_
    · rintro w ⟨g1, g2, g3⟩; go_simp
    simp only [Act.put, List.getElem_toArray, List.getElem_cons_zero, List.getElem_cons_succ, List.setIfInBounds_toArray, List.set_cons_zero, List.set_cons_succ]
    refine wpAnyJ_one (i := 5) (by kernel_rfl) rfl rfl ?_
    simp only [List.getElem_toArray, List.getElem_cons_zero, List.getElem_cons_succ]
    generalize hK7 : (fun a' w' => _ ∧ wpAnyJ _ _ _ _ _ _ _ _ _ a' w') = K7
    go_simp
    refine ⟨trivial, rfl, (CallsIn.inRound l (callsIn_wide.2 HFA.out)).mono ?_⟩
    rintro e w5 ⟨rfl, n5, rfl⟩
    rw [← hK7]
    clear hK7 K7
    have HS5 := HDR.out n5
    have HJ5 := Lib.hid (HJ0.out _ _ _ HJ4.out HS5)
    have HB5 := Lib.hid (HB4.out.trans (HS5.1.mono HM0.out))
    have HX5 := Lib.hid (HS5.2.2 _ _ _ _ HX4.out (by simp))
    have HK5 : Hid (KpB w0.heap.size TB Wx (W4.drew.drewN n5)) := HK4.out.trans ⟨HS5.1.mono HM0.out, HS5.2.mono (by simp)⟩
    have HST5 : Hid (Stays W1.heap.size W2 (W4.drew.drewN n5)) := HST4.out.trans (Stays.below (bel_drewN (bel_drew (Below.refl _ _)) n5))
    have hS5 : (W4.drew.drewN n5).cell? ⟨b3, 0, none⟩ = some (.pointer (some ⟨b, 0, none⟩)) ∧ (W4.drew.drewN n5).cell? ⟨b4, 0, none⟩ = some (.slice A v.length c) ∧ (W4.drew.drewN n5).cell? ⟨W.heap.size, 0, none⟩ = some (.func (.yield y) #[] #[]) := ⟨hr3, hr4, hr2⟩
    clear HS5 hS0 HST4 HK4 HX4 HB4 HJ4 HDR HFA hr3 hr4 hr2
    generalize W4.drew.drewN n5 = W5 at *
    refine ⟨hS5, ?_⟩
    try simp only [Act.put, List.getElem_toArray, List.getElem_cons_zero, List.getElem_cons_succ, List.setIfInBounds_toArray, List.set_cons_zero, List.set_cons_succ]
    refine wpAnyJ_take (i := 6) (v := .agg #[.int .i64 (x : Int), .int .i64 d]) (by kernel_rfl) rfl (by kernel_rfl) (by kernel_rfl) (by kernel_rfl) (fun _ _ _ h => h) ⟨.inl ⟨by rfl, ?_⟩, fun _ => rfl⟩ hS5 ?_
    · rintro w ⟨g1, g2, g3⟩; go_simp
    simp only [Act.put, List.getElem_toArray, List.getElem_cons_zero, List.getElem_cons_succ, List.setIfInBounds_toArray, List.set_cons_zero, List.set_cons_succ]
    obtain ⟨fn, tmps, assign, body, hy, hR⟩ := HY.out _ _ W5 HJ5.out HV.out
    rw [HENC.out] at hy
    refine wpAnyJ_one (i := 7) (by kernel_rfl) rfl rfl ?_
    simp only [List.getElem_toArray, List.getElem_cons_zero, List.getElem_cons_succ]
    generalize hK7 : (fun a' w' => _ ∧ wpAnyJ _ _ _ _ _ _ _ _ _ a' w') = K7
    go_simp
    refine ⟨rfl, RoundIn.mono (F := Fence.wide.inRound l) hR ?_⟩
    rintro e W6 hW6
    obtain ⟨rfl, hj6, hk6⟩ := hW6.resolve_right (fun h => HF.out _ _ h.2)
    rw [← hK7]
    clear hK7 K7
    have hbx6 := hk6.1.2.2 _ _ _ _ HX5.out HT.out
    have HB6 := Lib.hid (HB5.out.trans hk6.1.1)
    have hS6 : W6.cell? ⟨b3, 0, none⟩ = some (.pointer (some ⟨b, 0, none⟩)) ∧ W6.cell? ⟨b4, 0, none⟩ = some (.slice A v.length c) ∧ W6.cell? ⟨W.heap.size, 0, none⟩ = some (.func (.yield y) #[] #[]) := ⟨keepc HB6.out (cell_of_row _ _ _ _ _ _ HE.out.k3), keepc HB6.out (cell_of_row _ _ _ _ _ _ HE.out.k4), cell_of_row _ _ _ _ _ _ hbx6⟩
    have HST6 : Hid (Stays W1.heap.size W2 W6) := HST5.out.trans fun k o hk ho hc => hk6.2 k o (by omega) ho hc
    have HK6 := Lib.hid (HK5.out.trans hk6.1)
    have HJ6 := Lib.hid hj6
    have HBX6 := Lib.hid hbx6
    clear hR hy hW6 hj6 hk6 hbx6 hS5 HST5 HK5 HX5 HB5 HJ5
    refine ⟨hS6, ?_⟩
    try simp only [Act.put, List.getElem_toArray, List.getElem_cons_zero, List.getElem_cons_succ, List.setIfInBounds_toArray, List.set_cons_zero, List.set_cons_succ]
    refine wpAnyJ_take (i := 8) (v := .bool false) (by kernel_rfl) rfl (by kernel_rfl) (by kernel_rfl) (by kernel_rfl) (fun _ _ _ h => h) ⟨.inl ⟨by rfl, ?_⟩, fun _ => rfl⟩ hS6 ?_
    · rintro w ⟨g1, g2, g3⟩; go_simp
    simp only [Act.put, List.getElem_toArray, List.getElem_cons_zero, List.getElem_cons_succ, List.setIfInBounds_toArray, List.set_cons_zero, List.set_cons_succ]
    refine wpAnyJ_done (by kernel_rfl) (NoPanic.normal ?_) _
    clear hS6
    gi_wp2
    refine ⟨HST6.out, HK6.out, ?_, HB6.out, HBX6.out⟩
    rw [HPR.out]
    exact HJ6.out
  case done =>
    rintro xs Wx rfl ⟨h1, _, _⟩ hK
    have H1 := Lib.hid h1
    have HK := Lib.hid hK
    clear h1 hK
    go_wp2
    refine ⟨by simp, .inl ⟨_, _, rfl, run_takeDeferred HK.out, ?_⟩⟩
    refine ⟨_, results_none rfl _ _ _, ⟨_, rfl⟩, .inl ⟨_, rfl, ?_⟩⟩
    exact HJ0.out _ _ _ H1.out ⟨bel_putObj (Below.refl _ _) (by omega), KeepT.putObj _ HK.out rfl⟩
  case stop =>
    rintro c pre W _ h _
    exact h.elim
end Go.Proofs.YtladmconpolneaaGreat

/- stream.All, as an iterator. -/
set_option linter.unusedVariables false
set_option linter.unusedSimpArgs false
namespace Go.Proofs.YtladmconpolneaaGreat
open Go.RowKit
attribute [local go_sem] Oper.semAt_some
theorem all2_any (scripted : Bool) (seed : Int) (L : Option Addr) (n c : Nat) (trees : Int) (w : World) : Calls Tryz.prog 52 #[.agg #[.bool scripted, .int .u64 seed, .slice L n c], .int .i64 trees] w fun e w' => e = .returned (.func (.func 96) #[] #[.pointer (some ⟨w.heap.size + 1, 0, none⟩), .pointer (some ⟨w.heap.size, 0, none⟩)]) ∧
    w'.heap[w.heap.size]? = some (.cells #[.bool scripted, .int .u64 seed, .slice L n c] 26 (0, 0)) ∧ w'.heap[w.heap.size + 1]? = some (.cells #[.int .i64 trees] 3 (0, 0)) ∧ Below w.heap.size w w' := by
  go_enter Tryz.func52, Tryz.ntmps52
  go_wp2
  go_ret
  refine ⟨by simp, ?_, ?_, ?_⟩
  · rw [Below.heap_alloc _ _ _ (by simp)]; exact heap_alloc_new _ _
  · exact alloc_at0 _ _ _ (by simp)
  · exact ((Below.refl _ _).alloc (Nat.le_refl _) _).alloc (by simp) _
/-- What a round keeps: blocks of other types, and all that is older than m. -/
def KO (m : Nat) (A B : World) : Prop := KeepT [62, 65, 291, 294] A B ∧ ∀ k, k < m → B.heap[k]? = A.heap[k]?
theorem KO.trans {m : Nat} {A B C : World} (h : KO m A B) (k : KO m B C) : KO m A C := ⟨h.1.trans k.1, fun i hi => (k.2 i hi).trans (h.2 i hi)⟩
theorem KO.below {m : Nat} {A B : World} (h : Below A.heap.size A B) (hm : m ≤ A.heap.size) : KO m A B := ⟨KeepT.below h, fun k hk => h.block k (by omega)⟩
theorem Reads.oldB {w w1 : World} {A : Option Addr} {n m : Nat} {vs : List Value} (h : Reads w A n vs) (hk : ∀ k, k < m → w1.heap[k]? = w.heap[k]?) (hB : ∀ ad, A = some ad → 0 < n → ad.block < m) : Reads w1 A n vs :=
  ⟨h.1, h.2.1, fun j hj => by
    obtain ⟨ad, e, hc⟩ := h.2.2 j hj
    have hbl : (ad.add j).block = ad.block := by unfold Addr.add; split <;> rfl
    refine ⟨ad, e, ?_⟩
    rw [← hc]
    unfold World.cell?
    rw [hbl, hk ad.block (hB ad e (by omega))]⟩
abbrev SV := Nat × Value
set_option maxHeartbeats 1600000 in
theorem all2_seq (w0 W : World) (scripted : Bool) (seed : Int) (l : List Int) (L : Option Addr) (c trees b2 b3 m : Nat) (hm : m ≤ w0.heap.size) (hr : Reads w0 L l.length (u64V l)) (hro : ∀ ad, L = some ad → 0 < l.length → ad.block < m) (hl : l.length ≤ 1000) (hu : ∀ x ∈ l, U64 x) (ht : trees ≤ 256)
    (hb2 : w0.heap[b2]? = some (.cells #[.bool scripted, .int .u64 seed, .slice L l.length c] 26 (0, 0))) (hb3 : w0.heap[b3]? = some (.cells #[.int .i64 (trees : Int)] 3 (0, 0))) (hW : KO m w0 W) :
    SeqN Tryz.prog 96 #[.pointer (some ⟨b3, 0, none⟩), .pointer (some ⟨b2, 0, none⟩)] (fun x : SV => #[.int .i64 (x.1 : Int), x.2]) (fun pre x W => pre.length = x.1 ∧ x.1 < trees ∧ ∃ b, SrcAt W b x.2 (srcOf scripted seed l x.1 trees) ∧ w0.heap.size ≤ b) (fun A B => Below A.heap.size A B) (KO m)
      (fun xs _ => xs.length = trees) (fun _ _ => True) W := by
  intro y J Jx hF hJ hJx hY h0
  have HF := Lib.hid hF
  have HR := Lib.hid hr
  have HRO := Lib.hid hro
  have HM := Lib.hid hm
  have HU := Lib.hid hu
  have HL := Lib.hid hl
  have HB := Lib.hid hW
  have HY := Lib.hid hY
  have HJ0 := Lib.hid hJ
  have H2 := Lib.hid hb2
  have H3 := Lib.hid hb3
  have HT := Lib.hid ht
  have hnb : (trees : Int) ≤ 256 := by omega
  have c3 : W.cell? ⟨b3, 0, none⟩ = some (.int .i64 (trees : Int)) := cell_of_row _ _ _ _ _ _ (hW.1.2 _ _ _ _ hb3 (by decide))
  have hmx : max (trees : Int) 0 = (trees : Int) := by omega
  clear hY hJ hJx hW hr hro hm hF hb2 hb3 hl hu
  go_enter Tryz.func96, Tryz.ntmps96
  go_wp2
  clear c3
  go_loopg [6] trees (fun gk i wr => ∃ (k : Nat) (pre : List SV), gk = trees - k ∧ k ≤ trees ∧ i = .int .i64 (k : Int) ∧ Hid (pre.length = k) ∧ Hid (J pre wr) ∧ Hid (KO m w0 wr))
  case atStart => exact ⟨0, [], rfl, Nat.zero_le _, rfl, Lib.hid rfl, Lib.hid h0, HB⟩
  case round =>
    obtain ⟨k, pre, rfl, hk, rfl, HP, HJ, HB1⟩ := hrel
    by_cases hkn : k = trees
    · subst hkn
      go_wp2
      go_end0
      exact ⟨⟨_, rfl⟩, .inl ⟨pre, HP.out, HJ.out⟩⟩
    · have hkn' : k < trees := by omega
      have hkl : (k : Int) < (trees : Int) := by omega
      have hk9 : (0 : Int) ≤ (k : Int) := by omega
      have hkb : (k : Int) ≤ 256 := by omega
      have q3 : wr.cell? ⟨b3, 0, none⟩ = some (.int .i64 (trees : Int)) := cell_of_row _ _ _ _ _ _ (HB1.out.1.2 _ _ _ _ H3.out (by decide))
      have q0 : wr.cell? ⟨b2, 0, none⟩ = some (.bool scripted) := cell_of_row _ _ _ _ _ _ (HB1.out.1.2 _ _ _ _ H2.out (by decide))
      have q1 : wr.cell? ⟨b2, 1, none⟩ = some (.int .u64 seed) := cell_of_row _ _ _ _ _ _ (HB1.out.1.2 _ _ _ _ H2.out (by decide))
      have q2 : wr.cell? ⟨b2, 2, none⟩ = some (.slice L l.length c) := cell_of_row _ _ _ _ _ _ (HB1.out.1.2 _ _ _ _ H2.out (by decide))
      have HST := Lib.hid (stream_any scripted seed l L c k trees wr (HR.out.oldB HB1.out.2 HRO.out) hkn' (by omega) HL.out)
      refine (wpIn_wide (n := 1)).1 ?_
      gi_wp2_with (first
        | (refine ⟨trivial, ?_⟩; gi_at_call 97; refine (callsIn_wide.2 HST.out).mono ?_; rintro e w5 ⟨b, v, rfl, hs5, hb5, hl5⟩
           obtain ⟨fn, tmps, assign, body, hy, hR⟩ := HY.out pre (k, v) w5 (HJ0.out _ _ _ HJ.out hl5) ⟨HP.out, hkn', b, hs5, Nat.le_trans HB1.out.1.1 hb5⟩
           have hy' : (Instr.yield y #[.int .i64 (k : Int), v]).run Tryz.prog w5 = .ok (.round y fn tmps assign body) w5 := hy
           have HB5 := Lib.hid (HB1.out.trans (KO.below hl5 (Nat.le_trans HM.out HB1.out.1.1)))
           clear hs5 hb5 hl5 hy)
        | fail)
      refine hR.mono ?_
      intro e W3 hW3
      obtain ⟨rfl, hJ3, hk3⟩ := hW3.resolve_right (fun h => HF.out _ _ h.2)
      have HJ3 := Lib.hid hJ3
      have HB3 := Lib.hid (HB5.out.trans hk3)
      have HP3 : Hid ((pre ++ [(k, v)]).length = k + 1) := by show _ = _; rw [List.length_append, HP.out]; rfl
      clear hJ3 hk3 hR hy' hW3 q0 q1 q2 q3
      gi_wp2
      go_roundg (trees - (k + 1))
      case measure => omega
      case rel => exact ⟨k + 1, pre ++ [(k, v)], rfl, by omega, by simp, HP3, HJ3, HB3⟩
end Go.Proofs.YtladmconpolneaaGreat

/- slices.Reverse of entries. -/
set_option linter.unusedVariables false
set_option linter.unusedSimpArgs false
namespace Go.Proofs.YtladmconpolneaaGreat
open Go.RowKit
theorem RowAt.swap3 {w : World} {B g c : Nat} {l : List El} (hh : RowAt w B 270 3 (.slice (some ⟨g, 0, none⟩) l.length c) l) (i j : Nat) (hi : i < l.length) (hj : j < l.length) :
    RowAt ((w.setCells g (i * 3) (i64V (l.getD j []))).setCells g (j * 3) (i64V (l.getD i []))) B 270 3 (.slice (some ⟨g, 0, none⟩) l.length c) (swapL l i j) ∧
    Below B w ((w.setCells g (i * 3) (i64V (l.getD j []))).setCells g (j * 3) (i64V (l.getD i []))) ∧ ∀ k, k ≠ g → ((w.setCells g (i * 3) (i64V (l.getD j []))).setCells g (j * 3) (i64V (l.getD i []))).heap[k]? = w.heap[k]? := by
  have gi : l.getD i [] = l[i] := by rw [List.getD_eq_getElem?_getD, List.getElem?_eq_getElem hi]; rfl
  have gj : l.getD j [] = l[j] := by rw [List.getD_eq_getElem?_getD, List.getElem?_eq_getElem hj]; rfl
  have li : (l.getD i []).length = 3 := by rw [gi]; exact (hh.cell i hi).2.2
  have lj : (l.getD j []).length = 3 := by rw [gj]; exact (hh.cell j hj).2.2
  have hB := (hh.lt g rfl).1
  have r1 := hh.put i hi _ lj
  have e1 : (l.set i (l.getD j [])).length = l.length := by simp
  have r2 := r1.put j (by rw [e1]; exact hj) _ li
  have e2 : ((l.set i (l.getD j [])).set j (l.getD i [])).length = l.length := by simp
  rw [e2] at r2
  refine ⟨r2, bel_setCells g hB _ _ (bel_setCells g hB _ _ (Below.refl _ _)), fun k hk => ?_⟩
  rw [setCells_other w g _ _ _ _ hk, setCells_other w g _ _ _ _ hk]
/-- What lies after i swaps from both ends. -/
def RevRel (l L : List El) (i : Nat) : Prop := L.length = l.length ∧ ∀ j, j < l.length → L.getD j [] = if j < i ∨ l.length ≤ j + i then l.getD (l.length - 1 - j) [] else l.getD j []
theorem RevRel.zero (l : List El) : RevRel l l 0 := ⟨rfl, fun j hj => by rw [if_neg (by omega)]⟩
theorem getD_swap (L : List El) (a b j : Nat) (ha : a < L.length) (hb : b < L.length) : (swapL L a b).getD j [] = if j = b then L.getD a [] else if j = a then L.getD b [] else L.getD j [] := by
  unfold swapL
  simp only [List.getD_eq_getElem?_getD, List.getElem?_set, List.length_set]
  by_cases h1 : b = j
  · subst h1; rw [if_pos rfl, if_pos hb, if_pos rfl]; rfl
  · rw [if_neg h1, if_neg (Ne.symm h1)]
    by_cases h2 : a = j
    · subst h2; rw [if_pos rfl, if_pos ha, if_pos rfl]; rfl
    · rw [if_neg h2, if_neg (Ne.symm h2)]
theorem RevRel.step {l L : List El} {i : Nat} (h : RevRel l L i) (hi : i < l.length - 1 - i) : RevRel l (swapL L i (l.length - 1 - i)) (i + 1) := by
  refine ⟨by rw [swapL_length]; exact h.1, fun j hj => ?_⟩
  rw [getD_swap L i (l.length - 1 - i) j (by rw [h.1]; omega) (by rw [h.1]; omega)]
  by_cases h1 : j = l.length - 1 - i
  · rw [if_pos h1, if_pos (by omega), h.2 i (by omega), if_neg (by omega)]
    congr 1
    omega
  · rw [if_neg h1]
    by_cases h2 : j = i
    · rw [if_pos h2, if_pos (by omega), h.2 (l.length - 1 - i) (by omega), if_neg (by omega), h2]
    · rw [if_neg h2, h.2 j hj]
      by_cases h3 : j < i ∨ l.length ≤ j + i
      · rw [if_pos h3, if_pos (by omega)]
      · rw [if_neg h3, if_neg (by omega)]
theorem RevRel.done {l L : List El} {i : Nat} (h : RevRel l L i) (hi : l.length ≤ 2 * i + 1) : L = l.reverse := by
  refine List.ext_getElem? fun j => ?_
  by_cases hj : j < l.length
  · have h1 := h.2 j hj
    have e1 : L[j]? = some (L.getD j []) := by rw [List.getD_eq_getElem?_getD, List.getElem?_eq_getElem (by rw [h.1]; exact hj)]; rfl
    have e2 : l.reverse[j]? = some (l.getD (l.length - 1 - j) []) := by
      rw [List.getElem?_reverse hj, List.getD_eq_getElem?_getD, List.getElem?_eq_getElem (by omega)]; rfl
    rw [e1, e2, h1]
    by_cases h3 : j < i ∨ l.length ≤ j + i
    · rw [if_pos h3]
    · rw [if_neg h3]
      have : l.length - 1 - j = j := by omega
      rw [this]
  · rw [List.getElem?_eq_none (by rw [h.1]; omega), List.getElem?_eq_none (by simp; omega)]
/-- Only one row turns. -/
def StepR (rb : Option Nat) (A B : World) : Prop := Below 0 A B ∧ ∀ k, k < A.heap.size → rb ≠ some k → B.heap[k]? = A.heap[k]?
theorem StepR.refl (rb : Option Nat) (A : World) : StepR rb A A := ⟨Below.refl _ _, fun _ _ _ => rfl⟩
theorem StepR.trans {rb : Option Nat} {A B C : World} (h : StepR rb A B) (k : StepR rb B C) : StepR rb A C := ⟨h.1.trans k.1, fun i hi hr => (k.2 i (Nat.lt_of_lt_of_le hi h.1.size) hr).trans (h.2 i hi hr)⟩
theorem StepR.below {rb : Option Nat} {A B : World} (h : Below A.heap.size A B) : StepR rb A B := ⟨h.mono (Nat.zero_le _), fun k hk _ => h.block k hk⟩
theorem StepR.drewn {B g : Nat} {A X : World} (h : Below B A X) (k : ∀ i, i ≠ g → X.heap[i]? = A.heap[i]?) : StepR (some g) A X.drew := ⟨(bel_drew h).mono (Nat.zero_le _), fun i hi hr => k i (by rintro rfl; exact hr rfl)⟩
theorem RowAt.drew {w : World} {B : Nat} {e : TypeId} {sz : Nat} {v : Value} {l : List El} (h : RowAt w B e sz v l) : RowAt w.drew B e sz v l := h.move fun k hk => rfl
set_option maxHeartbeats 1600000 in
theorem reverse_any (B : Nat) (v : Value) (l : List El) (w : World) (hr : RowAt w B 270 3 v l) (hn : l.length ≤ 60000) (hB : B ≤ w.heap.size) :
    Calls Tryz.prog 172 #[v] w fun e w' => e = .returned (.tuple #[]) ∧ RowAt w' B 270 3 v l.reverse ∧ Below B w w' ∧ StepR v.ownBlock w w' := by
  obtain ⟨A, c, rfl⟩ := hr.slice
  have HR := Lib.hid hr
  have HBB := Lib.hid hB
  have HN := Lib.hid hn
  obtain ⟨n, hnl⟩ : ∃ n, l.length = n := ⟨_, rfl⟩
  have HNL := Lib.hid hnl
  rw [hnl]
  have hnb : (n : Int) ≤ 60000 := by omega
  have hn0 : (0 : Int) ≤ (n : Int) := by omega
  rw [hnl] at HR
  have HI := Lib.hid Tryz.size270
  clear hr hn hnl hB
  go_enter Tryz.func172, Tryz.ntmps172
  go_wp2
  go_loopg [2, 3] n (fun gk a b wr => ∃ (i : Nat) (L : List El), gk = n - i ∧ i ≤ n ∧ a = .int .i64 (i : Int) ∧ b = .int .i64 ((n : Int) - 1 - (i : Int)) ∧ Hid (RevRel l L i) ∧ Hid (RowAt wr B 270 3 (.slice A n c) L) ∧ Hid (Below B w wr) ∧ Hid (StepR (Value.slice A n c).ownBlock w wr))
  case atStart => exact ⟨0, l, rfl, Nat.zero_le _, rfl, by simp, Lib.hid (RevRel.zero l), HR, Lib.hid (Below.refl _ _), Lib.hid (StepR.refl _ _)⟩
  case round =>
    obtain ⟨i, L, rfl, hi, rfl, rfl, HV, HR1, HB1, HS1⟩ := hrel
    by_cases hlt : i < n - 1 - i
    · obtain ⟨u, hu⟩ : ∃ u, n - 1 - i = u := ⟨_, rfl⟩
      have hui : (n : Int) - 1 - (i : Int) = (u : Int) := by omega
      rw [hui]
      have hin : i < n := by omega
      have hun : u < n := by omega
      have hLn : L.length = n := HV.out.1.trans HNL.out
      have hR1 := HR1.out
      rw [← hLn] at hR1
      obtain ⟨g, rfl⟩ := hR1.addr (by omega)
      obtain ⟨x1, x2, x3⟩ := hR1.cell i (by omega)
      obtain ⟨y1, y2, y3⟩ := hR1.cell u (by omega)
      have gi : L.getD i [] = L[i] := by rw [List.getD_eq_getElem?_getD, List.getElem?_eq_getElem (by omega)]; rfl
      have gu : L.getD u [] = L[u] := by rw [List.getD_eq_getElem?_getD, List.getElem?_eq_getElem (by omega)]; rfl
      have hsw := hR1.swap3 i u (by omega) (by omega)
      have hV2 : RevRel l (swapL L i u) (i + 1) := by have := HV.out.step (by rw [HNL.out]; omega); rw [HNL.out, hu] at this; exact this
      have HV2 := Lib.hid hV2
      rw [hLn, gi, gu] at hsw
      generalize L[i] = x at *
      generalize L[u] = y at *
      have HSW := Lib.hid hsw
      obtain ⟨xa, xb, xc, rfl⟩ := El.three x3
      obtain ⟨ya, yb, yc, rfl⟩ := El.three y3
      have kx0 : wr.cell? ⟨g, i * 3, none⟩ = some (.int .i64 xa) := x1 0 _ rfl
      have kx1 : wr.cell? ⟨g, i * 3 + 1, none⟩ = some (.int .i64 xb) := x1 1 _ rfl
      have kx2 : wr.cell? ⟨g, i * 3 + 2, none⟩ = some (.int .i64 xc) := x1 2 _ rfl
      have ky0 : wr.cell? ⟨g, u * 3, none⟩ = some (.int .i64 ya) := y1 0 _ rfl
      have ky1 : wr.cell? ⟨g, u * 3 + 1, none⟩ = some (.int .i64 yb) := y1 1 _ rfl
      have ky2 : wr.cell? ⟨g, u * 3 + 2, none⟩ = some (.int .i64 yc) := y1 2 _ rfl
      obtain ⟨cur, hcur⟩ := hR1.blk g rfl
      have fg : ∀ o, wr.frozen? ⟨g, o, none⟩ = false := fun o => frozen_of_row _ _ _ _ _ hcur
      have hi9 : (0 : Int) ≤ (i : Int) := by omega
      have hil : (i : Int) < (n : Int) := by omega
      have hu9 : (0 : Int) ≤ (u : Int) := by omega
      have hul : (u : Int) < (n : Int) := by omega
      have hiu : (i : Int) < (u : Int) := by omega
      have HUE : Hid ((n : Int) - 1 - ((i + 1 : Nat) : Int) = (u : Int) - 1) := by show _ = _; omega
      clear hsw x1 x2 x3 y1 y2 y3 gi gu hR1 hcur hV2
      go_wp2_with fail
      go_region
      obtain ⟨W, hW⟩ : ∃ W, ((((((wr.setCell { block := g, off := i * 3 } (Value.int IntKind.i64 ya)).setCell { block := g, off := i * 3 + 1 } (Value.int IntKind.i64 yb)).setCell { block := g, off := i * 3 + 2 } (Value.int IntKind.i64 yc)).setCell { block := g, off := u * 3 } (Value.int IntKind.i64 xa)).setCell { block := g, off := u * 3 + 1 } (Value.int IntKind.i64 xb)).setCell { block := g, off := u * 3 + 2 } (Value.int IntKind.i64 xc)).drew = W := ⟨_, rfl⟩
      rw [hW]
      obtain ⟨s1, s2, s3⟩ := HSW.out
      have S1 : Hid (RowAt W B 270 3 (.slice (some ⟨g, 0, none⟩) n c) (swapL L i u)) := by
        show RowAt _ _ _ _ _ _
        rw [← hW]; exact s1.drew
      have S2 : Hid (Below B w W) := by
        show Below _ _ _
        rw [← hW]; exact HB1.out.trans (bel_drew s2)
      have S3 : Hid (StepR (Value.slice (some ⟨g, 0, none⟩) n c).ownBlock w W) := by
        show StepR _ _ _
        rw [← hW]
        exact HS1.out.trans (StepR.drewn s2 s3)
      clear hW s1 s2 s3 kx0 kx1 kx2 ky0 ky1 ky2 fg HSW HR1 HB1 HS1
      go_wp2
      go_roundg (n - (i + 1))
      case measure => omega
      case rel => exact ⟨i + 1, _, rfl, by omega, by simp, by rw [HUE.out], HV2, S1, S2, S3⟩
    · have hnl : ¬ (i : Int) < (n : Int) - 1 - (i : Int) := by omega
      have HE := Lib.hid (HV.out.done (by rw [HNL.out]; omega))
      go_wp2
      go_end0
      exact ⟨rfl, by have := HR1.out; rw [HE.out] at this; exact this, HB1.out, HS1.out⟩
end Go.Proofs.YtladmconpolneaaGreat

/- topk: Offer. -/
set_option linter.unusedVariables false
set_option linter.unusedSimpArgs false
namespace Go.Proofs.YtladmconpolneaaGreat
open Go.RowKit
def offerL (most : Nat) (l : List El) (e : El) : List El := if l.length < most then pushL ltE l e else match l with
  | [] => []
  | x :: r => if aheadE e x then pushL ltE (popL ltE (x :: r)) e else x :: r
theorem sinkFE_length (lt : El → El → Bool) (f : Nat) : ∀ (l : List El) (k : Nat), (sinkF lt f l k).length = l.length := by
  induction f with
  | zero => intro l k; rfl
  | succ f ih =>
    intro l k
    simp only [sinkF]
    split
    · rfl
    · rw [ih, swapL_length]
theorem popLE_length (lt : El → El → Bool) (l : List El) : (popL lt l).length = l.length - 1 := by unfold popL; rw [sinkFE_length, List.length_take, List.length_set]; omega
def OfferPost (w : World) (B s q h : Nat) (most at_ : Int) (v : Value) (l : List El) (e : Ending) (w' : World) : Prop :=
  ∃ bo v', e = .returned (.bool bo) ∧ SelAt w' B s q h most at_ v' l ∧ Below B w w' ∧ KeepT [267, 270, 324] w w' ∧ WStep s h w v w' v'
theorem SelAt.atTo {w : World} {B s q h : Nat} {most at_ : Int} {v : Value} {l : List El} (x : SelAt w B s q h most at_ v l) (a' : Int) : SelAt (w.setCell ⟨s, 3, none⟩ (.int .i64 a')) B s q h most a' v l ∧ KeepT [267, 270, 324] w (w.setCell ⟨s, 3, none⟩ (.int .i64 a')) ∧ Below B w (w.setCell ⟨s, 3, none⟩ (.int .i64 a')) := by
  have h1 : q ≠ s := by
    rintro rfl
    have := x.var
    rw [x.box] at this
    injection this with this
    injection this with _ e
    cases e
  have h2 : h ≠ s := by
    rintro rfl
    have := x.heap.box
    rw [x.box] at this
    injection this with this
    injection this with _ e
    cases e
  refine ⟨⟨heap_setCell_same w s 3 _ _ _ x.box, ?_, x.base, x.heap.move (Below.heap_setCell _ _ _ _ h2) (fun k hk => Below.heap_setCell _ _ _ _ ?_)⟩, KeepT.set x.box (by decide), (Below.refl _ _).setCell (p := ⟨s, 3, none⟩) x.base.1 _⟩
  · rw [Below.heap_setCell _ _ _ _ h1]; exact x.var
  · show k ≠ s
    rintro rfl
    obtain ⟨cur, hc⟩ := x.heap.row.blk _ hk
    rw [x.box] at hc
    injection hc with hc
    injection hc with _ e
    cases e
set_option maxHeartbeats 3200000 in
set_option maxRecDepth 100000 in
theorem offer_any (B s q h most : Nat) (at_ i f : Int) (v : Value) (l : List El) (w : World) (x : SelAt w B s q h (most : Int) at_ v l) (hB : B ≤ w.heap.size) (hl : l.length ≤ 50000) (hm : most ≤ 60000) (ha : 0 ≤ at_ ∧ at_ ≤ 60000) :
    Calls Tryz.prog 122 #[.pointer (some ⟨s, 0, none⟩), .agg #[.int .i64 i, .int .i64 f]] w (OfferPost w B s q h (most : Int) (at_ + 1) v (offerL most l [i, f, at_])) := by
  obtain ⟨a1, a2⟩ := ha
  have HX := Lib.hid x
  have HB := Lib.hid hB
  have HL := Lib.hid hl
  have hb0 : Below w.heap.size w (w.alloc (.cells #[.int .i64 i, .int .i64 f] 54)) := (Below.refl _ _).alloc (Nat.le_refl _) _
  obtain ⟨W0, hW0⟩ : ∃ W, w.alloc (.cells #[.int .i64 i, .int .i64 f] 54) = W := ⟨_, rfl⟩
  have HB0 : Hid (Below w.heap.size w W0) := by rw [← hW0]; exact hb0
  have HSZ0 : Hid (W0.heap.size = w.heap.size + 1) := by show _ = _; rw [← hW0]; simp
  have hg3 : W0.heap[w.heap.size]? = some (.cells #[.int .i64 i, .int .i64 f] 54 (0, 0)) := by rw [← hW0]; exact heap_alloc_new _ _
  have HX0 := Lib.hid (x.below HB0.out)
  have r0 : W0.cell? ⟨w.heap.size, 0, none⟩ = some (.int .i64 i) := cell_of_row _ _ _ _ _ _ hg3
  have r1 : W0.cell? ⟨w.heap.size, 1, none⟩ = some (.int .i64 f) := cell_of_row _ _ _ _ _ _ hg3
  have c3 : W0.cell? ⟨s, 3, none⟩ = some (.int .i64 at_) := cell_of_row _ _ _ _ _ _ HX0.out.box
  have hal : ∀ {c : Addr} {u : Value}, W0.cell? c = some u → (W0.alloc (.cells zero3 270)).cell? c = some u := fun hc => keepc ((Below.refl _ _).alloc (Nat.le_refl _) _) hc
  have m0 := hal r0
  have m1 := hal r1
  have m3 := hal c3
  have HI := Lib.hid Tryz.size270
  have hmb : (most : Int) ≤ 60000 := by omega
  have HW0 := Lib.hid hW0
  clear x hB hl hb0 hW0 hg3 hal hm
  go_enter Tryz.func122, Tryz.ntmps122
  go_wp2_with fail
  rw [HW0.out]
  go_region
  have HBZ : Hid (Below W0.heap.size W0 (W0.alloc (.cells #[.int .i64 i, .int .i64 f, .int .i64 at_] 270)).drew) := bel_drew ((Below.refl _ _).alloc (Nat.le_refl _) _)
  have G1 : Hid ((W0.alloc (.cells #[.int .i64 i, .int .i64 f, .int .i64 at_] 270)).drew.heap[W0.heap.size]? = some (.cells #[.int .i64 i, .int .i64 f, .int .i64 at_] 270 (0, 0))) := alloc_at1 _ _ _ rfl
  generalize (W0.alloc (.cells #[.int .i64 i, .int .i64 f, .int .i64 at_] 270)).drew = W1 at *
  have HX1 := Lib.hid (HX0.out.below HBZ.out)
  have HB1 := Lib.hid (HB0.out.trans (HBZ.out.mono HB0.out.size))
  have d3 : W1.cell? ⟨s, 3, none⟩ = some (.int .i64 at_) := cell_of_row _ _ _ _ _ _ HX1.out.box
  have f3 : W1.frozen? ⟨s, 3, none⟩ = false := frozen_of_row _ _ _ _ _ HX1.out.box
  have hsl : s < w.heap.size := lt_of_block HX.out.box
  have HAT := Lib.hid (HX1.out.atTo (at_ + 1))
  have G2 : Hid ((W1.setCell ⟨s, 3, none⟩ (.int .i64 (at_ + 1))).heap[W0.heap.size]? = some (.cells #[.int .i64 i, .int .i64 f, .int .i64 at_] 270 (0, 0))) := by
    have := HSZ0.out
    exact (Below.heap_setCell _ _ _ _ (by show W0.heap.size ≠ s; omega)).trans G1.out
  have HS2 : Hid (WStep s h w v (W1.setCell ⟨s, 3, none⟩ (.int .i64 (at_ + 1))) v) := (WStep.below HB1.out).trans WStep.set
  have HB2 := Lib.hid ((HB1.out.mono HB.out).trans HAT.out.2.2)
  have HK2 := Lib.hid ((KeepT.below (T := [267, 270, 324]) HB1.out).trans HAT.out.2.1)
  clear r0 r1 c3 m0 m1 m3 HW0
  go_wp2_with fail
  clear d3 f3
  generalize W1.setCell ⟨s, 3, none⟩ (.int .i64 (at_ + 1)) = W2 at *
  have HX2 := Lib.hid HAT.out.1
  have HK5 : Hid (w.heap.size < W0.heap.size) := by have := HSZ0.out; show _ < _; omega
  clear HAT G1 HX1 HB1 HX0 HBZ HB0 HSZ0
  generalize W0.heap.size = k5 at *
  have HSL := Lib.hid (slen_any B s q h (most : Int) (at_ + 1) v l W2.drew (HX2.out.below (bel_drew (Below.refl _ _))))
  have c1 : W2.cell? ⟨s, 1, none⟩ = some (.int .i64 (most : Int)) := cell_of_row _ _ _ _ _ _ HX2.out.box
  have c2 : W2.cell? ⟨s, 2, none⟩ = some (.pointer (some ⟨h, 0, none⟩)) := cell_of_row _ _ _ _ _ _ HX2.out.box
  have e0 : W2.cell? ⟨k5, 0, none⟩ = some (.int .i64 i) := cell_of_row _ _ _ _ _ _ G2.out
  have e1 : W2.cell? ⟨k5, 1, none⟩ = some (.int .i64 f) := cell_of_row _ _ _ _ _ _ G2.out
  have e2 : W2.cell? ⟨k5, 2, none⟩ = some (.int .i64 at_) := cell_of_row _ _ _ _ _ _ G2.out
  have HKEEP := Lib.hid (fun (W : World) (hb : Below W2.heap.size W2 W) => And.intro (keepc hb c1) (And.intro (keepc hb c2) (And.intro (keepc hb e0) (And.intro (keepc hb e1) (keepc hb e2)))))
  go_region_held3 (fun W => W.cell? ⟨s, 1, none⟩ = some (.int .i64 (most : Int))) (first | go_keep | exact (HKEEP.out _ HBN.out).1)
    (first | (go_at_call 167; refine HSL.out.mono ?_; rintro e w3 ⟨rfl, rfl⟩; have HBN : Hid (Below W2.heap.size W2 W2.drew) := bel_drew (Below.refl _ _)))
  have HX3 := Lib.hid (HX2.out.below HBN.out)
  have G3 := Lib.hid ((HBN.out.block _ (lt_of_block G2.out)).trans G2.out)
  have HS3 := Lib.hid (HS2.out.trans (WStep.below HBN.out))
  have HB3 : Hid (B ≤ W2.drew.heap.size ∧ w.heap.size ≤ W2.drew.heap.size) := ⟨Nat.le_trans HB.out HS2.out.1, HS2.out.1⟩
  have HBB3 := Lib.hid (HB2.out.trans (HBN.out.mono HB3.out.1))
  have HK3 := Lib.hid (HK2.out.trans (KeepT.below HBN.out))
  have hhl : h < w.heap.size := lt_of_block HX.out.heap.box
  have HVL : Hid (∀ k, v.ownBlock = some k → k < w.heap.size) := fun k hk => (HX.out.heap.row.lt k hk).2
  clear c1 c2 e0 e1 e2 HKEEP HSL HBN G2 HX2 HS2 HB2 HK2
  rename_i hheld
  clear hheld
  generalize W2.drew = W3 at *
  by_cases hlm : l.length < most
  · have hoff : Hid (offerL most l [i, f, at_] = pushL ltE l [i, f, at_]) := by show offerL most l [i, f, at_] = _; unfold offerL; rw [if_pos hlm]
    have HCL : Hid (∀ W, W.heap = W3.heap → Calls Tryz.prog 168 #[.pointer (some ⟨h, 0, none⟩), .agg #[.int .i64 i, .int .i64 f, .int .i64 at_]] W fun e w' => e = .returned (.tuple #[]) ∧ HeapPostE q W B h v (pushL ltE l [i, f, at_]) w') := fun W hW =>
      hpushE_any q B h v l ltE i f at_ W (HX3.out.heap.move (by rw [hW]) (fun k _ => by rw [hW])) (firstE_ok (w := W) (by rw [hW]; exact HX3.out.var) (by rw [hW]; exact HX3.out.box) rfl) (by rw [hW]; exact HB3.out.1) (by have := HL.out; omega)
    have HKEEPP := Lib.hid (fun (W : World) (hk : KeepT [270, 324] W3 W) => cell_of_row W s 2 _ _ _ (hk.2 _ _ _ _ HX3.out.box (by decide)))
    have p2 : W3.cell? ⟨s, 2, none⟩ = some (.pointer (some ⟨h, 0, none⟩)) := cell_of_row _ _ _ _ _ _ HX3.out.box
    have p5 : W3.cell? ⟨k5, 0, none⟩ = some (.int .i64 i) := cell_of_row _ _ _ _ _ _ G3.out
    have p6 : W3.cell? ⟨k5, 1, none⟩ = some (.int .i64 f) := cell_of_row _ _ _ _ _ _ G3.out
    have p7 : W3.cell? ⟨k5, 2, none⟩ = some (.int .i64 at_) := cell_of_row _ _ _ _ _ _ G3.out
    have HNO : Hid (h ≠ k5 ∧ ∀ k, v.ownBlock = some k → k ≠ k5) := ⟨by have := HK5.out; omega, fun k hk => by have h1 := HVL.out k hk; have h2 := HK5.out; omega⟩
    have HGK : Hid (∀ W v5, HStep h W3 v W v5 → W.heap[k5]? = some (.cells #[.int .i64 i, .int .i64 f, .int .i64 at_] 270 (0, 0))) := fun W v5 hs => (hs.2.1 k5 (lt_of_block G3.out) (fun e => HNO.out.1 e.symm) (fun e => HNO.out.2 k5 e rfl)).trans G3.out
    go_wp2_with fail
    go_region_held3 (fun W => W.cell? ⟨s, 2, none⟩ = some (.pointer (some ⟨h, 0, none⟩)) ∧ W.cell? ⟨k5, 0, none⟩ = some (.int .i64 i) ∧ W.cell? ⟨k5, 1, none⟩ = some (.int .i64 f) ∧ W.cell? ⟨k5, 2, none⟩ = some (.int .i64 at_)) (first | go_keep | exact ⟨HKEEPP.out _ HK9.out, cell_of_row _ _ _ _ _ _ (HGK.out _ _ HS9.out), cell_of_row _ _ _ _ _ _ (HGK.out _ _ HS9.out), cell_of_row _ _ _ _ _ _ (HGK.out _ _ HS9.out)⟩)
      (first | (go_at_call 168; refine (HCL.out _ (by rfl)).mono ?_; rintro e w9 ⟨rfl, v9, hh9, hb9, hk9, hs9⟩; have HB9 : Hid (Below B W3 w9) := (bel_drew (Below.refl _ _)).trans hb9; have HK9 : Hid (KeepT [270, 324] W3 w9) := hk9; have HS9 : Hid (HStep h W3 v w9 v9) := hs9; have H9 := Lib.hid hh9; clear hh9 hb9 hk9 hs9))
    go_wp2
    go_ret
    refine ⟨true, v9, rfl, ?_, HBB3.out.trans HB9.out, HK3.out.trans (HK9.out.mono (by decide)), HS3.out.trans (WStep.heap HS9.out)⟩
    rw [hoff.out]
    exact HX3.out.heapTo HK9.out H9.out
  · have hml : most ≤ l.length := by omega
    have HPK := Lib.hid (peekE_any B h (FE q) v l W3 HX3.out.heap)
    have c2 : W3.cell? ⟨s, 2, none⟩ = some (.pointer (some ⟨h, 0, none⟩)) := cell_of_row _ _ _ _ _ _ HX3.out.box
    have hlm2 : decide (l.length < most) = false := decide_eq_false hlm
    cases l with
    | nil =>
      have hoff : Hid (offerL most [] [i, f, at_] = []) := by show offerL most [] [i, f, at_] = _; unfold offerL; rw [if_neg hlm]
      clear hlm
      go_wp2_with (first
        | (go_at_call 169; refine HPK.out.mono ?_; rintro e w4 ⟨-, hp, hb4⟩; obtain rfl := hp rfl; have HB4 := Lib.hid hb4; clear hp hb4)
        | fail)
      go_ret
      have hba : Below W3.heap.size W3 (w4.alloc (.cells zero3 270)) := HB4.out.alloc HB4.out.size _
      refine ⟨false, v, rfl, ?_, HBB3.out.trans (hba.mono HB3.out.1), HK3.out.trans (KeepT.below hba), HS3.out.trans (WStep.below hba)⟩
      rw [hoff.out]
      exact HX3.out.below hba
    | cons x r =>
      obtain ⟨A, c, rfl⟩ := HX3.out.heap.row.slice
      obtain ⟨g, rfl⟩ := HX3.out.heap.row.addr (by simp)
      obtain ⟨-, -, x3⟩ := HX3.out.heap.row.cell 0 (by simp)
      have x3' : x.length = 3 := x3
      obtain ⟨xa, xb, xc, rfl⟩ := El.three x3'
      have hoff : Hid (offerL most ([xa, xb, xc] :: r) [i, f, at_] = if aheadE [i, f, at_] [xa, xb, xc] then pushL ltE (popL ltE ([xa, xb, xc] :: r)) [i, f, at_] else [xa, xb, xc] :: r) := by show offerL most ([xa, xb, xc] :: r) [i, f, at_] = _; unfold offerL; rw [if_neg hlm]
      have HAH : Hid (∀ W, Below W3.heap.size W3 W → Calls Tryz.prog 166 #[.pointer (some ⟨s, 0, none⟩), .agg #[.int .i64 i, .int .i64 f, .int .i64 at_], .agg #[.int .i64 xa, .int .i64 xb, .int .i64 xc]] W fun e w' => e = .returned (.bool (aheadE [i, f, at_] [xa, xb, xc])) ∧ Below W.heap.size W w') := fun W hb => aheadE_any s i f at_ xa xb xc W _ ((HX3.out.below hb).box) rfl
      obtain ⟨bo, hbo⟩ : ∃ bo, aheadE [i, f, at_] [xa, xb, xc] = bo := ⟨_, rfl⟩
      rw [hbo] at hoff HAH
      clear hlm x3 x3' hbo
      have HKK : Hid (∀ W, Below W3.heap.size W3 W → W.cell? ⟨k5, 0, none⟩ = some (.int .i64 i) ∧ W.cell? ⟨k5, 1, none⟩ = some (.int .i64 f) ∧ W.cell? ⟨k5, 2, none⟩ = some (.int .i64 at_)) := fun W hb => by
        have := (hb.block _ (lt_of_block G3.out)).trans G3.out
        exact ⟨cell_of_row _ _ _ _ _ _ this, cell_of_row _ _ _ _ _ _ this, cell_of_row _ _ _ _ _ _ this⟩
      cases bo with
      | false =>
        have ho := hoff.out
        rw [if_neg (by decide)] at ho
        have HO := Lib.hid ho
        clear ho
        go_wp2_with (first
          | (go_at_call 169; refine HPK.out.mono ?_; rintro e w4 ⟨hp, -, hb4⟩; obtain rfl := hp _ _ rfl
             have HB4 := Lib.hid hb4
             clear hp hb4)
          | (refine wpList_store_row rfl 270 (.tmp 6) (.tmp 40) rfl w4.heap.size rfl 270 zero3 #[.int .i64 xa, .int .i64 xb, .int .i64 xc] rfl (heap_alloc_new _ _) HI.out rfl (by simp [Value.oneCell']) ?_
             have HBA : Hid (Below W3.heap.size W3 ((w4.alloc (.cells zero3 270)).setRow w4.heap.size #[.int .i64 xa, .int .i64 xb, .int .i64 xc])) := bel_setRow (HB4.out.alloc HB4.out.size _) HB4.out.size
             have G6 : Hid (((w4.alloc (.cells zero3 270)).setRow w4.heap.size #[.int .i64 xa, .int .i64 xb, .int .i64 xc]).heap[w4.heap.size]? = some (.cells #[.int .i64 xa, .int .i64 xb, .int .i64 xc] 270 (0, 0))) := setRow_heap (w4.alloc (.cells zero3 270)) w4.heap.size zero3 _ 270 (0, 0) (heap_alloc_new _ _)
             generalize (w4.alloc (.cells zero3 270)).setRow w4.heap.size #[.int .i64 xa, .int .i64 xb, .int .i64 xc] = W5 at *
             obtain ⟨u0, u1, u2⟩ := HKK.out _ HBA.out
             have y0 : W5.cell? ⟨w4.heap.size, 0, none⟩ = some (.int .i64 xa) := cell_of_row _ _ _ _ _ _ G6.out
             have y1 : W5.cell? ⟨w4.heap.size, 1, none⟩ = some (.int .i64 xb) := cell_of_row _ _ _ _ _ _ G6.out
             have y2 : W5.cell? ⟨w4.heap.size, 2, none⟩ = some (.int .i64 xc) := cell_of_row _ _ _ _ _ _ G6.out)
          | (go_at_call 166; refine (HAH.out _ HBA.out).mono ?_; rintro e w5 ⟨rfl, hb5⟩
             have HB5 := Lib.hid (HBA.out.trans (hb5.mono HBA.out.size))
             clear hb5
             have HX5 := Lib.hid (HX3.out.below HB5.out)
             have G5 := Lib.hid ((HB5.out.block _ (lt_of_block G3.out)).trans G3.out)
             have HS5 := Lib.hid (HS3.out.trans (WStep.below HB5.out))
             have HBN5 : Hid (B ≤ w5.heap.size) := Nat.le_trans HB3.out.1 HB5.out.size
             have HBB5 := Lib.hid (HBB3.out.trans (HB5.out.mono HB3.out.1))
             have HK5' := Lib.hid (HK3.out.trans (KeepT.below HB5.out))
             clear u0 u1 u2 y0 y1 y2 c2)
          | fail)
        go_ret
        refine ⟨false, .slice (some ⟨g, 0, none⟩) ([xa, xb, xc] :: r).length c, rfl, ?_, HBB5.out, HK5'.out, HS5.out⟩
        rw [HO.out]
        exact HX5.out
      | true =>
        have ho := hoff.out
        rw [if_pos rfl] at ho
        have HO := Lib.hid ho
        clear ho
        go_wp2_with (first
          | (go_at_call 169; refine HPK.out.mono ?_; rintro e w4 ⟨hp, -, hb4⟩; obtain rfl := hp _ _ rfl
             have HB4 := Lib.hid hb4
             clear hp hb4)
          | (refine wpList_store_row rfl 270 (.tmp 6) (.tmp 40) rfl w4.heap.size rfl 270 zero3 #[.int .i64 xa, .int .i64 xb, .int .i64 xc] rfl (heap_alloc_new _ _) HI.out rfl (by simp [Value.oneCell']) ?_
             have HBA : Hid (Below W3.heap.size W3 ((w4.alloc (.cells zero3 270)).setRow w4.heap.size #[.int .i64 xa, .int .i64 xb, .int .i64 xc])) := bel_setRow (HB4.out.alloc HB4.out.size _) HB4.out.size
             have G6 : Hid (((w4.alloc (.cells zero3 270)).setRow w4.heap.size #[.int .i64 xa, .int .i64 xb, .int .i64 xc]).heap[w4.heap.size]? = some (.cells #[.int .i64 xa, .int .i64 xb, .int .i64 xc] 270 (0, 0))) := setRow_heap (w4.alloc (.cells zero3 270)) w4.heap.size zero3 _ 270 (0, 0) (heap_alloc_new _ _)
             generalize (w4.alloc (.cells zero3 270)).setRow w4.heap.size #[.int .i64 xa, .int .i64 xb, .int .i64 xc] = W5 at *
             obtain ⟨u0, u1, u2⟩ := HKK.out _ HBA.out
             have y0 : W5.cell? ⟨w4.heap.size, 0, none⟩ = some (.int .i64 xa) := cell_of_row _ _ _ _ _ _ G6.out
             have y1 : W5.cell? ⟨w4.heap.size, 1, none⟩ = some (.int .i64 xb) := cell_of_row _ _ _ _ _ _ G6.out
             have y2 : W5.cell? ⟨w4.heap.size, 2, none⟩ = some (.int .i64 xc) := cell_of_row _ _ _ _ _ _ G6.out)
          | (go_at_call 166; refine (HAH.out _ HBA.out).mono ?_; rintro e w5 ⟨rfl, hb5⟩
             have HB5 := Lib.hid (HBA.out.trans (hb5.mono HBA.out.size))
             clear hb5
             have HX5 := Lib.hid (HX3.out.below HB5.out)
             have G5 := Lib.hid ((HB5.out.block _ (lt_of_block G3.out)).trans G3.out)
             have HS5 := Lib.hid (HS3.out.trans (WStep.below HB5.out))
             have HBN5 : Hid (B ≤ w5.heap.size) := Nat.le_trans HB3.out.1 HB5.out.size
             have HBB5 := Lib.hid (HBB3.out.trans (HB5.out.mono HB3.out.1))
             have HK5' := Lib.hid (HK3.out.trans (KeepT.below HB5.out))
             clear u0 u1 u2 y0 y1 y2 c2
             have HPP := Lib.hid (hpopE_any q B h _ _ ltE w5 HX5.out.heap HX5.out.first HBN5.out (by have := HL.out; omega))
             have c25 : w5.cell? ⟨s, 2, none⟩ = some (.pointer (some ⟨h, 0, none⟩)) := cell_of_row _ _ _ _ _ _ HX5.out.box)
          | (go_at_call 170; refine HPP.out.mono ?_; rintro e w6 ⟨hp, -⟩; obtain ⟨rfl, v6, hh6, hb6, hk6, hs6⟩ := hp _ _ rfl
             have HX6 := Lib.hid (HX5.out.heapTo hk6 hh6)
             have G6' : Hid (w6.heap[k5]? = some (.cells #[.int .i64 i, .int .i64 f, .int .i64 at_] 270 (0, 0))) := (hs6.2.1 k5 (lt_of_block G5.out) (by have := HK5.out; omega) (fun e => by have h1 := HVL.out k5 e; have h2 := HK5.out; omega)).trans G5.out
             have HV6 : Hid (∀ k, v6.ownBlock = some k → k ≠ k5) := fun k hk => by
               rintro rfl
               have h1 := hs6.2.2 _ hk (lt_of_block G5.out)
               have h2 := HVL.out _ h1
               have h3 := HK5.out
               omega
             have HS6 := Lib.hid (HS5.out.trans (WStep.heap hs6))
             have HBN6 : Hid (B ≤ w6.heap.size) := Nat.le_trans HBN5.out hs6.1
             have HBB6 := Lib.hid (HBB5.out.trans hb6)
             have HK6 := Lib.hid (HK5'.out.trans (hk6.mono (by decide)))
             clear hp hh6 hb6 hk6 hs6)
          | fail)
        have HCL : Hid (∀ W, W.heap = w6.heap → Calls Tryz.prog 168 #[.pointer (some ⟨h, 0, none⟩), .agg #[.int .i64 i, .int .i64 f, .int .i64 at_]] W fun e w' => e = .returned (.tuple #[]) ∧ HeapPostE q W B h v6 (pushL ltE (popL ltE ([xa, xb, xc] :: r)) [i, f, at_]) w') := fun W hW =>
          hpushE_any q B h v6 (popL ltE ([xa, xb, xc] :: r)) ltE i f at_ W (HX6.out.heap.move (by rw [hW]) (fun k _ => by rw [hW])) (firstE_ok (w := W) (by rw [hW]; exact HX6.out.var) (by rw [hW]; exact HX6.out.box) rfl) (by rw [hW]; exact HBN6.out) (by rw [popLE_length]; have := HL.out; omega)
        have HKEEPP := Lib.hid (fun (W : World) (hk : KeepT [270, 324] w6 W) => cell_of_row W s 2 _ _ _ (hk.2 _ _ _ _ HX6.out.box (by decide)))
        have p2 : w6.cell? ⟨s, 2, none⟩ = some (.pointer (some ⟨h, 0, none⟩)) := cell_of_row _ _ _ _ _ _ HX6.out.box
        have p5 : w6.cell? ⟨k5, 0, none⟩ = some (.int .i64 i) := cell_of_row _ _ _ _ _ _ G6'.out
        have p6 : w6.cell? ⟨k5, 1, none⟩ = some (.int .i64 f) := cell_of_row _ _ _ _ _ _ G6'.out
        have p7 : w6.cell? ⟨k5, 2, none⟩ = some (.int .i64 at_) := cell_of_row _ _ _ _ _ _ G6'.out
        have HNO : Hid (h ≠ k5 ∧ ∀ k, v6.ownBlock = some k → k ≠ k5) := ⟨by have := HK5.out; omega, HV6.out⟩
        have HGK : Hid (∀ W v5, HStep h w6 v6 W v5 → W.heap[k5]? = some (.cells #[.int .i64 i, .int .i64 f, .int .i64 at_] 270 (0, 0))) := fun W v5 hs => (hs.2.1 k5 (lt_of_block G6'.out) (fun e => HNO.out.1 e.symm) (fun e => HNO.out.2 k5 e rfl)).trans G6'.out
        go_wp2_with fail
        go_region_held3 (fun W => W.cell? ⟨s, 2, none⟩ = some (.pointer (some ⟨h, 0, none⟩)) ∧ W.cell? ⟨k5, 0, none⟩ = some (.int .i64 i) ∧ W.cell? ⟨k5, 1, none⟩ = some (.int .i64 f) ∧ W.cell? ⟨k5, 2, none⟩ = some (.int .i64 at_)) (first | go_keep | exact ⟨HKEEPP.out _ HK9.out, cell_of_row _ _ _ _ _ _ (HGK.out _ _ HS9.out), cell_of_row _ _ _ _ _ _ (HGK.out _ _ HS9.out), cell_of_row _ _ _ _ _ _ (HGK.out _ _ HS9.out)⟩)
          (first | (go_at_call 168; refine (HCL.out _ (by rfl)).mono ?_; rintro e w9 ⟨rfl, v9, hh9, hb9, hk9, hs9⟩; have HB9 : Hid (Below B w6 w9) := (bel_drew (Below.refl _ _)).trans hb9; have HK9 : Hid (KeepT [270, 324] w6 w9) := hk9; have HS9 : Hid (HStep h w6 v6 w9 v9) := hs9; have H9 := Lib.hid hh9; clear hh9 hb9 hk9 hs9))
        go_wp2
        go_ret
        refine ⟨true, v9, rfl, ?_, HBB6.out.trans HB9.out, HK6.out.trans (HK9.out.mono (by decide)), HS6.out.trans (WStep.heap HS9.out)⟩
        rw [HO.out]
        exact HX6.out.heapTo HK9.out H9.out
end Go.Proofs.YtladmconpolneaaGreat

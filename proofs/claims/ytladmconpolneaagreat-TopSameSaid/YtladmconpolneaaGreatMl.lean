/- Several texts of this seat, laid together (no statement of its own): their conditions stand in each theorem. -/
import Derived.Test.YtladmconpolneaaGreatMh
import Derived.Test.YtladmconpolneaaGreatMk
/- shape: is a node just what it is? -/
set_option linter.unusedVariables false
set_option linter.unusedSimpArgs false
namespace Go.Proofs.YtladmconpolneaaGreat
open Go.RowKit
theorem psame_any (a b : List Int) (o p : Int) (A B : Option Addr) (n c m d : Nat) (w : World) (ha : Reads w A n (i32V a)) (hb : Reads w B m (i32V b)) :
    Calls Tryz.prog 21 #[.agg #[.slice A n c, .int .i64 o], .agg #[.slice B m d, .int .i64 p]] w fun e w' => e = .returned (.bool (decide (o = p) && (a == b))) ∧ Below w.heap.size w w' := by
  have HB0 : Hid (∀ x y, Below w.heap.size w ((w.alloc x).alloc y)) := fun x y => ((Below.refl _ _).alloc (Nat.le_refl _) _).alloc (by simp) _
  have HS : Hid (∀ W, Below w.heap.size w W → Calls Tryz.prog 54 #[.slice A n c, .slice B m d] W fun e w' => e = .returned (.bool (a == b)) ∧ ∃ nn, w' = W.drewN nn) := fun W hW => same_any a b A B n c m d W (ha.below hW) (hb.below hW)
  clear ha hb
  by_cases ho : o = p
  · subst ho
    go_enter Tryz.func21, Tryz.ntmps21
    go_wp2_with (first
      | (go_at_call 54; refine (HS.out _ (HB0.out _ _)).mono ?_; rintro e w2 ⟨rfl, nn, rfl⟩)
      | fail)
    go_ret
    exact ⟨by simp, bel_drewN (HB0.out _ _) _⟩
  · have h1 : (o == p) = false := by rw [beq_eq_false_iff_ne]; exact ho
    have HO := Lib.hid ho
    clear ho
    go_enter Tryz.func21, Tryz.ntmps21
    go_wp2
    go_ret
    exact ⟨by simp [HO.out], HB0.out _ _⟩
set_option maxHeartbeats 800000 in
theorem pcheck_any (nrm : List Int) (off : Int) (N : Option Addr) (c : Nat) (w : World) (h : Reads w N nrm.length (i32V nrm)) (hb : Bd 2097152 nrm) (hl : 1 ≤ nrm.length ∧ nrm.length ≤ 1024) (ho : -9007199254740992 ≤ off ∧ off ≤ 9007199254740992) :
    Calls Tryz.prog 103 #[.agg #[.slice N nrm.length c, .int .i64 off], .int .i64 (nrm.length : Int)] w fun e w' => e = .returned (.int .i64 0) ∧ Below w.heap.size w w' := by
  obtain ⟨l1, l2⟩ := hl
  obtain ⟨o1, o2⟩ := ho
  have h1 : ¬ (nrm.length : Int) < 1 := by omega
  have h2 : ¬ (nrm.length : Int) > 1024 := by omega
  have h3 : ¬ off < -9007199254740992 := by omega
  have h4 : ¬ off > 9007199254740992 := by omega
  have HB0 : Hid (∀ x, Below w.heap.size w (w.alloc x)) := fun x => (Below.refl _ _).alloc (Nat.le_refl _) _
  have HG := Lib.hid (heap_alloc_new w (.cells #[.slice N nrm.length c, .int .i64 off] 68))
  have HR : Hid (Reads (w.alloc (.cells #[.slice N nrm.length c, .int .i64 off] 68)) N nrm.length (i32V nrm)) := h.below (HB0.out _)
  have HBd := Lib.hid hb
  have g0 : (w.alloc (.cells #[.slice N nrm.length c, .int .i64 off] 68)).cell? ⟨w.heap.size, 0, none⟩ = some (.slice N nrm.length c) := cell_of_row _ _ _ _ _ _ HG.out
  have g1 : (w.alloc (.cells #[.slice N nrm.length c, .int .i64 off] 68)).cell? ⟨w.heap.size, 1, none⟩ = some (.int .i64 off) := cell_of_row _ _ _ _ _ _ HG.out
  have HB1 : Hid (Below w.heap.size w (w.alloc (.cells #[.slice N nrm.length c, .int .i64 off] 68))) := HB0.out _
  clear h hb
  go_enter Tryz.func103, Tryz.ntmps103
  go_wp2
  generalize w.alloc (.cells #[.slice N nrm.length c, .int .i64 off] 68) = W at *
  go_loopg [5, 6, 19] nrm.length (fun gk a b i wr => ∃ k : Nat, gk = nrm.length - k ∧ k ≤ nrm.length ∧ i = .int .i64 (k : Int) ∧ wr = W)
  case atStart => exact ⟨0, rfl, Nat.zero_le _, rfl, rfl⟩
  case round =>
    obtain ⟨k, rfl, hk, rfl, rfl⟩ := hrel
    by_cases hkn : k = nrm.length
    · subst hkn
      go_wp2
      go_ret
      exact ⟨rfl, HB1.out⟩
    · have hkl : (k : Int) < (nrm.length : Int) := by omega
      have hk9 : (0 : Int) ≤ (k : Int) := by omega
      have hkb : (k : Int) ≤ 1024 := by omega
      obtain ⟨ad, rfl, hc⟩ := HR.out.i32 k (by omega)
      have hm : nrm.getD k 0 ∈ nrm := by rw [List.getD_eq_getElem?_getD, List.getElem?_eq_getElem (by omega)]; exact List.getElem_mem _
      obtain ⟨b1, b2⟩ := HBd.out _ hm
      generalize nrm.getD k 0 = y at *
      have b3 : ¬ y < -2097152 := by omega
      have b4 : ¬ y > 2097152 := by omega
      go_wp2
      go_roundg (nrm.length - (k + 1))
      case measure => omega
      case rel => exact ⟨k + 1, rfl, by omega, rfl, rfl⟩
def nodeV (x : Node) (A : Option Addr) (ca : Nat) (N : Option Addr) (cn : Nat) : Array Value := #[.bool x.leaf, .slice A x.ids.length ca, .slice N x.nrm.length cn, .int .i64 x.off, .int .i64 x.left, .int .i64 x.right]
/-- A node is just what it is. -/
inductive NodeOk (dim : Nat) : Node → Prop
  | leaf (ids : List Nat) : NodeOk dim (leafN ids)
  | split (nrm : List Int) (off left right : Int) (hl : nrm.length = dim) (hb : Bd 2097152 nrm) (ho : -9007199254740992 ≤ off ∧ off ≤ 9007199254740992) : NodeOk dim ((splitN nrm off left).withRight right)
set_option maxHeartbeats 800000 in
theorem bare_any (dim : Nat) (x : Node) (A N : Option Addr) (ca cn : Nat) (w : World) (hx : NodeOk dim x) (hd : 1 ≤ dim ∧ dim ≤ 1024) (hr : Reads w N x.nrm.length (i32V x.nrm)) :
    Calls Tryz.prog 59 #[.agg (nodeV x A ca N cn), .int .i64 (dim : Int)] w fun e w' => e = .returned (.bool true) ∧ Below w.heap.size w w' := by
  have HB0 : Hid (∀ o, Below w.heap.size w (w.alloc o)) := fun o => (Below.refl _ _).alloc (Nat.le_refl _) _
  cases hx with
  | leaf ids =>
    have hr' : Reads w N 0 [] := hr
    have HG := Lib.hid (heap_alloc_new w (.cells #[.bool true, .slice A ids.length ca, .slice N 0 cn, .int .i64 0, .int .i64 0, .int .i64 0] 70))
    have HS : Hid (∀ W, Below w.heap.size w W → Calls Tryz.prog 21 #[.agg #[.slice N 0 cn, .int .i64 0], .agg #[.slice none 0 0, .int .i64 0]] W fun e w' => e = .returned (.bool (decide ((0 : Int) = 0) && (([] : List Int) == []))) ∧ Below W.heap.size W w') := fun W hW =>
      psame_any [] [] 0 0 N none 0 cn 0 0 W (hr'.below hW) (reads_nil W)
    show Calls Tryz.prog 59 #[.agg #[.bool true, .slice A ids.length ca, .slice N 0 cn, .int .i64 0, .int .i64 0, .int .i64 0], .int .i64 (dim : Int)] w _
    obtain ⟨W, hW⟩ : ∃ W, w.alloc (.cells #[.bool true, .slice A ids.length ca, .slice N 0 cn, .int .i64 0, .int .i64 0, .int .i64 0] 70) = W := ⟨_, rfl⟩
    have HBW : Hid (Below w.heap.size w W) := by show Below _ _ _; rw [← hW]; exact HB0.out _
    rw [hW] at HG
    have g0 : W.cell? ⟨w.heap.size, 0, none⟩ = some (.bool true) := cell_of_row _ _ _ _ _ _ HG.out
    have g2 : W.cell? ⟨w.heap.size, 2, none⟩ = some (.slice N 0 cn) := cell_of_row _ _ _ _ _ _ HG.out
    have g3 : W.cell? ⟨w.heap.size, 3, none⟩ = some (.int .i64 0) := cell_of_row _ _ _ _ _ _ HG.out
    have HKEEP : Hid (∀ W', Below W.heap.size W W' → W'.cell? ⟨w.heap.size, 4, none⟩ = some (.int .i64 0) ∧ W'.cell? ⟨w.heap.size, 5, none⟩ = some (.int .i64 0)) := fun W' hb => ⟨keepc hb (cell_of_row _ _ _ _ _ _ HG.out), keepc hb (cell_of_row _ _ _ _ _ _ HG.out)⟩
    have HW := Lib.hid hW
    clear hr hr' hW
    go_enter Tryz.func59, Tryz.ntmps59
    go_wp2_with (first
      | (go_at_call 21; rw [HW.out]; refine (HS.out _ HBW.out).mono ?_; rintro e w2 ⟨rfl, hb2⟩; obtain ⟨q4, q5⟩ := HKEEP.out w2 hb2; have HB2 := Lib.hid hb2; clear hb2)
      | fail)
    go_ret
    exact ⟨rfl, HBW.out.trans (HB2.out.mono HBW.out.size)⟩
  | split nrm off left right hl hb ho =>
    subst hl
    have hr' : Reads w N nrm.length (i32V nrm) := hr
    show Calls Tryz.prog 59 #[.agg #[.bool false, .slice A 0 ca, .slice N nrm.length cn, .int .i64 off, .int .i64 left, .int .i64 right], .int .i64 (nrm.length : Int)] w _
    obtain ⟨W, hW⟩ : ∃ W, w.alloc (.cells #[.bool false, .slice A 0 ca, .slice N nrm.length cn, .int .i64 off, .int .i64 left, .int .i64 right] 70) = W := ⟨_, rfl⟩
    have HBW : Hid (Below w.heap.size w W) := by show Below _ _ _; rw [← hW]; exact HB0.out _
    have HS := Lib.hid (pcheck_any nrm off N cn W (hr'.below HBW.out) hb hd ho)
    have HW := Lib.hid hW
    clear hr hr' hW hb ho
    go_enter Tryz.func59, Tryz.ntmps59
    go_wp2_with (first
      | (go_at_call 103; rw [HW.out]; refine HS.out.mono ?_; rintro e w2 ⟨rfl, hb2⟩; have HB2 := Lib.hid hb2; clear hb2)
      | fail)
    go_ret
    exact ⟨rfl, HBW.out.trans (HB2.out.mono HBW.out.size)⟩
theorem Tryz.size70 : (Tryz.prog.info? 70).map (·.size) = some 6 := by kernel_rfl
/-- 'odd', of a node that is just what it is. -/
theorem odd_any (dim b5 : Nat) (x : Node) (A N : Option Addr) (ca cn : Nat) (w : World) (hx : NodeOk dim x) (hd : 1 ≤ dim ∧ dim ≤ 1024) (hr : Reads w N x.nrm.length (i32V x.nrm)) (hb5 : w.heap[b5]? = some (.cells #[.int .i64 (dim : Int)] 3 (0, 0))) :
    Calls Tryz.prog 58 #[.agg (nodeV x A ca N cn), .pointer (some ⟨b5, 0, none⟩)] w fun e w' => e = .returned (.bool false) ∧ Below w.heap.size w w' := by
  obtain ⟨W, hW⟩ : ∃ W, w.alloc (.cells (nodeV x A ca N cn) 70) = W := ⟨_, rfl⟩
  have HBW : Hid (Below w.heap.size w W) := by show Below _ _ _; rw [← hW]; exact (Below.refl _ _).alloc (Nat.le_refl _) _
  have HS := Lib.hid (bare_any dim x A N ca cn W hx hd (hr.below HBW.out))
  have HW := Lib.hid hW
  have HI := Lib.hid Tryz.size70
  have HG : Hid (W.heap[w.heap.size]? = some (.cells (nodeV x A ca N cn) 70 (0, 0))) := by show _ = _; rw [← hW]; exact heap_alloc_new _ _
  have h5 : (w.alloc (.cells (nodeV x A ca N cn) 70)).cell? ⟨b5, 0, none⟩ = some (.int .i64 (dim : Int)) := keepc ((Below.refl _ _).alloc (Nat.le_refl _) _) (cell_of_row _ _ _ _ _ _ hb5)
  clear hr hx hW hb5
  go_enter Tryz.func58, Tryz.ntmps58
  go_wp2_with (first
    | (go_at_call 59; rw [HW.out]; refine HS.out.mono ?_; rintro e w2 ⟨rfl, hb2⟩; have HB2 := Lib.hid hb2; clear hb2)
    | (refine wpList_load_row rfl 70 (.tmp 2) rfl w.heap.size rfl 70 (nodeV x A ca N cn) (0, 0) _ (by rw [HW.out]; exact HG.out) Tryz.underlying70 rfl HI.out ?_)
    | fail)
  go_ret
  exact ⟨rfl, HBW.out.trans (HB2.out.mono HBW.out.size)⟩
set_option maxHeartbeats 800000 in
theorem indexNode_any (dim b5 : Nat) (t : List Node) (B cap : Nat) (V : Option Addr) (cells : List Value) (w : World) (h2 : w.ownsRow B 70 6 (.slice V t.length cap) t.length cells) (h3 : Rows (NodeR w) 6 t cells) (hx : ∀ x ∈ t, NodeOk dim x) (hd : 1 ≤ dim ∧ dim ≤ 1024) (ht : t.length ≤ 100000)
    (hb5 : w.heap[b5]? = some (.cells #[.int .i64 (dim : Int)] 3 (0, 0))) :
    Calls Tryz.prog 104 #[.slice V t.length cap, .func (.func 58) #[] #[.pointer (some ⟨b5, 0, none⟩)]] w fun e w' => e = .returned (.int .i64 (-1)) ∧ Below w.heap.size w w' := by
  have H2 := Lib.hid h2
  have H3 := Lib.hid h3
  have HX := Lib.hid hx
  have H5 := Lib.hid hb5
  have HT := Lib.hid ht
  clear h2 h3 hx hb5 ht
  go_enter Tryz.func104, Tryz.ntmps104
  go_wp2
  go_loopg [5, 8] t.length (fun gk a i wr => ∃ k : Nat, gk = t.length - k ∧ k ≤ t.length ∧ i = .int .i64 (k : Int) ∧ Hid (Below w.heap.size w wr))
  case atStart => exact ⟨0, rfl, Nat.zero_le _, rfl, Lib.hid (Below.refl _ _)⟩
  case round =>
    obtain ⟨k, rfl, hk, rfl, HB⟩ := hrel
    by_cases hkn : k = t.length
    · subst hkn
      go_wp2
      go_ret
      exact ⟨rfl, HB.out⟩
    · have hkl : (k : Int) < (t.length : Int) := by omega
      have hk9 : (0 : Int) ≤ (k : Int) := by omega
      have hkb : (k : Int) ≤ 100000 := by have := HT.out; omega
      obtain ⟨gT, rfl⟩ := own_addr H2.out (by omega)
      obtain ⟨A, ca, N, cn, hn⟩ := tree_node H2.out H3.out k (by omega)
      have HN := Lib.hid hn
      have n0 := keepc HB.out hn.c0
      have n1 := keepc HB.out hn.c1
      have n2 := keepc HB.out hn.c2
      have n3 := keepc HB.out hn.c3
      have n4 := keepc HB.out hn.c4
      have n5 := keepc HB.out hn.c5
      have HO := Lib.hid (odd_any dim b5 t[k] A N ca cn wr (HX.out _ (List.getElem_mem _)) hd (hn.nrm.1.below HB.out) ((HB.out.block _ (lt_of_block H5.out)).trans H5.out))
      clear hn
      go_wp2_with (first
        | (go_at_call 58; refine HO.out.mono ?_; rintro e w2 ⟨rfl, hb2⟩; have HB2 := Lib.hid (HB.out.trans (hb2.mono HB.out.size)); clear hb2)
        | fail)
      go_roundg (t.length - (k + 1))
      case measure => omega
      case rel => exact ⟨k + 1, rfl, by omega, rfl, HB2⟩
theorem containsNode_any (dim b5 : Nat) (t : List Node) (B cap : Nat) (V : Option Addr) (cells : List Value) (w : World) (h2 : w.ownsRow B 70 6 (.slice V t.length cap) t.length cells) (h3 : Rows (NodeR w) 6 t cells) (hx : ∀ x ∈ t, NodeOk dim x) (hd : 1 ≤ dim ∧ dim ≤ 1024) (ht : t.length ≤ 100000)
    (hb5 : w.heap[b5]? = some (.cells #[.int .i64 (dim : Int)] 3 (0, 0))) :
    Calls Tryz.prog 60 #[.slice V t.length cap, .func (.func 58) #[] #[.pointer (some ⟨b5, 0, none⟩)]] w fun e w' => e = .returned (.bool false) ∧ Below w.heap.size w w' := by
  have H := Lib.hid (indexNode_any dim b5 t B cap V cells w h2 h3 hx hd ht hb5)
  clear h2 h3 hx hb5 ht
  go_enter Tryz.func60, Tryz.ntmps60
  go_wp2_with (first
    | (go_at_call 104; refine H.out.mono ?_; rintro e w2 ⟨rfl, hb2⟩; have HB2 := Lib.hid hb2; clear hb2)
    | fail)
  go_ret
  exact ⟨rfl, HB2.out⟩
end Go.Proofs.YtladmconpolneaaGreat

/- Going through a tree's nodes with a stack of right children. Plain Lean. -/
set_option linter.unusedVariables false
set_option linter.unusedSimpArgs false
namespace Go.Proofs.YtladmconpolneaaGreat
open Go.RowKit
def BT.height : BT → Nat
  | .leaf _ => 0
  | .split _ _ l r => 1 + max l.height r.height
theorem good_height {F : List Int} {dim leaf depth : Nat} {t : BT} {ids : List Nat} {d : Nat} (h : Good F dim leaf depth t ids d) (hd : d ≤ depth) : d + t.height ≤ depth := by
  induction h with
  | leaf ids d h => exact hd
  | split ids d nrm off L R l r h hc hl hr ih1 ih2 =>
    have a := ih1 (by omega)
    have b := ih2 (by omega)
    show d + (1 + max l.height r.height) ≤ depth
    omega
structure WS where
  d : Nat
  S : List (Nat × Nat)
/-- 'whole' takes a right child up behind a leaf. -/
def wpop (pl : Bool) (s : WS) : WS := if pl then match s.S with
  | (_, e) :: r => ⟨e, r⟩
  | [] => s
  else s
def wpush (x : Node) (s : WS) : WS := if x.leaf then s else ⟨s.d + 1, (x.right.toNat, s.d + 1) :: s.S⟩
def wrun : List Node → Bool → WS → WS
  | [], _, s => s
  | x :: xs, pl, s => wrun xs x.leaf (wpush x (wpop pl s))
def lastLeaf : List Node → Bool → Bool
  | [], pl => pl
  | x :: xs, _ => lastLeaf xs x.leaf
def wok : List Node → Nat → Bool → WS → Prop
  | [], _, _, _ => True
  | x :: xs, a, pl, s => (pl = true → ∃ e r, s.S = (a, e) :: r) ∧ (wpop pl s).d ≤ 64 ∧ (x.leaf = false → x.left = (a : Int) + 1 ∧ 0 ≤ x.right) ∧ wok xs (a + 1) x.leaf (wpush x (wpop pl s))
theorem wok_tree : ∀ (t : BT) (a : Nat) (pl : Bool) (s : WS) (d : Nat) (S : List (Nat × Nat)) (rest : List Node), (pl = true → ∃ e r, s.S = (a, e) :: r) → wpop pl s = ⟨d, S⟩ → d + t.height ≤ 64 →
    (∀ d', wok rest (a + t.size) true ⟨d', S⟩) → wok (t.nodes a ++ rest) a pl s
  | .leaf ids, a, pl, s, d, S, rest, h1, h2, h3, h4 => by
    refine ⟨h1, by rw [h2]; show d ≤ 64; have : d + 0 ≤ 64 := h3; omega, fun h => (by cases h), ?_⟩
    rw [h2]
    exact h4 d
  | .split nrm off l r, a, pl, s, d, S, rest, h1, h2, h3, h4 => by
    have h3' : d + (1 + max l.height r.height) ≤ 64 := h3
    rw [BT.nodes, List.cons_append, List.append_assoc]
    refine ⟨h1, by rw [h2]; show d ≤ 64; omega, fun _ => ⟨rfl, by show (0 : Int) ≤ ((a + 1 + l.size : Nat) : Int); omega⟩, ?_⟩
    rw [h2]
    have e : wpush ((splitN nrm off ((a : Int) + 1)).withRight ((a + 1 + l.size : Nat) : Int)) ⟨d, S⟩ = ⟨d + 1, (a + 1 + l.size, d + 1) :: S⟩ := by
      show (⟨d + 1, ((((a + 1 + l.size : Nat) : Int)).toNat, d + 1) :: S⟩ : WS) = _
      rw [Int.toNat_natCast]
    rw [e]
    refine wok_tree l (a + 1) false _ (d + 1) ((a + 1 + l.size, d + 1) :: S) _ (fun h => (by cases h)) rfl (by omega) fun d' => ?_
    refine wok_tree r (a + 1 + l.size) true _ (d + 1) S rest (fun _ => ⟨_, _, rfl⟩) rfl (by omega) fun d'' => ?_
    have := h4 d''
    rw [BT.size] at this
    rwa [show a + 1 + l.size + r.size = a + (1 + l.size + r.size) by omega]
theorem wrun_tree : ∀ (t : BT) (a : Nat) (pl : Bool) (s : WS) (d : Nat) (S : List (Nat × Nat)) (rest : List Node), wpop pl s = ⟨d, S⟩ → ∃ d', wrun (t.nodes a ++ rest) pl s = wrun rest true ⟨d', S⟩
  | .leaf ids, a, pl, s, d, S, rest, h2 => ⟨d, by show wrun rest true (wpush (leafN ids) (wpop pl s)) = _; rw [h2]; rfl⟩
  | .split nrm off l r, a, pl, s, d, S, rest, h2 => by
    rw [BT.nodes, List.cons_append, List.append_assoc]
    obtain ⟨d1, h3⟩ := wrun_tree l (a + 1) false (wpush ((splitN nrm off ((a : Int) + 1)).withRight ((a + 1 + l.size : Nat) : Int)) ⟨d, S⟩) (d + 1) (((((a + 1 + l.size : Nat) : Int)).toNat, d + 1) :: S) (r.nodes (a + 1 + l.size) ++ rest) rfl
    obtain ⟨d2, h4⟩ := wrun_tree r (a + 1 + l.size) true ⟨d1, ((((a + 1 + l.size : Nat) : Int)).toNat, d + 1) :: S⟩ (d + 1) S rest rfl
    refine ⟨d2, ?_⟩
    show wrun (l.nodes (a + 1) ++ (r.nodes (a + 1 + l.size) ++ rest)) false (wpush _ (wpop pl s)) = _
    rw [h2, h3, h4]
theorem lastLeaf_tree : ∀ (t : BT) (a : Nat) (pl : Bool) (rest : List Node), lastLeaf (t.nodes a ++ rest) pl = lastLeaf rest true
  | .leaf ids, a, pl, rest => rfl
  | .split nrm off l r, a, pl, rest => by
    rw [BT.nodes, List.cons_append, List.append_assoc]
    show lastLeaf (l.nodes (a + 1) ++ (r.nodes (a + 1 + l.size) ++ rest)) false = _
    rw [lastLeaf_tree l, lastLeaf_tree r]
theorem wok_whole (t : BT) (h : t.height ≤ 64) : wok (t.nodes 0) 0 false ⟨0, []⟩ := by
  have := wok_tree t 0 false ⟨0, []⟩ 0 [] [] (fun h => (by cases h)) rfl (by omega) (fun _ => trivial)
  rwa [List.append_nil] at this
theorem wrun_whole (t : BT) : (wrun (t.nodes 0) false ⟨0, []⟩).S = [] := by
  obtain ⟨d', h⟩ := wrun_tree t 0 false ⟨0, []⟩ 0 [] [] rfl
  rw [List.append_nil] at h
  rw [h]; rfl
theorem last_whole (t : BT) : lastLeaf (t.nodes 0) false = true := by
  have := lastLeaf_tree t 0 false []
  rwa [List.append_nil] at this
end Go.Proofs.YtladmconpolneaaGreat

/- shape.whole. -/
set_option linter.unusedVariables false
set_option linter.unusedSimpArgs false
namespace Go.Proofs.YtladmconpolneaaGreat
open Go.RowKit
def stk (S : List (Nat × Nat)) : List (List Int) := S.reverse.map fun p => [(p.1 : Int), (p.2 : Int)]
theorem stk_length (S : List (Nat × Nat)) : (stk S).length = S.length := by simp [stk]
theorem stk_cons (p : Nat × Nat) (S : List (Nat × Nat)) : stk (p :: S) = stk S ++ [[(p.1 : Int), (p.2 : Int)]] := by simp [stk]
theorem Tryz.info133 : (Tryz.prog.info? 133).map (fun i => (i.zero, i.size, i.bytes)) = some (some (.agg #[.int .i64 0, .int .i64 0]), 2, 16) := by kernel_rfl
theorem RowAt.below {w W : World} {B sz : Nat} {e : TypeId} {v : Value} {l : List (List Int)} (h : RowAt w B e sz v l) (hb : Below w.heap.size w W) : RowAt W B e sz v l := h.move fun k hk => hb.block k (h.lt k hk).2
/-- What 'whole' holds ahead of node k. -/
structure WhAt (w wr : World) (ns : List Node) (k : Nat) (A : Option Addr) (c d : Nat) (S : List (Nat × Nat)) (pl : Bool) : Prop where
  row : RowAt wr w.heap.size 133 2 (.slice A S.length c) (stk S)
  bel : Below w.heap.size w wr
  ok : wok (ns.drop k) k pl ⟨d, S⟩
  run : (wrun (ns.drop k) pl ⟨d, S⟩).S = []
  last : lastLeaf (ns.drop k) pl = true
  len : S.length ≤ k
  pl0 : k = 0 → pl = false
  plk : ∀ j (h : j < ns.length), k = j + 1 → (ns[j]).leaf = pl
set_option maxHeartbeats 3200000 in
set_option maxRecDepth 100000 in
theorem whole_any (ns : List Node) (B cap : Nat) (V : Option Addr) (cells : List Value) (w : World) (h2 : w.ownsRow B 70 6 (.slice V ns.length cap) ns.length cells) (h3 : Rows (NodeR w) 6 ns cells) (hlen : 0 < ns.length ∧ ns.length ≤ 60000)
    (hok : wok ns 0 false ⟨0, []⟩) (hrun : (wrun ns false ⟨0, []⟩).S = []) (hlast : lastLeaf ns false = true) :
    Calls Tryz.prog 61 #[.slice V ns.length cap] w fun e w' => e = .returned (.bool true) ∧ Below w.heap.size w w' := by
  have H2 := Lib.hid h2
  have H3 := Lib.hid h3
  have HT := Lib.hid hlen
  have HI := Lib.hid Tryz.size70
  have HS0 : Hid (WhAt w w ns 0 none 0 0 [] false) := ⟨RowAt.nil _ _ _ _, Below.refl _ _, by simpa using hok, by simpa using hrun, by simpa using hlast, Nat.le_refl _, fun _ => rfl, fun j h e => by cases e⟩
  clear h2 h3 hlen hok hrun hlast
  go_enter Tryz.func61, Tryz.ntmps61
  go_wp2
  go_loopg [3, 4, 10] ns.length (fun gk sv dv i wr => ∃ (k : Nat) (A : Option Addr) (c d : Nat) (S : List (Nat × Nat)) (pl : Bool), gk = ns.length - k ∧ k ≤ ns.length ∧ i = .int .i64 (k : Int) ∧ dv = .int .i64 (d : Int) ∧ sv = .slice A S.length c ∧ Hid (d ≤ 65) ∧ Hid (WhAt w wr ns k A c d S pl))
  case atStart => exact ⟨0, none, 0, 0, [], false, rfl, Nat.zero_le _, rfl, rfl, rfl, Lib.hid (Nat.zero_le _), HS0⟩
  case round =>
    obtain ⟨k, A, c, d, S, pl, rfl, hk, rfl, rfl, rfl, HD, HW⟩ := hrel
    have hkb : (k : Int) ≤ 60000 := by have := HT.out; omega
    have hk9 : (0 : Int) ≤ (k : Int) := by omega
    by_cases hkn : k = ns.length
    · subst hkn
      have hr := HW.out.run
      have hl := HW.out.last
      rw [List.drop_length] at hr hl
      have hS : S = [] := hr
      subst hS
      have hpl : pl = true := hl
      subst hpl
      obtain ⟨m, hm⟩ : ∃ m, ns.length = m + 1 := ⟨ns.length - 1, by have := HT.out; omega⟩
      have hlf := HW.out.plk m (by omega) hm
      obtain ⟨gT, rfl⟩ := own_addr H2.out (by omega)
      obtain ⟨Ai, ca, N, cn, hn⟩ := tree_node H2.out H3.out m (by omega)
      have n0 := keepc HW.out.bel hn.c0
      rw [hlf] at n0
      have HB := Lib.hid HW.out.bel
      have hmi : (m : Int) < (m : Int) + 1 := by omega
      have hm9 : (0 : Int) ≤ (m : Int) := by omega
      have hm1 : (0 : Int) < (m : Int) + 1 := by omega
      have hmb : (m : Int) ≤ 60000 := by omega
      clear hn hr HW H2 H3
      rw [hm]
      go_wp2
      go_ret
      exact ⟨rfl, HB.out⟩
    · have hkn' : k < ns.length := by omega
      rcases Nat.eq_zero_or_pos k with rfl | hk0
      · have hkl : (0 : Int) < (ns.length : Int) := by omega
        have hdr : ns.drop (0) = ns[0] :: ns.drop (0 + 1) := List.drop_eq_getElem_cons hkn'
        have hok := HW.out.ok
        have hrun := HW.out.run
        have hlast := HW.out.last
        rw [hdr] at hok hrun hlast
        obtain ⟨o1, o2, o3, o4⟩ := hok
        have HO := Lib.hid (And.intro o1 (And.intro o2 (And.intro o3 o4)))
        have HRU : Hid ((wrun (ns.drop (0 + 1)) (ns[0]).leaf (wpush ns[0] (wpop pl ⟨d, S⟩))).S = []) := hrun
        have HLA : Hid (lastLeaf (ns.drop (0 + 1)) (ns[0]).leaf = true) := hlast
        have HPN : Hid (∀ q (h : q < ns.length), 0 + 1 = q + 1 → (ns[q]).leaf = (ns[0]).leaf) := fun q h e => by
          have e' : q = 0 := by omega
          subst e'
          rfl
        obtain ⟨gT, rfl⟩ := own_addr H2.out (by omega)
        obtain ⟨Ai, ca, N, cn, hn⟩ := tree_node H2.out H3.out (0) hkn'
        have n0 := keepc HW.out.bel hn.c0
        have n1 := keepc HW.out.bel hn.c1
        have n2 := keepc HW.out.bel hn.c2
        have n3 := keepc HW.out.bel hn.c3
        have n4 := keepc HW.out.bel hn.c4
        have n5 := keepc HW.out.bel hn.c5
        have HPL := Lib.hid (And.intro HW.out.pl0 HW.out.plk)
        have HROW := Lib.hid HW.out.row
        have HBE := Lib.hid HW.out.bel
        have HLEN := Lib.hid HW.out.len
        have hdb : (d : Int) ≤ 60000 := by have := HD.out; have := HT.out; omega
        have hd9 : (0 : Int) ≤ (d : Int) := by omega
        have HBA : Hid (∀ x : Node, Below wr.heap.size wr (wr.alloc (.cells (nodeV x Ai ca N cn) 70))) := fun x => (Below.refl _ _).alloc (Nat.le_refl _) _
        have hpl : pl = false := HPL.out.1 rfl
        subst hpl
        clear hn hdr hrun hlast o1 o2 o3 o4 HW hkn
        generalize ns[0] = x at *
        generalize A = A1 at *
        generalize c = c1 at *
        generalize d = d1 at *
        generalize S = S1 at *
        simp only [Nat.zero_mul, Nat.zero_add] at n0 n1 n2 n3 n4 n5
        have HWP : Hid (wpop false ⟨d1, S1⟩ = ⟨d1, S1⟩) := rfl
        have HD1 : Hid (d1 ≤ 64) := HO.out.2.1
        have HL1 := HLEN
        have hd64 : ¬ (d1 : Int) > 64 := by have : d1 ≤ 64 := HO.out.2.1; omega
        have HBA1 : Hid (Below wr.heap.size wr (wr.alloc (.cells #[.bool x.leaf, .slice Ai x.ids.length ca, .slice N x.nrm.length cn, .int .i64 x.off, .int .i64 x.left, .int .i64 x.right] 70))) := HBA.out x
        have HR1 := Lib.hid (HROW.out.below HBA1.out)
        cases hlf : x.leaf with
        | true =>
          have HWQ : Hid (wpush x (wpop false ⟨d1, S1⟩) = ⟨d1, S1⟩) := by show _ = _; rw [HWP.out]; unfold wpush; rw [if_pos hlf]
          rw [hlf] at n0 HRU HLA HPN HO HBA1 HR1
          clear hlf
          go_wp2
          go_roundg (ns.length - (0 + 1))
          case measure => omega
          case rel => exact ⟨0 + 1, A1, c1, d1, S1, true, rfl, by omega, by simp, rfl, rfl, Lib.hid (by have := HD1.out; omega), ⟨HR1.out, HBE.out.trans (HBA1.out.mono HBE.out.size), by have := HO.out.2.2.2; rw [HWQ.out] at this; exact this, by have := HRU.out; rw [HWQ.out] at this; exact this, HLA.out, by have := HL1.out; omega, fun h => (by cases h), fun j h e => HPN.out j h (by omega)⟩⟩
        | false =>
          have ho3 := HO.out.2.2.1 hlf
          have HWQ : Hid (wpush x (wpop false ⟨d1, S1⟩) = ⟨d1 + 1, (x.right.toNat, d1 + 1) :: S1⟩) := by show _ = _; rw [HWP.out]; unfold wpush; rw [if_neg (by rw [hlf]; decide)]
          rw [hlf] at n0 HRU HLA HPN HO HBA1 HR1
          obtain ⟨hleft, hright⟩ := ho3
          have hri : ((x.right.toNat : Nat) : Int) = x.right := Int.toNat_of_nonneg hright
          have hlq : (x.left != (0 : Int) + 1) = false := by rw [hleft]; simp
          have HRI := Lib.hid hri
          have HL2 := HL1.out
          have hd1b : (d1 : Int) ≤ 60000 := by have := HD1.out; omega
          clear hlf hleft hright hri
          obtain ⟨rc, hrow1, hrow2⟩ := HR1.out
          rw [stk_length] at hrow1
          have HR2 := Lib.hid (And.intro hrow1 hrow2)
          clear hrow1 hrow2
          have HBQ1 := HBA1
          obtain ⟨W9, hW9⟩ : ∃ W, wr.alloc (.cells #[.bool false, .slice Ai x.ids.length ca, .slice N x.nrm.length cn, .int .i64 x.off, .int .i64 x.left, .int .i64 x.right] 70) = W := ⟨_, rfl⟩
          have HW9 := Lib.hid hW9
          have HSZ9 : Hid (W9.heap.size = wr.heap.size + 1) := by show _ = _; rw [← hW9]; simp
          have G9 : Hid (W9.heap[wr.heap.size]? = some (.cells #[.bool false, .slice Ai x.ids.length ca, .slice N x.nrm.length cn, .int .i64 x.off, .int .i64 x.left, .int .i64 x.right] 70 (0, 0))) := by show _ = _; rw [← hW9]; exact heap_alloc_new _ _
          rw [hW9] at HBQ1 HR2
          clear hW9
          go_wp2_with (first
            | (at_builtin; rw [HW9.out]; refine append_cells (W := W9) w.heap.size rfl _ _ 131 133 (.agg #[.int .i64 0, .int .i64 0]) 2 16 rfl Tryz.underlying131 Tryz.info133 rfl (by decide) (by decide) (.slice A1 S1.length c1) S1.length rc [.int .i64 x.right, .int .i64 ((d1 : Int) + 1)] rfl (by rw [HSZ9.out]; rfl) rfl (by simp [Value.oneCell']) HR2.out.1 (Nat.le_trans HBE.out.size HBQ1.out.size) (by omega) ?_; intro A4 c4 w4 ho4 hg4 hat4 hsz4; have HO4 := Lib.hid ho4; have HG4 := Lib.hid hg4; have q4 : w4.cell? ⟨wr.heap.size, 4, none⟩ = some (.int .i64 x.left) := cell_of_row _ _ _ _ _ _ ((hg4.block _ (lt_of_block G9.out) (own_ne2 HR2.out.1 G9.out (by decide))).trans G9.out); clear ho4 hg4 hat4)
            | fail)
          go_roundg (ns.length - (0 + 1))
          case measure => omega
          case rel =>
            refine ⟨0 + 1, A4, c4, d1 + 1, (x.right.toNat, d1 + 1) :: S1, false, rfl, by omega, by simp, by simp, rfl, Lib.hid (by have := HD1.out; omega), ⟨?_, ?_, by have := HO.out.2.2.2; rw [HWQ.out] at this; exact this, by have := HRU.out; rw [HWQ.out] at this; exact this, HLA.out, by have := HL1.out; rw [List.length_cons]; omega, fun h => (by cases h), fun j h e => HPN.out j h (by omega)⟩⟩
            · rw [stk_cons]
              refine ⟨_, ?_, HR2.out.2.snoc ⟨rfl, rfl⟩ rfl⟩
              rw [List.length_append, stk_length, List.length_singleton, List.length_cons]
              have := HO4.out
              rw [← HRI.out] at this
              exact this
            · exact (HBE.out.trans (HBQ1.out.mono HBE.out.size)).grown HG4.out (Nat.le_trans HBE.out.size HBQ1.out.size) (own_base HR2.out.1)
      · obtain ⟨j, rfl⟩ : ∃ j, k = j + 1 := ⟨k - 1, by omega⟩
        have hkl : (j : Int) + 1 < (ns.length : Int) := by omega
        have hj9 : (0 : Int) ≤ (j : Int) := by omega
        have hj1 : (0 : Int) < (j : Int) + 1 := by omega
        have hjl : (j : Int) < (ns.length : Int) := by omega
        have hjb : (j : Int) ≤ 60000 := by omega
        have hdr : ns.drop (j + 1) = ns[j + 1] :: ns.drop (j + 1 + 1) := List.drop_eq_getElem_cons hkn'
        have hok := HW.out.ok
        have hrun := HW.out.run
        have hlast := HW.out.last
        rw [hdr] at hok hrun hlast
        obtain ⟨o1, o2, o3, o4⟩ := hok
        have HO := Lib.hid (And.intro o1 (And.intro o2 (And.intro o3 o4)))
        have HRU : Hid ((wrun (ns.drop (j + 1 + 1)) (ns[j + 1]).leaf (wpush ns[j + 1] (wpop pl ⟨d, S⟩))).S = []) := hrun
        have HLA : Hid (lastLeaf (ns.drop (j + 1 + 1)) (ns[j + 1]).leaf = true) := hlast
        have HPN : Hid (∀ q (h : q < ns.length), j + 1 + 1 = q + 1 → (ns[q]).leaf = (ns[j + 1]).leaf) := fun q h e => by
          have e' : q = j + 1 := by omega
          subst e'
          rfl
        obtain ⟨gT, rfl⟩ := own_addr H2.out (by omega)
        obtain ⟨Ai, ca, N, cn, hn⟩ := tree_node H2.out H3.out (j + 1) hkn'
        have n0 := keepc HW.out.bel hn.c0
        have n1 := keepc HW.out.bel hn.c1
        have n2 := keepc HW.out.bel hn.c2
        have n3 := keepc HW.out.bel hn.c3
        have n4 := keepc HW.out.bel hn.c4
        have n5 := keepc HW.out.bel hn.c5
        have HPL := Lib.hid (And.intro HW.out.pl0 HW.out.plk)
        have HROW := Lib.hid HW.out.row
        have HBE := Lib.hid HW.out.bel
        have HLEN := Lib.hid HW.out.len
        have hdb : (d : Int) ≤ 60000 := by have := HD.out; have := HT.out; omega
        have hd9 : (0 : Int) ≤ (d : Int) := by omega
        have HBA : Hid (∀ x : Node, Below wr.heap.size wr (wr.alloc (.cells (nodeV x Ai ca N cn) 70))) := fun x => (Below.refl _ _).alloc (Nat.le_refl _) _
        obtain ⟨Ap, cp, Np, cnp, hp⟩ := tree_node H2.out H3.out j (by omega)
        have p0 := keepc HW.out.bel hp.c0
        rw [HPL.out.2 j (by omega) rfl] at p0
        clear hn hp hdr hrun hlast o1 o2 o3 o4 HW hkn hkb hk9
        generalize ns[j + 1] = x at *
        cases pl with
        | false =>
          generalize A = A1 at *
          generalize c = c1 at *
          generalize d = d1 at *
          generalize S = S1 at *
          have HWP : Hid (wpop false ⟨d1, S1⟩ = ⟨d1, S1⟩) := rfl
          have HD1 : Hid (d1 ≤ 64) := HO.out.2.1
          have HL1 := HLEN
          have hd64 : ¬ (d1 : Int) > 64 := by have : d1 ≤ 64 := HO.out.2.1; omega
          have HBA1 : Hid (Below wr.heap.size wr (wr.alloc (.cells #[.bool x.leaf, .slice Ai x.ids.length ca, .slice N x.nrm.length cn, .int .i64 x.off, .int .i64 x.left, .int .i64 x.right] 70))) := HBA.out x
          have HR1 := Lib.hid (HROW.out.below HBA1.out)
          have r0 := keepc HBA1.out p0
          cases hlf : x.leaf with
          | true =>
            have HWQ : Hid (wpush x (wpop false ⟨d1, S1⟩) = ⟨d1, S1⟩) := by show _ = _; rw [HWP.out]; unfold wpush; rw [if_pos hlf]
            rw [hlf] at n0 HRU HLA HPN HO HBA1 HR1 r0
            clear hlf
            go_wp2
            go_roundg (ns.length - (j + 1 + 1))
            case measure => omega
            case rel => exact ⟨j + 1 + 1, A1, c1, d1, S1, true, rfl, by omega, by simp, rfl, rfl, Lib.hid (by have := HD1.out; omega), ⟨HR1.out, HBE.out.trans (HBA1.out.mono HBE.out.size), by have := HO.out.2.2.2; rw [HWQ.out] at this; exact this, by have := HRU.out; rw [HWQ.out] at this; exact this, HLA.out, by have := HL1.out; omega, fun h => (by cases h), fun j h e => HPN.out j h (by omega)⟩⟩
          | false =>
            have ho3 := HO.out.2.2.1 hlf
            have HWQ : Hid (wpush x (wpop false ⟨d1, S1⟩) = ⟨d1 + 1, (x.right.toNat, d1 + 1) :: S1⟩) := by show _ = _; rw [HWP.out]; unfold wpush; rw [if_neg (by rw [hlf]; decide)]
            rw [hlf] at n0 HRU HLA HPN HO HBA1 HR1 r0
            obtain ⟨hleft, hright⟩ := ho3
            have hri : ((x.right.toNat : Nat) : Int) = x.right := Int.toNat_of_nonneg hright
            have hlq : (x.left != ((j : Int) + 1 : Int) + 1) = false := by rw [hleft]; simp
            have HRI := Lib.hid hri
            have HL2 := HL1.out
            have hd1b : (d1 : Int) ≤ 60000 := by have := HD1.out; omega
            clear hlf hleft hright hri
            obtain ⟨rc, hrow1, hrow2⟩ := HR1.out
            rw [stk_length] at hrow1
            have HR2 := Lib.hid (And.intro hrow1 hrow2)
            clear hrow1 hrow2
            have HBQ1 := HBA1
            obtain ⟨W9, hW9⟩ : ∃ W, wr.alloc (.cells #[.bool false, .slice Ai x.ids.length ca, .slice N x.nrm.length cn, .int .i64 x.off, .int .i64 x.left, .int .i64 x.right] 70) = W := ⟨_, rfl⟩
            have HW9 := Lib.hid hW9
            have HSZ9 : Hid (W9.heap.size = wr.heap.size + 1) := by show _ = _; rw [← hW9]; simp
            have G9 : Hid (W9.heap[wr.heap.size]? = some (.cells #[.bool false, .slice Ai x.ids.length ca, .slice N x.nrm.length cn, .int .i64 x.off, .int .i64 x.left, .int .i64 x.right] 70 (0, 0))) := by show _ = _; rw [← hW9]; exact heap_alloc_new _ _
            rw [hW9] at HBQ1 HR2
            clear hW9
            go_wp2_with (first
              | (at_builtin; rw [HW9.out]; refine append_cells (W := W9) w.heap.size rfl _ _ 131 133 (.agg #[.int .i64 0, .int .i64 0]) 2 16 rfl Tryz.underlying131 Tryz.info133 rfl (by decide) (by decide) (.slice A1 S1.length c1) S1.length rc [.int .i64 x.right, .int .i64 ((d1 : Int) + 1)] rfl (by rw [HSZ9.out]; rfl) rfl (by simp [Value.oneCell']) HR2.out.1 (Nat.le_trans HBE.out.size HBQ1.out.size) (by omega) ?_; intro A4 c4 w4 ho4 hg4 hat4 hsz4; have HO4 := Lib.hid ho4; have HG4 := Lib.hid hg4; have q4 : w4.cell? ⟨wr.heap.size, 4, none⟩ = some (.int .i64 x.left) := cell_of_row _ _ _ _ _ _ ((hg4.block _ (lt_of_block G9.out) (own_ne2 HR2.out.1 G9.out (by decide))).trans G9.out); clear ho4 hg4 hat4)
              | fail)
            go_roundg (ns.length - (j + 1 + 1))
            case measure => omega
            case rel =>
              refine ⟨j + 1 + 1, A4, c4, d1 + 1, (x.right.toNat, d1 + 1) :: S1, false, rfl, by omega, by simp, by simp, rfl, Lib.hid (by have := HD1.out; omega), ⟨?_, ?_, by have := HO.out.2.2.2; rw [HWQ.out] at this; exact this, by have := HRU.out; rw [HWQ.out] at this; exact this, HLA.out, by have := HL1.out; rw [List.length_cons]; omega, fun h => (by cases h), fun j h e => HPN.out j h (by omega)⟩⟩
              · rw [stk_cons]
                refine ⟨_, ?_, HR2.out.2.snoc ⟨rfl, rfl⟩ rfl⟩
                rw [List.length_append, stk_length, List.length_singleton, List.length_cons]
                have := HO4.out
                rw [← HRI.out] at this
                exact this
              · exact (HBE.out.trans (HBQ1.out.mono HBE.out.size)).grown HG4.out (Nat.le_trans HBE.out.size HBQ1.out.size) (own_base HR2.out.1)
        | true =>
          obtain ⟨e1, S1, hS⟩ := HO.out.1 rfl
          subst hS
          generalize c = c1 at *
          have hrow := HROW.out
          rw [← stk_length] at hrow
          have hst : (stk ((j + 1, e1) :: S1)).length = S1.length + 1 := by rw [stk_length]; rfl
          obtain ⟨g, rfl⟩ := hrow.addr (by omega)
          obtain ⟨u, -, -⟩ := hrow.cell S1.length (by omega)
          have hsx : (stk ((j + 1, e1) :: S1))[S1.length]'(by omega) = [((j + 1 : Nat) : Int), (e1 : Int)] := by
            have : (stk ((j + 1, e1) :: S1))[S1.length]? = some [((j + 1 : Nat) : Int), (e1 : Int)] := by rw [stk_cons, List.getElem?_append_right (by rw [stk_length]; exact Nat.le_refl _), stk_length, Nat.sub_self]; rfl
            exact (List.getElem?_eq_some_iff.mp this).2
          rw [hsx] at u
          have u0 : wr.cell? ⟨g, S1.length * 2, none⟩ = some (.int .i64 ((j : Int) + 1)) := u 0 _ rfl
          have u1 : wr.cell? ⟨g, S1.length * 2 + 1, none⟩ = some (.int .i64 (e1 : Int)) := u 1 _ rfl
          have hcut := hrow.cut S1.length (by omega) (by omega)
          have hcap := hrow.cap
          rw [stk_cons, List.take_left' (stk_length S1)] at hcut
          generalize e1 = d1 at *
          have HWP : Hid (wpop true ⟨d, (j + 1, d1) :: S1⟩ = ⟨d1, S1⟩) := rfl
          have HD1 : Hid (d1 ≤ 64) := HO.out.2.1
          have HL1 : Hid (S1.length ≤ j + 1) := by have := HLEN.out; rw [List.length_cons] at this; show _ ≤ _; omega
          have hd64 : ¬ (d1 : Int) > 64 := by have : d1 ≤ 64 := HO.out.2.1; omega
          have HBA1 : Hid (Below wr.heap.size wr (wr.alloc (.cells #[.bool x.leaf, .slice Ai x.ids.length ca, .slice N x.nrm.length cn, .int .i64 x.off, .int .i64 x.left, .int .i64 x.right] 70))) := HBA.out x
          have HR1 := Lib.hid (hcut.below HBA1.out)
          have r0 := keepc HBA1.out p0
          have v0 := keepc HBA1.out u0
          have v1 := keepc HBA1.out u1
          have hsl9 : (0 : Int) ≤ (S1.length : Int) := by omega
          have hsl1 : (S1.length : Int) < (S1.length : Int) + 1 := by omega
          have hslc : (S1.length : Int) ≤ (c1 : Int) := by rw [hst] at hcap; omega
          have hslb : (S1.length : Int) ≤ 60000 := by have := HL1.out; have := HT.out.2; omega
          have hslt : ¬ (S1.length : Int) < 0 := by omega
          obtain ⟨A1, hA1⟩ : ∃ A1, some (⟨g, 0, none⟩ : Addr) = A1 := ⟨_, rfl⟩
          rw [hA1] at HR1
          subst hA1
          clear hrow hst u hsx hcut hcap
          cases hlf : x.leaf with
          | true =>
            have HWQ : Hid (wpush x (wpop true ⟨d, (j + 1, d1) :: S1⟩) = ⟨d1, S1⟩) := by show _ = _; rw [HWP.out]; unfold wpush; rw [if_pos hlf]
            rw [hlf] at n0 HRU HLA HPN HO HBA1 HR1 r0 v0 v1
            clear hlf
            go_wp2_with fail
            go_quiet (fail)
            have HBQ1 : Hid (Below wr.heap.size wr ((wr.alloc (.cells #[.bool true, .slice Ai x.ids.length ca, .slice N x.nrm.length cn, .int .i64 x.off, .int .i64 x.left, .int .i64 x.right] 70)).drewN nq)) := bel_drewN HBA1.out _
            have HR9 : Hid (RowAt ((wr.alloc (.cells #[.bool true, .slice Ai x.ids.length ca, .slice N x.nrm.length cn, .int .i64 x.off, .int .i64 x.left, .int .i64 x.right] 70)).drewN nq) w.heap.size 133 2 (.slice (some ⟨g, 0, none⟩) S1.length c1) (stk S1)) := HR1.out.below (bel_drewN (Below.refl _ _) _)
            have G9 : Hid (((wr.alloc (.cells #[.bool true, .slice Ai x.ids.length ca, .slice N x.nrm.length cn, .int .i64 x.off, .int .i64 x.left, .int .i64 x.right] 70)).drewN nq).heap[wr.heap.size]? = some (.cells #[.bool true, .slice Ai x.ids.length ca, .slice N x.nrm.length cn, .int .i64 x.off, .int .i64 x.left, .int .i64 x.right] 70 (0, 0))) := heap_alloc_new wr _
            generalize (wr.alloc (.cells #[.bool true, .slice Ai x.ids.length ca, .slice N x.nrm.length cn, .int .i64 x.off, .int .i64 x.left, .int .i64 x.right] 70)).drewN nq = W9 at *
            clear v0 v1 r0 p0 u0 u1 n0 n1 n2 n3 n4 n5
            have q0 : W9.cell? ⟨wr.heap.size, 0, none⟩ = some (.bool true) := cell_of_row _ _ _ _ _ _ G9.out
            go_wp2
            go_roundg (ns.length - (j + 1 + 1))
            case measure => omega
            case rel => exact ⟨j + 1 + 1, some ⟨g, 0, none⟩, c1, d1, S1, true, rfl, by omega, by simp, rfl, rfl, Lib.hid (by have := HD1.out; omega), ⟨HR9.out, HBE.out.trans (HBQ1.out.mono HBE.out.size), by have := HO.out.2.2.2; rw [HWQ.out] at this; exact this, by have := HRU.out; rw [HWQ.out] at this; exact this, HLA.out, by have := HL1.out; omega, fun h => (by cases h), fun j h e => HPN.out j h (by omega)⟩⟩
          | false =>
            have ho3 := HO.out.2.2.1 hlf
            have HWQ : Hid (wpush x (wpop true ⟨d, (j + 1, d1) :: S1⟩) = ⟨d1 + 1, (x.right.toNat, d1 + 1) :: S1⟩) := by show _ = _; rw [HWP.out]; unfold wpush; rw [if_neg (by rw [hlf]; decide)]
            rw [hlf] at n0 HRU HLA HPN HO HBA1 HR1 r0 v0 v1
            obtain ⟨hleft, hright⟩ := ho3
            have hri : ((x.right.toNat : Nat) : Int) = x.right := Int.toNat_of_nonneg hright
            have hlq : (x.left != ((j : Int) + 1 : Int) + 1) = false := by rw [hleft]; simp
            have HRI := Lib.hid hri
            have HL2 := HL1.out
            have hd1b : (d1 : Int) ≤ 60000 := by have := HD1.out; omega
            clear hlf hleft hright hri
            obtain ⟨rc, hrow1, hrow2⟩ := HR1.out
            rw [stk_length] at hrow1
            have HR2 := Lib.hid (And.intro hrow1 hrow2)
            clear hrow1 hrow2
            go_wp2_with fail
            go_quiet (fail)
            have HBQ1 : Hid (Below wr.heap.size wr ((wr.alloc (.cells #[.bool false, .slice Ai x.ids.length ca, .slice N x.nrm.length cn, .int .i64 x.off, .int .i64 x.left, .int .i64 x.right] 70)).drewN nq)) := bel_drewN HBA1.out _
            have HR2 : Hid (((wr.alloc (.cells #[.bool false, .slice Ai x.ids.length ca, .slice N x.nrm.length cn, .int .i64 x.off, .int .i64 x.left, .int .i64 x.right] 70)).drewN nq).ownsRow w.heap.size 133 2 (.slice (some ⟨g, 0, none⟩) S1.length c1) S1.length rc ∧ Rows (RI 2) 2 (stk S1) rc) := ⟨HR2.out.1, HR2.out.2⟩
            have G9 : Hid (((wr.alloc (.cells #[.bool false, .slice Ai x.ids.length ca, .slice N x.nrm.length cn, .int .i64 x.off, .int .i64 x.left, .int .i64 x.right] 70)).drewN nq).heap[wr.heap.size]? = some (.cells #[.bool false, .slice Ai x.ids.length ca, .slice N x.nrm.length cn, .int .i64 x.off, .int .i64 x.left, .int .i64 x.right] 70 (0, 0))) := heap_alloc_new wr _
            generalize (wr.alloc (.cells #[.bool false, .slice Ai x.ids.length ca, .slice N x.nrm.length cn, .int .i64 x.off, .int .i64 x.left, .int .i64 x.right] 70)).drewN nq = W9 at *
            clear v0 v1 r0 p0 u0 u1 n0 n1 n2 n3 n4 n5
            have q0 : W9.cell? ⟨wr.heap.size, 0, none⟩ = some (.bool false) := cell_of_row _ _ _ _ _ _ G9.out
            have q5 : W9.cell? ⟨wr.heap.size, 5, none⟩ = some (.int .i64 x.right) := cell_of_row _ _ _ _ _ _ G9.out
            go_wp2_with (first
              | (at_builtin; refine append_cells (W := W9) w.heap.size rfl _ _ 131 133 (.agg #[.int .i64 0, .int .i64 0]) 2 16 rfl Tryz.underlying131 Tryz.info133 rfl (by decide) (by decide) (.slice (some ⟨g, 0, none⟩) S1.length c1) S1.length rc [.int .i64 x.right, .int .i64 ((d1 : Int) + 1)] rfl rfl rfl (by simp [Value.oneCell']) HR2.out.1 (Nat.le_trans HBE.out.size HBQ1.out.size) (by omega) ?_; intro A4 c4 w4 ho4 hg4 hat4 hsz4; have HO4 := Lib.hid ho4; have HG4 := Lib.hid hg4; have q4 : w4.cell? ⟨wr.heap.size, 4, none⟩ = some (.int .i64 x.left) := cell_of_row _ _ _ _ _ _ ((hg4.block _ (lt_of_block G9.out) (own_ne2 HR2.out.1 G9.out (by decide))).trans G9.out); clear ho4 hg4 hat4)
              | fail)
            go_roundg (ns.length - (j + 1 + 1))
            case measure => omega
            case rel =>
              refine ⟨j + 1 + 1, A4, c4, d1 + 1, (x.right.toNat, d1 + 1) :: S1, false, rfl, by omega, by simp, by simp, rfl, Lib.hid (by have := HD1.out; omega), ⟨?_, ?_, by have := HO.out.2.2.2; rw [HWQ.out] at this; exact this, by have := HRU.out; rw [HWQ.out] at this; exact this, HLA.out, by have := HL1.out; rw [List.length_cons]; omega, fun h => (by cases h), fun j h e => HPN.out j h (by omega)⟩⟩
              · rw [stk_cons]
                refine ⟨_, ?_, HR2.out.2.snoc ⟨rfl, rfl⟩ rfl⟩
                rw [List.length_append, stk_length, List.length_singleton, List.length_cons]
                have := HO4.out
                rw [← HRI.out] at this
                exact this
              · exact (HBE.out.trans (HBQ1.out.mono HBE.out.size)).grown HG4.out (Nat.le_trans HBE.out.size HBQ1.out.size) (own_base HR2.out.1)
end Go.Proofs.YtladmconpolneaaGreat

/- shape.Check, of a tree. -/
set_option linter.unusedVariables false
set_option linter.unusedSimpArgs false
namespace Go.Proofs.YtladmconpolneaaGreat
open Go.RowKit
/-- A list of nodes is a tree of n items. -/
structure TOk (ns : List Node) (n dim : Nat) : Prop where
  len : 0 < ns.length ∧ ns.length ≤ 60000
  ok : ∀ x ∈ ns, NodeOk dim x
  w1 : wok ns 0 false ⟨0, []⟩
  w2 : (wrun ns false ⟨0, []⟩).S = []
  w3 : lastLeaf ns false = true
  nd : (lf ns).flatten.Nodup
  lt : ∀ i ∈ (lf ns).flatten, i < n
  ln : (lf ns).flatten.length = n
  il : ∀ x ∈ ns, x.ids.length ≤ 60000
theorem leaves_any (V : Option Addr) (len cap : Nat) (w : World) : Calls Tryz.prog 57 #[.slice V len cap] w fun e w' => e = .returned (.func (.func 102) #[] #[.pointer (some ⟨w.heap.size, 0, none⟩)]) ∧ w' = w.alloc (.cells #[.slice V len cap] 65) := by
  go_enter Tryz.func57, Tryz.ntmps57
  go_wp2
  go_ret
  exact ⟨rfl, rfl⟩
theorem own_belowW {w W : World} {B sz n : Nat} {e : TypeId} {v : Value} {xs : List Value} (h : w.ownsRow B e sz v n xs) (hb : Below w.heap.size w W) : W.ownsRow B e sz v n xs := own_keepT (T := []) h (KeepT.below hb) (by simp)
theorem rows_belowW {w W : World} {ns : List Node} {cells : List Value} (h : Rows (NodeR w) 6 ns cells) (hb : Below w.heap.size w W) : Rows (NodeR W) 6 ns cells := h.imp fun x c hx => hx.kept (KeepF.below hb).kept
set_option maxHeartbeats 800000 in
theorem scheck_any (w : World) (ns : List Node) (B cap n dim : Nat) (V : Option Addr) (cells : List Value) (h2 : w.ownsRow B 70 6 (.slice V ns.length cap) ns.length cells) (h3 : Rows (NodeR w) 6 ns cells) (ht : TOk ns n dim) (hd : 1 ≤ dim ∧ dim ≤ 1024) (hn : 1 ≤ n ∧ n ≤ 64) :
    Calls Tryz.prog 26 #[.slice V ns.length cap, .int .i64 (n : Int), .int .i64 (dim : Int)] w fun e w' => e = .returned (.int .i64 0) ∧ Below w.heap.size w w' := by
  have HA : Hid (∀ W, Below w.heap.size w W → W.heap[w.heap.size]? = some (.cells #[.int .i64 (dim : Int)] 3 (0, 0)) → Calls Tryz.prog 60 #[.slice V ns.length cap, .func (.func 58) #[] #[.pointer (some ⟨w.heap.size, 0, none⟩)]] W fun e w' => e = .returned (.bool false) ∧ Below W.heap.size W w') := fun W hb h5 =>
    containsNode_any dim w.heap.size ns B cap V cells W (own_belowW h2 hb) (rows_belowW h3 hb) ht.ok hd (by have := ht.len; omega) h5
  have HB : Hid (∀ W, Below w.heap.size w W → Calls Tryz.prog 61 #[.slice V ns.length cap] W fun e w' => e = .returned (.bool true) ∧ Below W.heap.size W w') := fun W hb =>
    whole_any ns B cap V cells W (own_belowW h2 hb) (rows_belowW h3 hb) ht.len ht.w1 ht.w2 ht.w3
  have HC : Hid (∀ W b1, Below w.heap.size w W → W.heap[b1]? = some (.cells #[.slice V ns.length cap] 65 (0, 0)) → Calls Tryz.prog 62 #[.int .i64 (n : Int), .func (.func 102) #[] #[.pointer (some ⟨b1, 0, none⟩)]] W fun e w' => e = .returned (.bool true) ∧ Below W.heap.size W w') := fun W b1 hb h1 =>
    covers_any W ns B cap b1 n V cells (own_belowW h2 hb) (rows_belowW h3 hb) ⟨ht.len.2, ht.il⟩ h1 hn ht.nd ht.lt ht.ln
  have HL : Hid (∀ W, Calls Tryz.prog 57 #[.slice V ns.length cap] W fun e w' => e = .returned (.func (.func 102) #[] #[.pointer (some ⟨W.heap.size, 0, none⟩)]) ∧ w' = W.alloc (.cells #[.slice V ns.length cap] 65)) := leaves_any V ns.length cap
  have HB0 : Hid (∀ o, Below w.heap.size w (w.alloc o)) := fun o => (Below.refl _ _).alloc (Nat.le_refl _) _
  have HG := Lib.hid (heap_alloc_new w (.cells #[.int .i64 (dim : Int)] 3))
  have a1 : ¬ (n : Int) < 0 := by omega
  have a2 : ¬ (n : Int) > 1048576 := by omega
  have a3 : ¬ (dim : Int) < 1 := by omega
  have a4 : ¬ (dim : Int) > 1024 := by omega
  clear h2 h3 ht hd hn
  go_enter Tryz.func26, Tryz.ntmps26
  go_wp2_with (first
    | (go_at_call 60; refine (HA.out _ (HB0.out _) HG.out).mono ?_; rintro e w2 ⟨rfl, hb⟩; have HB2 := Lib.hid ((HB0.out _).trans (hb.mono (HB0.out _).size)); clear hb)
    | (go_at_call 61; refine (HB.out _ HB2.out).mono ?_; rintro e w3 ⟨rfl, hb⟩; have HB3 := Lib.hid (HB2.out.trans (hb.mono HB2.out.size)); clear hb)
    | (go_at_call 57; refine (HL.out _).mono ?_; rintro e w4 ⟨rfl, rfl⟩; have HB4 : Hid (Below w.heap.size w (w3.alloc (.cells #[.slice V ns.length cap] 65))) := HB3.out.alloc HB3.out.size _)
    | (go_at_call 62; refine (HC.out _ _ HB4.out (heap_alloc_new _ _)).mono ?_; rintro e w5 ⟨rfl, hb⟩; have HB5 := Lib.hid (HB4.out.trans (hb.mono HB4.out.size)); clear hb)
    | fail)
  go_ret
  exact ⟨rfl, HB5.out⟩
end Go.Proofs.YtladmconpolneaaGreat

/- Going through a tree's nodes: what is visited, and how deep. Plain Lean. -/
set_option linter.unusedVariables false
set_option linter.unusedSimpArgs false
namespace Go.Proofs.YtladmconpolneaaGreat
open Go.RowKit
/-- No right child stands where a node stands that isn't one. -/
def vok : List Node → Nat → Bool → WS → Prop
  | [], _, _, _ => True
  | x :: xs, a, pl, s => (pl = false → ∀ p ∈ s.S, p.1 ≠ a) ∧ vok xs (a + 1) x.leaf (wpush x (wpop pl s))
theorem vok_tree : ∀ (t : BT) (a : Nat) (pl : Bool) (s : WS) (d : Nat) (S : List (Nat × Nat)) (rest : List Node), wpop pl s = ⟨d, S⟩ → (∀ p ∈ S, a + t.size ≤ p.1) → (∀ d', vok rest (a + t.size) true ⟨d', S⟩) → vok (t.nodes a ++ rest) a pl s
  | .leaf ids, a, pl, s, d, S, rest, h1, h2, h3 => by
    refine ⟨fun h p hp => ?_, ?_⟩
    · subst h
      have e : s = ⟨d, S⟩ := h1
      have := h2 p (by rw [e] at hp; exact hp)
      have : a + 1 ≤ p.1 := this
      omega
    · rw [h1]; exact h3 d
  | .split nrm off l r, a, pl, s, d, S, rest, h1, h2, h3 => by
    have h2' : ∀ p ∈ S, a + (1 + l.size + r.size) ≤ p.1 := h2
    rw [BT.nodes, List.cons_append, List.append_assoc]
    refine ⟨fun h p hp => ?_, ?_⟩
    · subst h
      have e : s = ⟨d, S⟩ := h1
      have := h2' p (by rw [e] at hp; exact hp)
      omega
    · rw [h1]
      have e : wpush ((splitN nrm off ((a : Int) + 1)).withRight ((a + 1 + l.size : Nat) : Int)) ⟨d, S⟩ = ⟨d + 1, (a + 1 + l.size, d + 1) :: S⟩ := by
        show (⟨d + 1, ((((a + 1 + l.size : Nat) : Int)).toNat, d + 1) :: S⟩ : WS) = _
        rw [Int.toNat_natCast]
      rw [e]
      refine vok_tree l (a + 1) false _ (d + 1) ((a + 1 + l.size, d + 1) :: S) _ rfl (fun p hp => ?_) fun d' => ?_
      · rcases List.mem_cons.1 hp with rfl | hp
        · exact Nat.le_refl _
        · have := h2' p hp; omega
      · refine vok_tree r (a + 1 + l.size) true _ (d + 1) S rest rfl (fun p hp => by have := h2' p hp; omega) fun d'' => ?_
        have := h3 d''
        rw [BT.size] at this
        rwa [show a + 1 + l.size + r.size = a + (1 + l.size + r.size) by omega]
theorem vok_whole (t : BT) : vok (t.nodes 0) 0 false ⟨0, []⟩ := by
  have := vok_tree t 0 false ⟨0, []⟩ 0 [] [] rfl (fun p hp => by cases hp) (fun _ => trivial)
  rwa [List.append_nil] at this
/-- What is visited: each place, and its depth. -/
def wvis : List Node → Nat → Bool → WS → List (Nat × Nat)
  | [], _, _, _ => []
  | x :: xs, a, pl, s => (a, (wpop pl s).d) :: wvis xs (a + 1) x.leaf (wpush x (wpop pl s))
def BT.vis : BT → Nat → Nat → List (Nat × Nat)
  | .leaf _, a, d => [(a, d)]
  | .split _ _ l r, a, d => (a, d) :: (l.vis (a + 1) (d + 1) ++ r.vis (a + 1 + l.size) (d + 1))
theorem wvis_tree : ∀ (t : BT) (a : Nat) (pl : Bool) (s : WS) (d : Nat) (S : List (Nat × Nat)) (rest : List Node), wpop pl s = ⟨d, S⟩ → ∃ d', wvis (t.nodes a ++ rest) a pl s = t.vis a d ++ wvis rest (a + t.size) true ⟨d', S⟩
  | .leaf ids, a, pl, s, d, S, rest, h2 => ⟨d, by show (a, (wpop pl s).d) :: wvis rest (a + 1) true (wpush (leafN ids) (wpop pl s)) = _; rw [h2]; rfl⟩
  | .split nrm off l r, a, pl, s, d, S, rest, h2 => by
    rw [BT.nodes, List.cons_append, List.append_assoc]
    obtain ⟨d1, h3⟩ := wvis_tree l (a + 1) false (wpush ((splitN nrm off ((a : Int) + 1)).withRight ((a + 1 + l.size : Nat) : Int)) ⟨d, S⟩) (d + 1) (((((a + 1 + l.size : Nat) : Int)).toNat, d + 1) :: S) (r.nodes (a + 1 + l.size) ++ rest) rfl
    obtain ⟨d2, h4⟩ := wvis_tree r (a + 1 + l.size) true ⟨d1, ((((a + 1 + l.size : Nat) : Int)).toNat, d + 1) :: S⟩ (d + 1) S rest rfl
    refine ⟨d2, ?_⟩
    show (a, (wpop pl s).d) :: wvis (l.nodes (a + 1) ++ (r.nodes (a + 1 + l.size) ++ rest)) (a + 1) false (wpush _ (wpop pl s)) = _
    rw [h2, h3, h4, BT.vis, BT.size, show a + 1 + l.size + r.size = a + (1 + l.size + r.size) by omega]
    simp [List.append_assoc]
theorem wvis_whole (t : BT) : wvis (t.nodes 0) 0 false ⟨0, []⟩ = t.vis 0 0 := by
  obtain ⟨d', h⟩ := wvis_tree t 0 false ⟨0, []⟩ 0 [] [] rfl
  rw [List.append_nil] at h
  rw [h]; simp [wvis]
theorem vis_depth : ∀ (t : BT) (a d : Nat) (p : Nat × Nat), p ∈ t.vis a d → p.2 ≤ d + t.height
  | .leaf _, a, d, p, h => by simp [BT.vis] at h; subst h; exact Nat.le_add_right _ _
  | .split _ _ l r, a, d, p, h => by
    show p.2 ≤ d + (1 + max l.height r.height)
    simp only [BT.vis, List.mem_cons, List.mem_append] at h
    rcases h with rfl | h | h
    · show d ≤ _; omega
    · have := vis_depth l _ _ p h; omega
    · have := vis_depth r _ _ p h; omega
/-- No leaf is greater than told, but at the greatest depth. -/
theorem vis_leaf {F : List Int} {dim leaf depth : Nat} {t : BT} {ids : List Nat} {d : Nat} (h : Good F dim leaf depth t ids d) : ∀ (a : Nat) (pre rest : List Node), pre.length = a → ∀ p ∈ t.vis a d, ∀ x, (pre ++ (t.nodes a ++ rest))[p.1]? = some x → x.leaf = true → x.ids.length ≤ leaf ∨ p.2 = depth := by
  induction h with
  | leaf ids d h =>
    intro a pre rest ha p hp x hx hl
    simp [BT.vis] at hp
    subst hp ha
    rw [List.getElem?_append_right (Nat.le_refl _), Nat.sub_self] at hx
    have : leafN ids = x := by simpa [BT.nodes] using hx
    subst this
    exact h
  | split ids d nrm off L R l r h hc hl hr ih1 ih2 =>
    intro a pre rest ha p hp x hx hlf
    simp only [BT.vis, List.mem_cons, List.mem_append] at hp
    rw [BT.nodes, List.cons_append, List.append_assoc] at hx
    rcases hp with rfl | hp | hp
    · subst ha
      rw [List.getElem?_append_right (Nat.le_refl _), Nat.sub_self] at hx
      have : (splitN nrm off ((pre.length : Int) + 1)).withRight ((pre.length + 1 + l.size : Nat) : Int) = x := by simpa using hx
      subst this
      cases hlf
    · refine ih1 (a + 1) (pre ++ [(splitN nrm off ((a : Int) + 1)).withRight ((a + 1 + l.size : Nat) : Int)]) (r.nodes (a + 1 + l.size) ++ rest) (by simp [ha]) p hp x ?_ hlf
      rw [List.append_assoc]; exact hx
    · refine ih2 (a + 1 + l.size) (pre ++ (splitN nrm off ((a : Int) + 1)).withRight ((a + 1 + l.size : Nat) : Int) :: l.nodes (a + 1)) rest (by rw [List.length_append, List.length_cons, l.nodes_length, ha]; omega) p hp x ?_ hlf
      rw [List.append_assoc, List.cons_append]; exact hx
end Go.Proofs.YtladmconpolneaaGreat

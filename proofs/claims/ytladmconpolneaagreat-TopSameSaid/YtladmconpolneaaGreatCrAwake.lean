/- Walks of Run refused, of Order, of the laws' awake. -/
import Derived.Test.YtladmconpolneaaGreatCrRunWalk
set_option linter.unusedVariables false
set_option linter.unusedSimpArgs false
namespace Go.Proofs.YtladmconpolneaaGreat.Cr
open Go.RowKit
theorem run_odd (J N : Int) (A0 : Option Addr) (n c0 : Nat) (w : World) (h : J < 0 ∨ 256 < J ∨ N < 1 ∨ 64 < N) :
    Calls Tryz.prog 144 #[.int .i64 J, .int .i64 N, .slice A0 n c0] w fun e w' => e = .returned (.tuple #[.slice none 0 0, .int .i64 5]) ∧ w = w' := by
  by_cases h1 : J < 0
  · clear h
    go_enter Tryz.func144, Tryz.ntmps144
    go_wp2
    go_ret2
    exact ⟨rfl, rfl⟩
  · by_cases h2 : 256 < J
    · clear h
      go_enter Tryz.func144, Tryz.ntmps144
      go_wp2
      go_ret2
      exact ⟨rfl, rfl⟩
    · by_cases h3 : N < 1
      · clear h
        go_enter Tryz.func144, Tryz.ntmps144
        go_wp2
        go_ret2
        exact ⟨rfl, rfl⟩
      · have h4 : 64 < N := by omega
        clear h
        go_enter Tryz.func144, Tryz.ntmps144
        go_wp2
        go_ret2
        exact ⟨rfl, rfl⟩
/-- A list of events that is read. -/
def EvAt (w : World) (A : Option Addr) (l : List Ev) : Prop :=
  l.length ≤ 100000 ∧ ∀ j (h : j < l.length), ∃ g, A = some ⟨g, 0, none⟩ ∧ g < w.heap.size ∧ w.cell? ⟨g, j * 3, none⟩ = some (.int .i64 ((l[j]).actor : Int)) ∧ w.cell? ⟨g, j * 3 + 1, none⟩ = some (.int .i64 ((l[j]).what : Int)) ∧ w.cell? ⟨g, j * 3 + 2, none⟩ = some (.int .i64 (l[j]).job)
theorem evV_at (l : List Ev) (k : Nat) (h : k < l.length) : (evV l)[k * 3]? = some (.int .i64 ((l[k]).actor : Int)) ∧ (evV l)[k * 3 + 1]? = some (.int .i64 ((l[k]).what : Int)) ∧ (evV l)[k * 3 + 2]? = some (.int .i64 (l[k]).job) := by
  induction l generalizing k with
  | nil => simp at h
  | cons x l ih =>
    have e : evV (x :: l) = .int .i64 (x.actor : Int) :: .int .i64 (x.what : Int) :: .int .i64 x.job :: evV l := rfl
    cases k with
    | zero => exact ⟨rfl, rfl, rfl⟩
    | succ k =>
      have := ih k (by simpa using h)
      rw [e, show (k + 1) * 3 = k * 3 + 1 + 1 + 1 from by omega, show k * 3 + 1 + 1 + 1 + 1 = (k * 3 + 1) + 1 + 1 + 1 from rfl, show k * 3 + 1 + 1 + 1 + 2 = (k * 3 + 2) + 1 + 1 + 1 from by omega]
      simpa using this
theorem EvAt.of_own {w : World} {B c : Nat} {A : Option Addr} {l : List Ev} (h : w.ownsRow B 244 3 (.slice A l.length c) l.length (evV l)) (hl : l.length ≤ 100000) : EvAt w A l := by
  refine ⟨hl, fun j hj => ?_⟩
  rcases h.2 with ⟨_, h0⟩ | ⟨g, cap, cur, hv, hb, hg, r⟩
  · omega
  · simp only [Value.slice.injEq] at hv
    obtain ⟨rfl, -, rfl⟩ := hv
    obtain ⟨e1, e2, e3⟩ := evV_at l j hj
    have hc := h.cells (g := g) rfl
    have ha : ∀ i, (⟨g, 0, none⟩ : Addr).add i = ⟨g, i, none⟩ := fun i => by rw [Addr.add_lit, Nat.zero_add]
    refine ⟨g, rfl, lt_of_block hg, ?_, ?_, ?_⟩
    · rw [← ha]; exact hc _ _ e1
    · rw [← ha]; exact hc _ _ e2
    · rw [← ha]; exact hc _ _ e3
theorem EvAt.below {w w' : World} {A : Option Addr} {l : List Ev} (h : EvAt w A l) (hb : Below w.heap.size w w') : EvAt w' A l := by
  refine ⟨h.1, fun j hj => ?_⟩
  obtain ⟨g, e, hg, h1, h2, h3⟩ := h.2 j hj
  have := hb.size
  exact ⟨g, e, by omega, (hb.cell (p := ⟨g, _, none⟩) hg).trans h1, (hb.cell (p := ⟨g, _, none⟩) hg).trans h2, (hb.cell (p := ⟨g, _, none⟩) hg).trans h3⟩
/-- The jobs in the order in which they were put. -/
def orderL (l : List Ev) : List Int := (l.filter fun x => x.what == 6).map Ev.job
theorem orderL_succ (l : List Ev) (k : Nat) (h : k < l.length) : orderL (l.take (k + 1)) = orderL (l.take k) ++ (if (l[k]).what = 6 then [(l[k]).job] else []) := by
  unfold orderL
  rw [List.take_succ_eq_append_getElem h, List.filter_append, List.map_append]
  congr 1
  by_cases h6 : (l[k]).what = 6 <;> simp [h6]
theorem orderL_le (l : List Ev) : (orderL l).length ≤ l.length := by
  unfold orderL
  rw [List.length_map]
  exact List.length_filter_le _ _
section
variable {P : Program} {ops : Array Oper} {rest : List Oper} {o : Oper} {a : Act} {Q : Exit → Act → World → Prop}
theorem append_one_at {W : World} (D : Nat) (hD : W.heap.size = D) (base : Nat) (hgd : o.guard = none) (s x : Operand) (t e : TypeId) (z : Value) (bytes : Nat)
    (ho : o.op = .call { callee := .builtin .append, args := #[s, x], argTypes := #[t, t] })
    (ht : P.underlying t = some (.slice e)) (hinfo : (P.info? e).map (fun i => (i.zero, i.size, i.bytes)) = some (some z, 1, bytes)) (hz : z.cells.size = 1) (hb0 : 0 < bytes)
    (v : Value) (k : Nat) (xs : List Value) (y : Value) (hs : a.eval s = v) (hx : a.eval x = .slice (some ⟨D, 0, none⟩) 1 1) (h1 : y.oneCell' = true)
    (HO : W.ownsRow base e 1 v k xs) (hbase : base ≤ W.heap.size) (hl : (k + 1) * bytes ≤ 140737488355328)
    (h : ∀ A1 c1 w1, w1.ownsRow base e 1 (.slice A1 (k + 1) c1) (k + 1) (xs ++ [y]) → W.grownBy w1 v.ownBlock →
      ((Value.slice A1 (k + 1) c1).ownBlock = v.ownBlock ∨ ∃ b, (Value.slice A1 (k + 1) c1).ownBlock = some b ∧ W.heap.size ≤ b) → W.heap.size < w1.heap.size → wpList P ops Q rest (a.put o.dst (.slice A1 (k + 1) c1)) w1) :
    wpList P ops Q (o :: rest) a (W.alloc (.cells #[y] e)) :=
  append_one base hgd s x t e z bytes ho ht hinfo hz hb0 v k xs y hs (by rw [hD]; exact hx) h1 HO hbase hl h
end
theorem order_any (l : List Ev) (A : Option Addr) (c : Nat) (w : World) (h : EvAt w A l) :
    Calls Tryz.prog 146 #[.slice A l.length c] w fun e w' => Below w.heap.size w w' ∧ ∃ A1 c1, e = .returned (.slice A1 (orderL l).length c1) ∧ w'.ownsRow w.heap.size 3 1 (.slice A1 (orderL l).length c1) (orderL l).length (intsV (orderL l)) := by
  have H := Lib.hid h
  have hl := h.1
  clear h
  go_enter Tryz.func146, Tryz.ntmps146
  go_wp2
  go_loopg [3, 8] l.length (fun gk a b wr => ∃ (k : Nat) (A1 : Option Addr) (c1 : Nat), gk = l.length - k ∧ k ≤ l.length ∧ b = .int .i64 (k : Int) ∧ a = .slice A1 (orderL (l.take k)).length c1 ∧ wr.ownsRow w.heap.size 3 1 (.slice A1 (orderL (l.take k)).length c1) (orderL (l.take k)).length (intsV (orderL (l.take k))) ∧ Below w.heap.size w wr)
  case atStart => exact ⟨0, none, 0, rfl, Nat.zero_le _, rfl, rfl, World.ownsRow_nil _ _ _ _, Below.refl _ _⟩
  case round =>
    obtain ⟨k, A1, c1, rfl, hk, rfl, rfl, hown, hbel⟩ := hrel
    have hol : (orderL (l.take k)).length ≤ k := by have := orderL_le (l.take k); rw [List.length_take] at this; omega
    by_cases hlt : k < l.length
    · obtain ⟨g, rfl, hg, e1, e2, e3⟩ := (H.out.below hbel).2 k hlt
      have hlt' : (k : Int) < (l.length : Int) := by omega
      have HO := Lib.hid hown
      have HB := Lib.hid hbel
      have HS := Lib.hid (orderL_succ l k hlt)
      clear hown hbel
      generalize hL : (orderL (l.take k)).length = L at *
      generalize (l[k]).job = jb at *
      by_cases h6 : (l[k]).what = 6
      · rw [if_pos h6] at HS
        rw [h6] at e2
        clear h6
        have HO2 := Lib.hid (HO.out.alloc (.cells #[.int .i64 ((l[k]).actor : Int), .int .i64 6, .int .i64 jb] 244))
        generalize (l[k]).actor = ac at *
        go_wp2_with (at_builtin; refine append_one_at (wr.heap.size + 1) (by simp) w.heap.size rfl _ _ 66 3 (.int .i64 0) 8 rfl Tryz.underlying66 Tryz.info3 rfl (by decide) (.slice A1 L c1) L (intsV (orderL (l.take k))) (.int .i64 jb) rfl rfl rfl HO2.out (by have := HB.out.size; simp; omega) (by omega) ?_)
        intro A2 c2 w3 ho3 hg3 hat3 hsz3
        have e5 : intsV (orderL (l.take k)) ++ [.int .i64 jb] = intsV (orderL (l.take (k + 1))) := by rw [HS.out]; simp [intsV]
        have e6 : (orderL (l.take (k + 1))).length = L + 1 := by rw [HS.out, List.length_append, hL]; rfl
        rw [e5] at ho3
        have HO3 := Lib.hid ho3
        have HE6 := Lib.hid e6
        have HB3 : Hid (Below w.heap.size w w3) := (HB.out.alloc HB.out.size _).grown hg3 (by have := HB.out.size; simp; omega) (own_base HO2.out)
        clear ho3 hg3 hat3 hsz3 e5 e6
        go_wp2
        go_roundg (l.length - (k + 1))
        case measure => omega
        case rel => exact ⟨k + 1, A2, c2, rfl, hlt, by go_num, by rw [HE6.out], by rw [HE6.out]; exact HO3.out, HB3.out⟩
      · rw [if_neg h6, List.append_nil] at HS
        have t6 : (((l[k]).what : Int) == 6) = false := by simp; omega
        generalize (l[k]).what = wt at *
        generalize (l[k]).actor = ac at *
        clear h6
        go_wp2
        go_roundg (l.length - (k + 1))
        case measure => omega
        case rel => exact ⟨k + 1, A1, c1, rfl, hlt, by go_num, by rw [HS.out, hL], by rw [HS.out, hL]; exact HO.out.alloc _, HB.out.alloc HB.out.size _⟩
    · obtain rfl : k = l.length := by omega
      rw [List.take_length] at hown ⊢
      have HO := Lib.hid hown
      clear hown
      go_wp2
      go_ret
      exact ⟨hbel, A1, c1, rfl, HO.out⟩
theorem awake_ev : (runK 1 1 [] (6 * 1 + 1 + 2)).ev = [⟨0, 0, 0⟩, ⟨0, 1, -1⟩, ⟨1, 3, 0⟩, ⟨1, 4, 0⟩, ⟨1, 5, 0⟩, ⟨1, 6, 0⟩, ⟨1, 7, 0⟩, ⟨1, 8, -1⟩, ⟨0, 2, -1⟩] := by decide +kernel
def awakeL : List Ev := [⟨0, 0, 0⟩, ⟨0, 1, -1⟩, ⟨1, 3, 0⟩, ⟨1, 4, 0⟩, ⟨1, 5, 0⟩, ⟨1, 6, 0⟩, ⟨1, 7, 0⟩, ⟨1, 8, -1⟩, ⟨0, 2, -1⟩]
theorem awake_run (w : World) : Calls Tryz.prog 144 #[.int .i64 1, .int .i64 1, .slice none 0 0] w fun e w' => Below w.heap.size w w' ∧ ∃ g c, e = .returned (.tuple #[.slice (some ⟨g, 0, none⟩) 9 c, .int .i64 0]) ∧ EvAt w' (some ⟨g, 0, none⟩) awakeL := by
  refine (run_any 1 1 [] none 0 0 w ⟨rfl, by decide, fun j hj => by omega⟩ (fun p hp => by simp at hp) (by decide) (by decide) (by decide)).mono ?_
  rintro e w1 ⟨hb1, A, c, rfl, ho1⟩
  rw [awake_ev] at ho1
  have h := EvAt.of_own ho1 (by decide)
  obtain ⟨g, rfl, _⟩ := h.2 0 (by decide)
  refine ⟨hb1, g, c, ?_, h⟩
  rw [awake_ev]; rfl
theorem awake_order (A : Option Addr) (c : Nat) (w : World) (h : EvAt w A awakeL) :
    Calls Tryz.prog 146 #[.slice A 9 c] w fun e w' => Below w.heap.size w w' ∧ ∃ ad c1, e = .returned (.slice (some ad) 1 c1) ∧ w'.cell? ad = some (.int .i64 0) := by
  refine (order_any awakeL A c w h).mono ?_
  rintro e w1 ⟨hb1, A1, c1, rfl, ho1⟩
  have e1 : orderL awakeL = [0] := rfl
  rw [e1] at ho1 ⊢
  obtain ⟨ad, rfl, hc⟩ := (own_reads ho1).at_ 0 (by decide)
  rw [addr_zero] at hc
  exact ⟨hb1, ad, c1, rfl, hc⟩
end Go.Proofs.YtladmconpolneaaGreat.Cr

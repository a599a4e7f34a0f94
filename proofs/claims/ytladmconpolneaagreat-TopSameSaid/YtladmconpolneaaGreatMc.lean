/- Several texts of this seat, laid together (no statement of its own): their conditions stand in each theorem. -/
import Derived.Test.YtladmconpolneaaGreatMb
/- Where draws come from. -/
set_option linter.unusedVariables false
set_option linter.unusedSimpArgs false
namespace Go.Proofs.YtladmconpolneaaGreat
open Go.RowKit
theorem nil_mix (a : Addr) (w : World) : (nilAhead 487 292 (.pointer (some a)) "Draw").run Tryz.prog w = .ok (some false) w := by kernel_rfl
theorem nil_scr (a : Addr) (w : World) : (nilAhead 487 289 (.pointer (some a)) "Draw").run Tryz.prog w = .ok (some false) w := by kernel_rfl
theorem met_mix (a : Addr) (w : World) : (method 487 292 (.pointer (some a)) "Draw").run Tryz.prog w = .ok (275, .pointer (some a)) w := by kernel_rfl
theorem met_scr (a : Addr) (w : World) : (method 487 289 (.pointer (some a)) "Draw").run Tryz.prog w = .ok (274, .pointer (some a)) w := by kernel_rfl
def U64 (x : Int) : Prop := 0 ≤ x ∧ x < 18446744073709551616
theorem wrapU (n : Int) : U64 (IntKind.u64.wrap n) := by unfold U64; rw [IntKind.wrap_u64]; omega
theorem xorU {a b : Int} (ha : U64 a) (hb : U64 b) : U64 (bits .xor .u64 a b) := by
  unfold U64 at *
  rw [u64_xor a b ha.1 ha.2 hb.1 hb.2]
  have := Nat.xor_lt_two_pow (n := 64) (show a.toNat < 2 ^ 64 by omega) (show b.toNat < 2 ^ 64 by omega)
  omega
theorem divU {a : Int} (ha : U64 a) (k : Int) (hk : 1 ≤ k) : U64 (a / k) := by
  unfold U64 at *
  have h1 := Int.ediv_nonneg ha.1 (show 0 ≤ k by omega)
  have h2 : a / k ≤ a := Int.ediv_le_self _ ha.1
  omega
def mixS (st : Int) : Int := IntKind.u64.wrap (st + 11400714819323198485)
def mix1 (s : Int) : Int := IntKind.u64.wrap (bits .xor .u64 s (s / 1073741824) * 13787848793156543929)
def mix2 (s : Int) : Int := IntKind.u64.wrap (bits .xor .u64 s (s / 134217728) * 10723151780598845931)
def mixO (s : Int) : Int := bits .xor .u64 s (s / 2147483648)
def mixD (st : Int) : Int := mixO (mix2 (mix1 (mixS st)))
theorem mixD_u (st : Int) : U64 (mixD st) := xorU (wrapU _) (divU (wrapU _) _ (by decide))
/-- What a source is: a list, or a state. -/
inductive Src
  | scr (l : List Int)
  | mix (st : Int)
def Src.draw : Src → Int × Src
  | .scr [] => (0, .scr [])
  | .scr (x :: l) => (x, .scr l)
  | .mix st => (mixD st, .mix (mixS st))
def Src.Ok : Src → Prop
  | .scr l => ∀ x ∈ l, U64 x
  | .mix _ => True
theorem Src.draw_ok {s : Src} (h : s.Ok) : U64 s.draw.1 ∧ s.draw.2.Ok := by
  cases s with
  | scr l =>
    cases l with
    | nil => exact ⟨⟨by decide, by decide⟩, h⟩
    | cons x l => exact ⟨h x (by simp), fun y hy => h y (by simp [hy])⟩
  | mix st => exact ⟨mixD_u st, trivial⟩
def u64V (l : List Int) : List Value := l.map fun z => .int .u64 z
theorem u64V_length (l : List Int) : (u64V l).length = l.length := by simp [u64V]
theorem u64V_getD (l : List Int) (k : Nat) (h : k < l.length) : (u64V l).getD k undef = .int .u64 (l.getD k 0) := by
  simp [u64V, List.getD_eq_getElem?_getD, List.getElem?_eq_getElem h]
theorem Reads.u64_len {w : World} {A : Option Addr} {n : Nat} {l : List Int} (h : Reads w A n (u64V l)) : l.length = n := by
  have := h.1; rw [u64V_length] at this; exact this
theorem Reads.u64 {w : World} {A : Option Addr} {n : Nat} {l : List Int} (h : Reads w A n (u64V l)) (k : Nat) (hk : k < n) : ∃ ad, A = some ad ∧ w.cell? (ad.add k) = some (.int .u64 (l.getD k 0)) := by
  obtain ⟨ad, e, hc⟩ := h.at_ k hk
  refine ⟨ad, e, ?_⟩
  rw [hc, u64V_getD _ _ (by rw [h.u64_len]; exact hk)]
/-- A slice that is read, of blocks of a type. -/
def RT (w : World) (e : TypeId) (A : Option Addr) (n : Nat) (vs : List Value) : Prop :=
  Reads w A n vs ∧ ∀ ad, A = some ad → 0 < n → ∃ cur fr, w.heap[ad.block]? = some (.cells cur e fr)
theorem RT.of_own {w : World} {base n c : Nat} {e : TypeId} {A : Option Addr} {xs : List Value} (h : w.ownsRow base e 1 (.slice A n c) n xs) : RT w e A n xs := by
  refine ⟨own_reads h, fun ad ea hn => ?_⟩
  rcases h.2 with ⟨_, h1⟩ | ⟨g, cap, cur, h1, _, hg, _⟩
  · omega
  · simp only [Value.slice.injEq] at h1
    rw [ea] at h1
    have := Option.some.inj h1.1
    subst this
    exact ⟨cur, (0, 0), hg⟩
theorem RT.keep {w w' : World} {e : TypeId} {A : Option Addr} {n : Nat} {vs : List Value} (h : RT w e A n vs) (hk : ∀ (k : Nat) cells fr, w.heap[k]? = some (.cells cells e fr) → w'.heap[k]? = w.heap[k]?) : RT w' e A n vs := by
  have hb : ∀ ad, A = some ad → 0 < n → w'.heap[ad.block]? = w.heap[ad.block]? := fun ad ea hn => by
    obtain ⟨cur, fr, hg⟩ := h.2 ad ea hn
    exact hk _ _ _ hg
  refine ⟨⟨h.1.1, h.1.2.1, fun j hj => ?_⟩, fun ad ea hn => ?_⟩
  · obtain ⟨ad, ea, hc⟩ := h.1.2.2 j hj
    have hbl : (ad.add j).block = ad.block := by unfold Addr.add; split <;> rfl
    exact ⟨ad, ea, (World.cell?_of_block (by rw [hbl]; exact hb ad ea (by omega))).trans hc⟩
  · obtain ⟨cur, fr, hg⟩ := h.2 ad ea hn
    exact ⟨cur, fr, by rw [hb ad ea hn]; exact hg⟩
theorem RT.nil (w : World) (e : TypeId) : RT w e none 0 [] := ⟨reads_nil w, fun ad ea => by cases ea⟩
/-- A source in memory, in block b. -/
def SrcAt (w : World) (b : Nat) (v : Value) : Src → Prop
  | .scr l => v = .iface 289 (.pointer (some ⟨b, 0, none⟩)) ∧ ∃ A c, w.heap[b]? = some (.cells #[.slice A l.length c] 291 (0, 0)) ∧ RT w 23 A l.length (u64V l) ∧ l.length ≤ c
  | .mix st => v = .iface 292 (.pointer (some ⟨b, 0, none⟩)) ∧ w.heap[b]? = some (.cells #[.int .u64 st] 294 (0, 0))
theorem SrcAt.lt {w : World} {b : Nat} {v : Value} {s : Src} (h : SrcAt w b v s) : b < w.heap.size := by
  cases s with
  | scr l => obtain ⟨_, A, c, h1, _⟩ := h; exact lt_of_block h1
  | mix st => exact lt_of_block h.2
theorem SrcAt.keep {w w' : World} {b : Nat} {v : Value} {s : Src} (h : SrcAt w b v s) (hk : ∀ (k : Nat) cells t fr, w.heap[k]? = some (.cells cells t fr) → t = 23 ∨ t = 291 ∨ t = 294 → w'.heap[k]? = w.heap[k]?) : SrcAt w' b v s := by
  cases s with
  | scr l =>
    obtain ⟨e, A, c, h1, h2, h3⟩ := h
    exact ⟨e, A, c, by rw [hk _ _ _ _ h1 (by simp)]; exact h1, h2.keep (fun k cells fr hk' => hk _ _ _ _ hk' (by simp)), h3⟩
  | mix st => exact ⟨h.1, by rw [hk _ _ _ _ h.2 (by simp)]; exact h.2⟩
theorem SrcAt.below {w w' : World} {b : Nat} {v : Value} {s : Src} (h : SrcAt w b v s) (hb : Below w.heap.size w w') : SrcAt w' b v s := h.keep fun k _ _ _ hk _ => hb.block k (lt_of_block hk)
theorem grown_drewN {w w' : World} {r : Option Nat} (h : w.grownBy w' r) (n : Nat) : w.grownBy (w'.drewN n) r := ⟨h.os, h.tape, h.output, h.size, h.block⟩
theorem grown_setCell (w : World) (b k : Nat) (v : Value) : w.grownBy (w.setCell ⟨b, k, none⟩ v) (some b) :=
  ⟨rfl, rfl, rfl, by simp [World.setCell], fun i _ hne => Below.heap_setCell _ _ _ _ (fun e => hne (by rw [e]))⟩
/-- A draw. -/
def DrawPost (w : World) (b : Nat) (v : Value) (s : Src) (e : Ending) (w' : World) : Prop := e = .returned (.int .u64 s.draw.1) ∧ SrcAt w' b v s.draw.2 ∧ w.grownBy w' (some b)
theorem draw_mix (b : Nat) (v : Value) (st : Int) (w : World) (h : SrcAt w b v (.mix st)) : Calls Tryz.prog 275 #[.pointer (some ⟨b, 0, none⟩)] w (DrawPost w b v (.mix st)) := by
  obtain ⟨hv, hg⟩ := h
  have c0 : w.cell? ⟨b, 0, none⟩ = some (.int .u64 st) := cell_of_row _ _ _ _ _ _ hg
  have f0 : w.frozen? ⟨b, 0, none⟩ = false := frozen_of_row _ _ _ _ _ hg
  have HG := Lib.hid hg
  have HV := Lib.hid hv
  clear hg hv
  go_enter Tryz.func275, Tryz.ntmps275
  go_wp2
  go_ret
  refine ⟨rfl, ⟨HV.out, ?_⟩, grown_setCell _ _ _ _⟩
  exact heap_setCell_same w b 0 _ _ _ HG.out
theorem draw_scr (b : Nat) (v : Value) (l : List Int) (w : World) (h : SrcAt w b v (.scr l)) : Calls Tryz.prog 274 #[.pointer (some ⟨b, 0, none⟩)] w (DrawPost w b v (.scr l)) := by
  obtain ⟨hv, A, c, hg, hr, hc⟩ := h
  have c0 : w.cell? ⟨b, 0, none⟩ = some (.slice A l.length c) := cell_of_row _ _ _ _ _ _ hg
  have f0 : w.frozen? ⟨b, 0, none⟩ = false := frozen_of_row _ _ _ _ _ hg
  have HG := Lib.hid hg
  have HV := Lib.hid hv
  cases l with
  | nil =>
    have HR := Lib.hid hr
    clear hg hv hr
    go_enter Tryz.func274, Tryz.ntmps274
    go_wp2
    go_ret
    exact ⟨rfl, ⟨HV.out, A, c, HG.out, HR.out, hc⟩, World.grownBy.refl _ _⟩
  | cons x l =>
    have hm := hr.1.2.1
    obtain ⟨ad, rfl, c1⟩ := hr.1.u64 0 (by simp)
    have c1' : w.cell? ad = some (.int .u64 x) := by
      have : ad.add 0 = ad := by unfold Addr.add; split <;> simp_all
      rw [this] at c1; exact c1
    have hpos : (0 : Int) < ((x :: l).length : Int) := by rw [List.length_cons]; omega
    have hne : (((x :: l).length : Int) == 0) = false := by rw [beq_eq_false_iff_ne]; omega
    have hl1 : (x :: l).length = l.length + 1 := rfl
    have hkeep : RT w 23 ((some ad).map (·.add 1)) l.length (u64V l) := by
      refine ⟨⟨u64V_length l, by have := hr.1.2.1; omega, fun j hj => ?_⟩, fun ad' e' hn => ?_⟩
      · obtain ⟨ad2, e2, hc2⟩ := hr.1.u64 (j + 1) (by omega)
        have := Option.some.inj e2
        subst this
        refine ⟨ad.add 1, rfl, ?_⟩
        rw [Addr.add_add, Nat.add_comm 1 j, hc2, u64V_getD _ _ hj]
        simp
      · obtain ⟨cur, fr, hcur⟩ := hr.2 ad rfl (by simp)
        have := Option.some.inj e'
        subst this
        have hbl : (ad.add 1).block = ad.block := by unfold Addr.add; split <;> rfl
        exact ⟨cur, fr, by rw [hbl]; exact hcur⟩
    have hkeep2 : RT w 23 (some ad) 0 (u64V []) := ⟨⟨rfl, by decide, fun j hj => by omega⟩, fun _ _ hn => by omega⟩
    have HK := Lib.hid hkeep
    have HK2 := Lib.hid hkeep2
    have hne2 : ∀ (k : Nat) cells (fr : Nat × Nat), w.heap[k]? = some (.cells cells 23 fr) → k ≠ b := by
      rintro k cells fr hk rfl
      rw [HG.out] at hk
      injection hk with hk
      injection hk with _ h2
      cases h2
    have HN := Lib.hid hne2
    clear hg hv hr c1 hkeep hkeep2 hne2
    generalize (x :: l).length = q at *
    subst hl1
    by_cases h1 : c = 1
    · subst h1
      have hl0 : l.length = 0 := by omega
      obtain rfl : l = [] := List.eq_nil_of_length_eq_zero hl0
      go_enter Tryz.func274, Tryz.ntmps274
      go_wp2
      go_ret
      refine ⟨rfl, ⟨HV.out, some ad, 0, heap_setCell_same w b 0 _ _ _ HG.out, ?_, by simp⟩, grown_setCell _ _ _ _⟩
      exact HK2.out.keep fun k cells fr hk => Below.heap_setCell _ _ _ _ (HN.out k cells fr hk)
    · have h1c : 1 < c := by omega
      go_enter Tryz.func274, Tryz.ntmps274
      go_wp2
      go_ret
      have e1 : (some ad).map (·.add 1) = some ⟨ad.block, ad.off + 1, none⟩ := by simp [Addr.add]
      have hK := HK.out
      rw [e1] at hK
      refine ⟨rfl, ⟨HV.out, _, c - 1, heap_setCell_same w b 0 _ _ _ HG.out, ?_, by omega⟩, grown_setCell _ _ _ _⟩
      exact hK.keep fun k cells fr hk => Below.heap_setCell _ _ _ _ (HN.out k cells fr hk)
/-- A number below n. -/
def BelowPost (w : World) (b n : Nat) (v : Value) (s : Src) (e : Ending) (w' : World) : Prop := ∃ r : Nat, r < n ∧ (r : Int) = s.draw.1 % (n : Int) ∧ e = .returned (.int .i64 (r : Int)) ∧ SrcAt w' b v s.draw.2 ∧ w.grownBy w' (some b)
theorem below_any (b n : Nat) (v : Value) (s : Src) (w : World) (h : SrcAt w b v s) (ho : s.Ok) (h1 : 1 ≤ n) (h2 : n ≤ 1000000) : Calls Tryz.prog 180 #[v, .int .i64 (n : Int)] w (BelowPost w b n v s) := by
  have hd := (Src.draw_ok ho).1
  have hr1 : 0 ≤ s.draw.1 % (n : Int) := Int.emod_nonneg _ (by omega)
  have hr2 : s.draw.1 % (n : Int) < (n : Int) := Int.emod_lt_of_pos _ (by omega)
  have hz : ((n : Int) == 0) = false := by rw [beq_eq_false_iff_ne]; omega
  have hz2 : ¬ (n : Int) = 0 := by omega
  have hn : ¬ (n : Int) < 1 := by omega
  have wn : IntKind.u64.wrap (n : Int) = (n : Int) := IntWalk.u64_in _ (by omega)
  obtain ⟨r, hr⟩ := Int.eq_ofNat_of_zero_le hr1
  have wr : IntKind.i64.wrap (s.draw.1 % (n : Int)) = s.draw.1 % (n : Int) := IntWalk.i64_in _ (by omega)
  have wr2 : IntKind.u64.wrap (s.draw.1 % (n : Int)) = s.draw.1 % (n : Int) := IntWalk.u64_in _ (by omega)
  have htm : Int.tmod s.draw.1 (n : Int) = s.draw.1 % (n : Int) := Int.tmod_eq_emod_of_nonneg hd.1
  have H : Hid (∀ e w', DrawPost w b v s e w' → e = .returned (.int .u64 s.draw.1) ∧ SrcAt w' b v s.draw.2 ∧ w.grownBy w' (some b)) := fun e w' h => h
  have HR := Lib.hid hr
  have hrn : r < n := by omega
  obtain ⟨hd1, hd2⟩ := hd
  clear hd2 hr
  cases s with
  | scr l =>
    obtain ⟨hv, _⟩ := id h
    subst hv
    have HD := Lib.hid (draw_scr b _ l w h)
    have q1 := nil_scr
    have q2 := met_scr
    clear h ho
    generalize hdd : (Src.scr l).draw.1 = d at *
    have HDD := Lib.hid hdd
    clear hdd
    go_enter Tryz.func180, Tryz.ntmps180
    go_wp2_with fail
    refine HD.out.mono ?_
    rintro e w1 hp
    obtain ⟨rfl, hs, hg⟩ := H.out e w1 hp
    have HS := Lib.hid hs
    have HG := Lib.hid hg
    clear hs hg hp
    go_wp2
    go_ret
    exact ⟨r, hrn, by rw [HDD.out]; exact HR.out.symm, by simp [← HR.out], HS.out, HG.out⟩
  | mix st =>
    obtain ⟨hv, _⟩ := id h
    subst hv
    have HD := Lib.hid (draw_mix b _ st w h)
    have q1 := nil_mix
    have q2 := met_mix
    clear h ho
    generalize hdd : (Src.mix st).draw.1 = d at *
    have HDD := Lib.hid hdd
    clear hdd
    go_enter Tryz.func180, Tryz.ntmps180
    go_wp2_with fail
    refine HD.out.mono ?_
    rintro e w1 hp
    obtain ⟨rfl, hs, hg⟩ := H.out e w1 hp
    have HS := Lib.hid hs
    have HG := Lib.hid hg
    clear hs hg hp
    go_wp2
    go_ret
    exact ⟨r, hrn, by rw [HDD.out]; exact HR.out.symm, by simp [← HR.out], HS.out, HG.out⟩
/-- Two unlike numbers below n. -/
def PairPost (w : World) (b n : Nat) (v : Value) (s : Src) (e : Ending) (w' : World) : Prop :=
  ∃ (i k : Nat), i < n ∧ k < n ∧ i ≠ k ∧ e = .returned (.tuple #[.int .i64 (i : Int), .int .i64 (k : Int)]) ∧ SrcAt w' b v s.draw.2.draw.2 ∧ w.grownBy w' (some b)
theorem pair_any (b n : Nat) (v : Value) (s : Src) (w : World) (h : SrcAt w b v s) (ho : s.Ok) (h1 : 2 ≤ n) (h2 : n ≤ 1000000) : Calls Tryz.prog 139 #[v, .int .i64 (n : Int)] w (PairPost w b n v s) := by
  have hA := Lib.hid (below_any b n v s w h ho (by omega) h2)
  have hB : Hid (∀ w1, SrcAt w1 b v s.draw.2 → Calls Tryz.prog 180 #[v, .int .i64 ((n : Int) - 1)] w1 (BelowPost w1 b (n - 1) v s.draw.2)) := fun w1 h1' => by
    have := below_any b (n - 1) v s.draw.2 w1 h1' (Src.draw_ok ho).2 (by omega) (by omega)
    rw [show ((n - 1 : Nat) : Int) = (n : Int) - 1 from by omega] at this
    exact this
  have hn : ¬ (n : Int) < 2 := by omega
  clear h ho
  go_enter Tryz.func139, Tryz.ntmps139
  go_wp2_with fail
  refine hA.out.mono ?_
  rintro e w1 ⟨r, hr, hre, rfl, hs1, hg1⟩
  clear hre
  have HS1 := Lib.hid hs1
  have HG1 := Lib.hid hg1
  clear hs1 hg1
  go_wp2_with fail
  refine (hB.out _ HS1.out).mono ?_
  rintro e w2 ⟨q, hq, hqe, rfl, hs2, hg2⟩
  clear hqe
  have HS2 := Lib.hid hs2
  have HG2 := Lib.hid (HG1.out.trans hg2)
  clear hs2 hg2
  by_cases hqr : r ≤ q
  · go_wp2
    go_ret2
    exact ⟨r, q + 1, hr, by omega, by omega, by simp, HS2.out, HG2.out⟩
  · go_wp2
    go_ret2
    exact ⟨r, q, hr, by omega, by omega, rfl, HS2.out, HG2.out⟩
theorem Tryz.info23 : (Tryz.prog.info? 23).map (fun i => (i.zero, i.size, i.bytes)) = some (some (.int .u64 0), 1, 8) := by kernel_rfl
/-- A source of new memory. -/
def NewSrc (w : World) (s : Src) (e : Ending) (w' : World) : Prop := ∃ b v, e = .returned v ∧ SrcAt w' b v s ∧ w.heap.size ≤ b ∧ Below w.heap.size w w'
theorem mixer_any (st : Int) (w : World) : Calls Tryz.prog 137 #[.int .u64 st] w (NewSrc w (.mix st)) := by
  go_enter Tryz.func137, Tryz.ntmps137
  go_wp2
  go_ret
  exact ⟨w.heap.size, _, rfl, ⟨rfl, heap_alloc_new _ _⟩, Nat.le_refl _, (Below.refl _ _).alloc (Nat.le_refl _) _⟩
theorem u64V_one (l : List Int) : ∀ u ∈ u64V l, u.oneCell' = true := fun u hu => by
  obtain ⟨z, _, rfl⟩ := List.mem_map.mp hu
  rfl
theorem script_any (l : List Int) (A : Option Addr) (n c : Nat) (w : World) (h : Reads w A n (u64V l)) (hn : n ≤ 100000) : Calls Tryz.prog 136 #[.slice A n c] w (NewSrc w (.scr l)) := by
  obtain rfl := h.u64_len
  have H := Lib.hid h
  have V1 := Lib.hid (u64V_one l)
  clear h
  go_enter Tryz.func136, Tryz.ntmps136
  go_wp2_with (at_builtin; refine append_reads w.heap.size rfl _ _ 24 23 (.int .u64 0) 8 rfl Tryz.underlying24 Tryz.info23 rfl (by decide) (.slice none 0 0) 0 [] rfl (own_nil _ _ _ _) A l.length c (u64V l) rfl H.out V1.out (by omega) (Nat.le_refl _) ?_)
  intro A1 c1 w1 ho1 hg1
  have hb : Below w.heap.size w w1 := (Below.refl _ _).grown hg1 (Nat.le_refl _) (fun k hk => by cases hk)
  have HO : Hid (w1.ownsRow w.heap.size 23 1 (.slice A1 l.length c1) l.length (u64V l)) := by show World.ownsRow _ _ _ _ _ _ _; simpa using ho1
  have HB := Lib.hid hb
  clear ho1 hb hg1
  go_wp2
  go_ret
  refine ⟨w1.heap.size, _, rfl, ⟨rfl, A1, c1, ?_, ?_, own_cap HO.out⟩, HB.out.size, HB.out.alloc HB.out.size _⟩
  · have := heap_alloc_new w1 (.cells #[.slice A1 l.length c1] 291)
    simpa using this
  · exact (RT.of_own HO.out).keep fun k cells fr hk => by rw [Below.heap_alloc _ _ _ (lt_of_block hk)]
def nthD (seed : Int) (n : Nat) : Int := mixD (IntKind.u64.wrap (seed + IntKind.u64.wrap ((n : Int) * 11400714819323198485)))
theorem nth_any (seed : Int) (n : Nat) (w : World) (hn : n ≤ 100000) : Calls Tryz.prog 138 #[.int .u64 seed, .int .i64 (n : Int)] w fun e w' => e = .returned (.int .u64 (nthD seed n)) ∧ Below w.heap.size w w' := by
  have hn0 : ¬ (n : Int) < 0 := by omega
  have HM := Lib.hid (fun st w => mixer_any st w)
  have HD := Lib.hid (fun b v st w h => draw_mix b v st w h)
  have q1 := nil_mix
  have q2 := met_mix
  go_enter Tryz.func138, Tryz.ntmps138
  go_wp2_with fail
  refine (HM.out _ _).mono ?_
  rintro e w1 ⟨b, v, rfl, ⟨hv, hg⟩, hlt, hb⟩
  subst hv
  have HG := Lib.hid hg
  have HB := Lib.hid hb
  clear hg hb
  go_wp2_with fail
  refine (HD.out b _ _ w1 ⟨rfl, HG.out⟩).mono ?_
  rintro e w2 ⟨rfl, _, hg2⟩
  have HB2 := Lib.hid (HB.out.grown hg2 HB.out.size (fun k hk => by cases hk; exact hlt))
  clear hg2
  go_wp2
  go_ret
  exact ⟨rfl, HB2.out⟩
/-- What of a list a tree takes. -/
def pickTo (l : List Int) (tree trees : Nat) : Nat → List Int
  | 0 => []
  | k + 1 => if k % trees = tree then pickTo l tree trees k ++ [l.getD k 0] else pickTo l tree trees k
theorem pickTo_le (l : List Int) (tree trees k : Nat) : (pickTo l tree trees k).length ≤ k := by
  induction k with
  | zero => exact Nat.le_refl _
  | succ k ih =>
    unfold pickTo
    split
    · rw [List.length_append, List.length_singleton]; omega
    · omega
theorem pickTo_ok (l : List Int) (tree trees k : Nat) (h : ∀ x ∈ l, U64 x) (hk : k ≤ l.length) : ∀ x ∈ pickTo l tree trees k, U64 x := by
  induction k with
  | zero => intro x hx; cases hx
  | succ k ih =>
    have := ih (by omega)
    unfold pickTo
    split
    · intro x hx
      rcases List.mem_append.1 hx with hx | hx
      · exact this x hx
      · simp only [List.mem_singleton] at hx
        rw [hx, List.getD_eq_getElem?_getD, List.getElem?_eq_getElem (by omega)]
        exact h _ (List.getElem_mem _)
    · exact this
/-- A tree's source. -/
def srcOf (scripted : Bool) (seed : Int) (l : List Int) (tree trees : Nat) : Src := if scripted then .scr (pickTo l tree trees l.length) else .mix (nthD seed tree)
theorem srcOf_ok (scripted : Bool) (seed : Int) (l : List Int) (tree trees : Nat) (h : ∀ x ∈ l, U64 x) : (srcOf scripted seed l tree trees).Ok := by
  unfold srcOf
  split
  · exact pickTo_ok l tree trees l.length h (Nat.le_refl _)
  · trivial
theorem Tryz.info26 : (Tryz.prog.info? 26).map (·.size) = some 3 := by kernel_rfl
set_option maxHeartbeats 800000 in
theorem stream_any (scripted : Bool) (seed : Int) (l : List Int) (L : Option Addr) (c tree trees : Nat) (w : World) (h : Reads w L l.length (u64V l)) (ht : tree < trees) (hts : trees ≤ 100000) (hl : l.length ≤ 1000) :
    Calls Tryz.prog 97 #[.agg #[.bool scripted, .int .u64 seed, .slice L l.length c], .int .i64 (tree : Int), .int .i64 (trees : Int)] w (NewSrc w (srcOf scripted seed l tree trees)) := by
  have h0 : ¬ (tree : Int) < 0 := by omega
  have h1 : ¬ (trees : Int) ≤ (tree : Int) := by omega
  have h1' : (tree : Int) < (trees : Int) := by omega
  have HB0 : Hid (∀ o, Below w.heap.size w (w.alloc o)) := fun o => (Below.refl _ _).alloc (Nat.le_refl _) _
  cases scripted with
  | false =>
    have HN := Lib.hid (fun w => nth_any seed tree w (by omega))
    have HM := Lib.hid (fun st w => mixer_any st w)
    clear h
    go_enter Tryz.func97, Tryz.ntmps97
    go_wp2_with (first
      | (go_at_call 138; refine (HN.out _).mono ?_; rintro e w1 ⟨rfl, hb1⟩; have HB1 := Lib.hid ((HB0.out _).trans (hb1.mono (by simp))); clear hb1)
      | (go_at_call 137; refine (HM.out _ _).mono ?_; rintro e w2 ⟨b, v, rfl, hs2, hlt2, hb2⟩; have HS2 := Lib.hid hs2; have HB2 := Lib.hid (HB1.out.trans (hb2.mono HB1.out.size)); have hle := HB1.out.size; clear hs2 hb2))
    go_ret
    exact ⟨b, v, rfl, HS2.out, by omega, HB2.out⟩
  | true =>
    have HR := Lib.hid h
    have hz : ((trees : Int) == 0) = false := by rw [beq_eq_false_iff_ne]; omega
    have hz2 : ¬ (trees : Int) = 0 := by omega
    clear h
    go_enter Tryz.func97, Tryz.ntmps97
    go_wp2
    go_loopg [7, 31] l.length (fun gk v i wr => ∃ k : Nat, gk = l.length - k ∧ k ≤ l.length ∧ i = .int .i64 (k : Int) ∧ wr.ownsRow w.heap.size 23 1 v (pickTo l tree trees k).length (u64V (pickTo l tree trees k)) ∧ Below w.heap.size w wr)
    case atStart => exact ⟨0, rfl, Nat.zero_le _, rfl, own_nil _ _ _ _, HB0.out _⟩
    case round =>
      obtain ⟨k, rfl, hk, rfl, ho, hbel⟩ := hrel
      obtain ⟨A0, c0, rfl⟩ := own_slice ho
      have HO := Lib.hid ho
      have HB := Lib.hid hbel
      by_cases hlt : k < l.length
      · obtain ⟨ad, rfl, hc⟩ := (HR.out.below hbel).u64 k hlt
        have hlt' : (k : Int) < (l.length : Int) := by omega
        have hle := pickTo_le l tree trees k
        have htm : Int.tmod (k : Int) (trees : Int) = ((k % trees : Nat) : Int) := by rw [Int.tmod_eq_emod_of_nonneg (by omega)]; rfl
        have hem : (k : Int) % (trees : Int) = ((k % trees : Nat) : Int) := rfl
        have HS : Hid (pickTo l tree trees (k + 1) = if k % trees = tree then pickTo l tree trees k ++ [l.getD k 0] else pickTo l tree trees k) := rfl
        have hmm : k % trees < trees := Nat.mod_lt _ (by omega)
        clear ho hbel
        generalize pickTo l tree trees k = pl at *
        generalize l.getD k 0 = x at *
        by_cases hkt : k % trees = tree
        · rw [if_pos hkt] at HS
          have hkt2 : (((k % trees : Nat) : Int) == (tree : Int)) = true := by simp; omega
          have wm : IntKind.i64.wrap ((k % trees : Nat) : Int) = ((k % trees : Nat) : Int) := IntWalk.i64_in _ (by omega)
          clear hkt
          generalize k % trees = r at *
          go_wp2_with (at_builtin; refine append_one w.heap.size rfl _ _ 24 23 (.int .u64 0) 8 rfl Tryz.underlying24 Tryz.info23 rfl (by decide) (.slice A0 pl.length c0) pl.length (u64V pl) (.int .u64 x) rfl rfl rfl HO.out HB.out.size (by omega) ?_)
          intro A1 c1 w1 ho1 hg1 _ _
          have HO1 := Lib.hid ho1
          have HB1 := Lib.hid (HB.out.grown hg1 HB.out.size (own_base HO.out))
          clear ho1 hg1
          go_wp2
          go_roundg (l.length - (k + 1))
          case measure => omega
          case rel =>
            refine ⟨k + 1, rfl, hlt, by go_num, ?_, HB1.out⟩
            rw [HS.out]
            have := HO1.out
            simpa [u64V] using this
        · rw [if_neg hkt] at HS
          have hkt2 : (((k % trees : Nat) : Int) == (tree : Int)) = false := by rw [beq_eq_false_iff_ne]; omega
          have wm : IntKind.i64.wrap ((k % trees : Nat) : Int) = ((k % trees : Nat) : Int) := IntWalk.i64_in _ (by omega)
          clear hkt
          generalize k % trees = r at *
          go_wp2
          go_roundg (l.length - (k + 1))
          case measure => omega
          case rel => exact ⟨k + 1, rfl, hlt, by go_num, by rw [HS.out]; exact HO.out, HB.out⟩
      · obtain rfl : k = l.length := by omega
        have hpl := pickTo_le l tree trees l.length
        have HSC := Lib.hid (script_any (pickTo l tree trees l.length) A0 _ c0 wr (own_reads ho) (by omega))
        clear ho hbel
        go_wp2_with fail
        refine HSC.out.mono ?_
        rintro e w2 ⟨b, v, rfl, hs2, hlt2, hb2⟩
        have HS2 := Lib.hid hs2
        have HB2 := Lib.hid (HB.out.trans (hb2.mono HB.out.size))
        have hle := HB.out.size
        clear hs2 hb2
        go_wp2
        go_ret
        exact ⟨b, v, rfl, HS2.out, by omega, HB2.out⟩
end Go.Proofs.YtladmconpolneaaGreat

/- Lists of ids: a copy; the first ones, and the others; are both sides? -/
set_option linter.unusedVariables false
set_option linter.unusedSimpArgs false
namespace Go.Proofs.YtladmconpolneaaGreat
open Go.RowKit
def natV (l : List Nat) : List Value := l.map fun k : Nat => .int .i64 (k : Int)
theorem natV_length (l : List Nat) : (natV l).length = l.length := by simp [natV]
theorem natV_getD (l : List Nat) (k : Nat) (h : k < l.length) : (natV l).getD k undef = .int .i64 ((l.getD k 0 : Nat) : Int) := by
  simp [natV, List.getD_eq_getElem?_getD, List.getElem?_eq_getElem h]
theorem natV_one (l : List Nat) : ∀ u ∈ natV l, u.oneCell' = true := fun u hu => by
  obtain ⟨z, _, rfl⟩ := List.mem_map.mp hu
  rfl
theorem natV_append (l m : List Nat) : natV (l ++ m) = natV l ++ natV m := by simp [natV]
theorem Reads.nat_len {w : World} {A : Option Addr} {n : Nat} {l : List Nat} (h : Reads w A n (natV l)) : l.length = n := by
  have := h.1; rw [natV_length] at this; exact this
theorem Reads.nat {w : World} {A : Option Addr} {n : Nat} {l : List Nat} (h : Reads w A n (natV l)) (k : Nat) (hk : k < n) : ∃ ad, A = some ad ∧ w.cell? (ad.add k) = some (.int .i64 ((l.getD k 0 : Nat) : Int)) := by
  obtain ⟨ad, e, hc⟩ := h.at_ k hk
  refine ⟨ad, e, ?_⟩
  rw [hc, natV_getD _ _ (by rw [h.nat_len]; exact hk)]
theorem Reads.natCut {w : World} {A : Option Addr} {n : Nat} {l : List Nat} (h : Reads w A n (natV l)) (p m : Nat) (hp : p + m ≤ n) : Reads w (A.map (·.add p)) m (natV ((l.drop p).take m)) := by
  have hl := h.nat_len
  refine ⟨by simp [natV]; omega, by have := h.2.1; omega, fun j hj => ?_⟩
  obtain ⟨ad, rfl, hc⟩ := h.nat (p + j) (by omega)
  refine ⟨ad.add p, rfl, ?_⟩
  rw [Addr.add_add, hc, natV_getD _ _ (by simp; omega)]
  rw [List.getD_eq_getElem?_getD, List.getD_eq_getElem?_getD, List.getElem?_take, if_pos hj, List.getElem?_drop]
theorem own_empty (w : World) (B : Nat) (hB : B ≤ w.heap.size) : (w.alloc (.cells #[] 3)).ownsRow B 3 1 (.slice (some ⟨w.heap.size, 0, none⟩) 0 0) 0 [] := by
  have := World.ownsRow_lit (base := B) (e := 3) (size := 1) w #[] 0 hB (by decide) rfl
  simpa using this
theorem cloneI_any (l : List Nat) (A : Option Addr) (n c : Nat) (w : World) (h : Reads w A n (natV l)) (hn : n ≤ 2000000) : Calls Tryz.prog 81 #[.slice A n c] w (Made 3 w (natV l) n) := by
  obtain rfl := h.nat_len
  have heq : ∀ w : World, (binOp .eql 66 (.slice A l.length c) (.slice none 0 0)).run Tryz.prog w = .ok (.bool A.isNone) w := fun w => Lib.run_eql_slice_nil w _ _ A _ _ _ _ Tryz.underlying66
  cases A with
  | none =>
    have h0 : l.length = 0 := by
      rcases Nat.eq_zero_or_pos l.length with h0 | h0
      · exact h0
      · obtain ⟨_, e', _⟩ := h.at_ 0 h0; cases e'
    obtain rfl : l = [] := List.eq_nil_of_length_eq_zero h0
    have heqn : ∀ w : World, (binOp .eql 66 (.slice none 0 c) (.slice none 0 0)).run Tryz.prog w = .ok (.bool true) w := heq
    clear h heq
    show Calls Tryz.prog 81 #[.slice none 0 c] w (Made 3 w [] 0)
    go_enter Tryz.func81, Tryz.ntmps81
    go_wp2
    go_ret
    exact ⟨none, 0, rfl, own_nil _ _ _ _, Below.refl _ _⟩
  | some ad =>
    have H := Lib.hid h
    have V1 := Lib.hid (natV_one l)
    have heq' : ∀ w : World, (binOp .eql 66 (.slice (some ad) l.length c) (.slice none 0 0)).run Tryz.prog w = .ok (.bool false) w := heq
    have HB0 : Hid (∀ o, Below w.heap.size w (w.alloc o)) := fun o => (Below.refl _ _).alloc (Nat.le_refl _) _
    clear h heq
    go_enter Tryz.func81, Tryz.ntmps81
    go_wp2_with (at_builtin; refine append_reads w.heap.size rfl _ _ 66 3 (.int .i64 0) 8 rfl Tryz.underlying66 Tryz.info3 rfl (by decide) (.slice (some ⟨w.heap.size, 0, none⟩) 0 0) 0 [] rfl (own_empty _ _ (Nat.le_refl _)) (some ad) l.length c (natV l) rfl (H.out.below (HB0.out _)) V1.out (by omega) (by simp) ?_)
    intro A1 c1 w1 ho1 hg1
    have HO : Hid (w1.ownsRow w.heap.size 3 1 (.slice A1 l.length c1) l.length (natV l)) := by show World.ownsRow _ _ _ _ _ _ _; simpa using ho1
    have HB := Lib.hid ((HB0.out (.cells #[] 3)).grown hg1 (by simp) (fun k hk => by cases hk; exact Nat.le_refl _))
    clear ho1 hg1
    go_wp2
    go_ret
    exact ⟨A1, c1, by simp, HO.out, HB.out⟩
/-- Are both sides? -/
def goodB (a b : Nat) : Bool := decide (0 < min a b) && decide (a + b ≤ 8 * min a b)
theorem good_any (A B : Option Addr) (n c m d : Nat) (w : World) (hn : n ≤ 2000000) (hm : m ≤ 2000000) : Calls Tryz.prog 142 #[.slice A n c, .slice B m d] w fun e w' => e = .returned (.bool (goodB n m)) ∧ w = w' := by
  have hmin : ∀ w : World, (Builtin.min_ #[3, 3] 3 #[.int .i64 (n : Int), .int .i64 (m : Int)]).run Tryz.prog w = .ok (.int .i64 ((min n m : Nat) : Int)) w := by
    intro w
    simp [Builtin.min_, Builtin.min2]
    split
    all_goals congr 2
    all_goals omega
  unfold goodB
  obtain ⟨q, hq⟩ : ∃ q, min n m = q := ⟨_, rfl⟩
  rw [hq] at hmin ⊢
  have hqn : q ≤ n := by omega
  have hqm : q ≤ m := by omega
  clear hq
  by_cases h0 : 0 < q
  · have e1 : decide (0 < q) = true := by simpa using h0
    rw [e1]
    by_cases h8 : n + m ≤ 8 * q
    · have e2 : decide (n + m ≤ 8 * q) = true := by simpa using h8
      rw [e2]
      have h8' : (n : Int) + (m : Int) ≤ 8 * (q : Int) := by omega
      clear h8
      go_enter Tryz.func142, Tryz.ntmps142
      go_wp2
      go_ret
      exact ⟨rfl, rfl⟩
    · have e2 : decide (n + m ≤ 8 * q) = false := by simpa using h8
      rw [e2]
      have h8' : ¬ (n : Int) + (m : Int) ≤ 8 * (q : Int) := by omega
      clear h8
      go_enter Tryz.func142, Tryz.ntmps142
      go_wp2
      go_ret
      exact ⟨rfl, rfl⟩
  · have e1 : decide (0 < q) = false := by simpa using h0
    rw [e1]
    go_enter Tryz.func142, Tryz.ntmps142
    go_wp2
    go_ret
    exact ⟨rfl, rfl⟩
section
variable {P : Program} {ops : Array Oper} {rest : List Oper} {o : Oper} {a : Act} {Q : Exit → Act → World → Prop}
/-- 'append(v, x...)' as a step of a region that draws its order. -/
theorem step_append_reads {w : World} {K : Act → World → Prop} {E : Prop} (base : Nat) (hgd : o.guard = none) (s x : Operand) (t e : TypeId) (z : Value) (bytes : Nat)
    (ho : o.op = .call { callee := .builtin .append, args := #[s, x], argTypes := #[t, t] })
    (ht : P.underlying t = some (.slice e)) (hinfo : (P.info? e).map (fun i => (i.zero, i.size, i.bytes)) = some (some z, 1, bytes)) (hz : z.cells.size = 1) (hb0 : 0 < bytes)
    (v : Value) (n : Nat) (xs : List Value) (hs : a.eval s = v) (hown : w.ownsRow base e 1 v n xs) (ad : Addr) (m c : Nat) (ys : List Value) (hx : a.eval x = .slice (some ad) m c) (hr : Reads w (some ad) m ys) (h1 : ∀ u ∈ ys, u.oneCell' = true)
    (hb : (n + m) * bytes ≤ 140737488355328) (hbase : base ≤ w.heap.size)
    (h : ∀ A1 c1 w1, w1.ownsRow base e 1 (.slice A1 (n + m) c1) (n + m) (xs ++ ys) → w.grownBy w1 v.ownBlock → ((Value.slice A1 (n + m) c1).ownBlock = v.ownBlock ∨ (Value.slice A1 (n + m) c1).ownBlock = some w.heap.size) → K (a.put o.dst (.slice A1 (n + m) c1)) w1) :
    if Region.wanted o (yielded ops a.tmps) = true then Oper.wp P o a w K Q else E := by
  obtain ⟨i0, hi, hz0, hz1, hz2⟩ := info_parts hinfo
  have hlen : n + m ≤ 140737488355328 := Nat.le_trans (Nat.le_mul_of_pos_right _ hb0) hb
  have hw : Region.wanted o (yielded ops a.tmps) = true := by simp [Region.wanted, hgd]
  rw [if_pos hw]
  obtain ⟨v', w', hr, h2, h3, _, h5⟩ := run_append_own_at (P := P) w base t o.type e i0 z 1 bytes ht hi hz0 hz1 hz2 hz (by omega) v n xs hown ad m c ys (by rw [hr.1]; omega)
    (fun j u hj => by
      have hlt : j < m := by rw [← hr.1]; exact (List.getElem?_eq_some_iff.mp hj).1
      obtain ⟨ad', e', hc⟩ := hr.at_ j hlt
      cases e'
      rw [hc, List.getD_eq_getElem?_getD, hj]; rfl) h1 (by simp only [maxLen]; omega) hb hbase
  obtain ⟨A1, c1, rfl⟩ := own_slice h2
  unfold Oper.wp execOp
  simp only [ho, resolve, invoke, builtin, Sem.run_bind, Sem.run_pure, Result.andThen_ok, List.map_toArray, List.map_cons, List.map_nil, hs, hx, hr]
  exact h A1 c1 w' h2 h3 h5
end
/-- Two lists of new memory. -/
def Made2 (w : World) (l r : List Nat) (e : Ending) (w' : World) : Prop :=
  ∃ A c B d, e = .returned (.tuple #[.slice A l.length c, .slice B r.length d]) ∧ w'.ownsRow w.heap.size 3 1 (.slice A l.length c) l.length (natV l) ∧ w'.ownsRow w.heap.size 3 1 (.slice B r.length d) r.length (natV r) ∧ Below w.heap.size w w'
def half (l : List Nat) : Nat := (l.length + 1) / 2
set_option maxHeartbeats 800000 in
theorem halves_any (l : List Nat) (A : Option Addr) (c : Nat) (w : World) (h : Reads w A l.length (natV l)) (h2 : 2 ≤ l.length) (hc : l.length ≤ c) (hn : l.length ≤ 2000000) : Calls Tryz.prog 143 #[.slice A l.length c] w (Made2 w (l.take (half l)) (l.drop (half l))) := by
  have hq : half l = (l.length + 1) / 2 := rfl
  obtain ⟨q, hqq⟩ : ∃ q, half l = q := ⟨_, rfl⟩
  rw [hqq] at hq ⊢
  have hq1 : 1 ≤ q := by omega
  have hq2 : q < l.length := by omega
  have hdiv : ((l.length : Int) + 1) / 2 = (q : Int) := by omega
  obtain ⟨ad, rfl, _⟩ := h.at_ 0 (by omega)
  have R1 := h.natCut 0 q (by omega)
  have R2 := h.natCut q (l.length - q) (by omega)
  rw [List.drop_zero, Option.map_some, Addr.add_zero'] at R1
  rw [show (l.drop q).take (l.length - q) = l.drop q from List.take_of_length_le (by simp), Option.map_some] at R2
  have HR1 : Hid (∀ W, Below w.heap.size w W → Reads W (some ad) q (natV (l.take q))) := fun W hb => R1.below hb
  have HR2 : Hid (∀ W, Below w.heap.size w W → Reads W (some (ad.add q)) (l.length - q) (natV (l.drop q))) := fun W hb => R2.below hb
  have V := Lib.hid natV_one
  have hqc : q < c := by omega
  have hl1 : ¬ (l.length : Int) < (q : Int) := by omega
  have hl2 : (q : Int) ≤ (c : Int) := by omega
  have hl3 : ¬ (c : Int) < (q : Int) := by omega
  have hl4 : q ≤ c := by omega
  have hcq : ¬ c = q := by omega
  have hl5 : q ≤ l.length := by omega
  clear h hq hqq R1 R2
  have HQ2 := Lib.hid hq2
  go_enter Tryz.func143, Tryz.ntmps143
  go_wp2
  go_region_law (first
    | (refine step_append_reads w.heap.size rfl _ (.tmp 11) 66 3 (.int .i64 0) 8 rfl Tryz.underlying66 Tryz.info3 rfl (by decide) (.slice none 0 0) 0 [] rfl (own_nil _ _ _ _) ad q c (natV (l.take q)) rfl (HR1.out _ (Below.refl _ _).drew) (V.out _) (by omega) (Nat.le_refl _) ?_; intro A1 c1 w1 ho1 hg1 hat1; have hb1 : Below w.heap.size w w1 := (Below.refl w.heap.size w).drew.grown hg1 (Nat.le_refl _) (fun k hk => by cases hk))
    | (refine step_append_reads w.heap.size rfl _ (.tmp 15) 66 3 (.int .i64 0) 8 rfl Tryz.underlying66 Tryz.info3 rfl (by decide) (.slice none 0 0) 0 [] rfl (own_nil _ _ _ _) (ad.add q) (l.length - q) (c - q) (natV (l.drop q)) rfl (HR2.out _ hb1) (V.out _) (by omega) hb1.size ?_; intro A2 c2 w2 ho2 hg2 hat2; have hb2 : Below w.heap.size w w2 := hb1.grown hg2 hb1.size (fun k hk => by cases hk)))
  all_goals
    go_wp2
    go_ret2
    have e1 : (l.take q).length = q := by simp; omega
    have e2 : (l.drop q).length = l.length - q := by simp
    have hk := World.ownsRow.kept ho1 hg2 (by cases (Value.slice A1 (0 + q) c1).ownBlock <;> simp [Value.ownBlock])
    exact ⟨A1, c1, A2, c2, by rw [e1, e2]; rfl, by rw [e1]; simpa using hk, by rw [e2]; simpa using ho2, hb2⟩
end Go.Proofs.YtladmconpolneaaGreat

/- Ids, parted by a plane. -/
set_option linter.unusedVariables false
set_option linter.unusedSimpArgs false
namespace Go.Proofs.YtladmconpolneaaGreat
open Go.RowKit
/-- The two sides, in the making. -/
structure SidesAt (w : World) (B g : Nat) (L R : List Nat) : Prop where
  base : B ≤ g
  rows : ∃ A0 c0 A1 c1, w.heap[g]? = some (.cells #[.slice A0 L.length c0, .slice A1 R.length c1] 298 (0, 0)) ∧ w.ownsRow B 3 1 (.slice A0 L.length c0) L.length (natV L) ∧ w.ownsRow B 3 1 (.slice A1 R.length c1) R.length (natV R) ∧
    ∀ k, (Value.slice A0 L.length c0).ownBlock = some k → (Value.slice A1 R.length c1).ownBlock ≠ some k
theorem SidesAt.below {w w' : World} {B g : Nat} {L R : List Nat} (h : SidesAt w B g L R) (hb : Below w.heap.size w w') : SidesAt w' B g L R := by
  obtain ⟨A0, c0, A1, c1, h1, h2, h3, h4⟩ := h.rows
  exact ⟨h.base, A0, c0, A1, c1, by rw [hb.block _ (lt_of_block h1)]; exact h1, own_below h2 hb, own_below h3 hb, h4⟩
theorem SidesAt.lt {w : World} {B g : Nat} {L R : List Nat} (h : SidesAt w B g L R) : g < w.heap.size := by
  obtain ⟨A0, c0, A1, c1, h1, _⟩ := h.rows
  exact lt_of_block h1
theorem own_grown {w w' : World} {base : Nat} {e : TypeId} {size n : Nat} {v : Value} {xs : List Value} {r : Option Nat} (h : w.ownsRow base e size v n xs) (hg : w.grownBy w' r) (hne : ∀ k, v.ownBlock = some k → r ≠ some k) : w'.ownsRow base e size v n xs :=
  h.kept hg (by
    cases hv : v.ownBlock with
    | none => exact .inl rfl
    | some k => exact .inr (fun e => hne k hv e.symm))
theorem own_ltB {w : World} {base : Nat} {e : TypeId} {size n : Nat} {v : Value} {xs : List Value} (h : w.ownsRow base e size v n xs) (k : Nat) (hk : v.ownBlock = some k) : k < w.heap.size := by
  rcases h.2 with ⟨rfl, _⟩ | ⟨g, cap, cur, rfl, _, hg, _⟩
  · simp [Value.ownBlock] at hk
  · have : g = k := by simpa [Value.ownBlock] using hk
    rw [← this]; exact lt_of_block hg
def PutPost (w : World) (B g : Nat) (L R : List Nat) (e : Ending) (w' : World) : Prop := e = .returned (.tuple #[]) ∧ SidesAt w' B g L R ∧ Below B w w'
set_option maxHeartbeats 400000 in
theorem put0_any (B g id : Nat) (L R : List Nat) (w : World) (h : SidesAt w B g L R) (hB : B ≤ w.heap.size) (hn : L.length ≤ 2000000) :
    Calls Tryz.prog 182 #[.int .i64 0, .int .i64 (id : Int), .pointer (some ⟨g, 0, none⟩)] w (PutPost w B g (L ++ [id]) R) := by
  have hlt := h.lt
  have hbase := h.base
  obtain ⟨A0, c0, A1, c1, h1, h2, h3, h4⟩ := h.rows
  have k0 : w.cell? ⟨g, 0, none⟩ = some (.slice A0 L.length c0) := cell_of_row _ _ _ _ _ _ h1
  have HG := Lib.hid h1
  have H2 := Lib.hid h2
  have H3 := Lib.hid h3
  have H4 := Lib.hid h4
  clear h h1 h2 h3 h4
  go_enter Tryz.func182, Tryz.ntmps182
  go_wp2_with (at_builtin; refine append_one B rfl _ _ 66 3 (.int .i64 0) 8 rfl Tryz.underlying66 Tryz.info3 rfl (by decide) (.slice A0 L.length c0) L.length (natV L) (.int .i64 (id : Int)) rfl rfl rfl H2.out hB (by omega) ?_)
  intro A2 c2 w1 ho1 hg1 hat hsz
  have hgb : w1.heap[g]? = some (.cells #[.slice A0 L.length c0, .slice A1 R.length c1] 298 (0, 0)) := by
    rw [hg1.block g hlt (own_ne2 H2.out HG.out (by decide))]; exact HG.out
  have k1 : w1.cell? ⟨g, 0, none⟩ = some (.slice A0 L.length c0) := cell_of_row _ _ _ _ _ _ hgb
  have f1 : w1.frozen? ⟨g, 0, none⟩ = false := frozen_of_row _ _ _ _ _ hgb
  have HGB := Lib.hid hgb
  have HO1 := Lib.hid ho1
  have HG1 := Lib.hid hg1
  have HAT := Lib.hid hat
  clear hgb ho1 hg1 hat
  go_wp2
  go_end0
  have h3' := own_grown H3.out HG1.out (fun k hk e => H4.out k e hk)
  have e1 : (L ++ [id]).length = L.length + 1 := by simp
  refine ⟨rfl, ⟨hbase, A2, c2, A1, c1, ?_, ?_, ?_, ?_⟩, ?_⟩
  · rw [e1]; exact heap_setCell_same w1 g 0 _ _ _ HGB.out
  · have := ownsRow_setCell_other HO1.out (a := ⟨g, 0, none⟩) (fun e => own_ne2 HO1.out HGB.out (by decide) e.symm) (.slice A2 (L.length + 1) c2)
    rw [e1, natV_append]; exact this
  · exact ownsRow_setCell_other h3' (a := ⟨g, 0, none⟩) (fun e => own_ne2 h3' HGB.out (by decide) e.symm) _
  · intro k hk hk2
    rw [e1] at hk
    rcases HAT.out with h | ⟨b, h, hle⟩
    · exact H4.out k (h.symm.trans hk) hk2
    · have := own_ltB H3.out k hk2
      rw [hk] at h
      injection h with h
      omega
  · exact ((Below.refl B w).grown HG1.out hB (own_base H2.out)).setCell hbase _
set_option maxHeartbeats 400000 in
theorem put1_any (B g id : Nat) (L R : List Nat) (w : World) (h : SidesAt w B g L R) (hB : B ≤ w.heap.size) (hn : R.length ≤ 2000000) :
    Calls Tryz.prog 182 #[.int .i64 1, .int .i64 (id : Int), .pointer (some ⟨g, 0, none⟩)] w (PutPost w B g L (R ++ [id])) := by
  have hlt := h.lt
  have hbase := h.base
  obtain ⟨A0, c0, A1, c1, h1, h2, h3, h4⟩ := h.rows
  have k0 : w.cell? ⟨g, 1, none⟩ = some (.slice A1 R.length c1) := cell_of_row _ _ _ _ _ _ h1
  have HG := Lib.hid h1
  have H2 := Lib.hid h2
  have H3 := Lib.hid h3
  have H4 := Lib.hid h4
  clear h h1 h2 h3 h4
  go_enter Tryz.func182, Tryz.ntmps182
  go_wp2_with (at_builtin; refine append_one B rfl _ _ 66 3 (.int .i64 0) 8 rfl Tryz.underlying66 Tryz.info3 rfl (by decide) (.slice A1 R.length c1) R.length (natV R) (.int .i64 (id : Int)) rfl rfl rfl H3.out hB (by omega) ?_)
  intro A2 c2 w1 ho1 hg1 hat hsz
  have hgb : w1.heap[g]? = some (.cells #[.slice A0 L.length c0, .slice A1 R.length c1] 298 (0, 0)) := by
    rw [hg1.block g hlt (own_ne2 H3.out HG.out (by decide))]; exact HG.out
  have k1 : w1.cell? ⟨g, 1, none⟩ = some (.slice A1 R.length c1) := cell_of_row _ _ _ _ _ _ hgb
  have f1 : w1.frozen? ⟨g, 1, none⟩ = false := frozen_of_row _ _ _ _ _ hgb
  have HGB := Lib.hid hgb
  have HO1 := Lib.hid ho1
  have HG1 := Lib.hid hg1
  have HAT := Lib.hid hat
  clear hgb ho1 hg1 hat
  go_wp2
  go_end0
  have h3' := own_grown H2.out HG1.out (fun k hk e => H4.out k hk e)
  have e1 : (R ++ [id]).length = R.length + 1 := by simp
  refine ⟨rfl, ⟨hbase, A0, c0, A2, c2, ?_, ?_, ?_, ?_⟩, ?_⟩
  · rw [e1]; exact heap_setCell_same w1 g 1 _ _ _ HGB.out
  · exact ownsRow_setCell_other h3' (a := ⟨g, 1, none⟩) (fun e => own_ne2 h3' HGB.out (by decide) e.symm) _
  · have := ownsRow_setCell_other HO1.out (a := ⟨g, 1, none⟩) (fun e => own_ne2 HO1.out HGB.out (by decide) e.symm) (.slice A2 (R.length + 1) c2)
    rw [e1, natV_append]; exact this
  · intro k hk hk2
    rw [e1] at hk2
    rcases HAT.out with h | ⟨b, h, hle⟩
    · exact H4.out k hk (h.symm.trans hk2)
    · have := own_ltB H2.out k hk
      rw [hk2] at h
      injection h with h
      omega
  · exact ((Below.refl B w).grown HG1.out hB (own_base H3.out)).setCell hbase _
/-- The ids on each side. -/
def leftL (F : List Int) (dim : Nat) (nrm : List Int) (off : Int) (ids : List Nat) : List Nat := ids.filter fun id => !sideL nrm off (rowL F dim id)
def rightL (F : List Int) (dim : Nat) (nrm : List Int) (off : Int) (ids : List Nat) : List Nat := ids.filter fun id => sideL nrm off (rowL F dim id)
theorem filter_take (p : Nat → Bool) (ids : List Nat) (k : Nat) (h : k < ids.length) : (ids.take (k + 1)).filter p = (ids.take k).filter p ++ (if p (ids.getD k 0) then [ids.getD k 0] else []) := by
  rw [List.take_succ_eq_append_getElem h, List.filter_append]
  have e : ids.getD k 0 = ids[k] := by rw [List.getD_eq_getElem?_getD, List.getElem?_eq_getElem h]; rfl
  rw [e]
  cases hp : p ids[k] <;> simp [hp]
set_option maxHeartbeats 1600000 in
theorem part_any {B b dim n : Nat} {F : List Int} (w : World) (h : ItemsAt w B b dim n F) (ids : List Nat) (A : Option Addr) (c : Nat) (hr : Reads w A ids.length (natV ids)) (hid : ∀ i ∈ ids, i < n) (hl : ids.length ≤ 2000000)
    (nrm : List Int) (off : Int) (N : Option Addr) (d : Nat) (hN : Reads w N nrm.length (i32V nrm)) (hNb : Bd 2097152 nrm) (hNl : nrm.length ≤ 1024) (hoff : -9007199254740992 ≤ off ∧ off ≤ 9007199254740992) :
    Calls Tryz.prog 141 #[.pointer (some ⟨b, 0, none⟩), .slice A ids.length c, .agg #[.slice N nrm.length d, .int .i64 off]] w (Made2 w (leftL F dim nrm off ids) (rightL F dim nrm off ids)) := by
  have HAT : Hid (∀ W id, Below w.heap.size w W → id < n → Calls Tryz.prog 23 #[.pointer (some ⟨b, 0, none⟩), .int .i64 (id : Int)] W (AtPost W (rowL F dim id))) := fun W id hb hi => at_any W (h.below hb) id hi
  have HSIDE : Hid (∀ W V m e l, Below w.heap.size w W → Reads W V m (i32V l) → Bd 1048576 l → Calls Tryz.prog 24 #[.agg #[.slice N nrm.length d, .int .i64 off], .slice V m e] W fun en w' => en = .returned (.bool (sideL nrm off l)) ∧ Below W.heap.size W w') := fun W V m e l hb hv hbd =>
    side_any nrm l off N V nrm.length d m e W (hN.below hb) hv hNb (bd_up hbd) (by omega) hoff
  have HBD : Hid (∀ id, Bd 1048576 (rowL F dim id)) := fun id => rowL_bd h.bd dim id
  have HR := Lib.hid hr
  have HP0 := Lib.hid (fun g id L R W hs hB hn => put0_any (w.heap.size + 1) g id L R W hs hB hn)
  have HP1 := Lib.hid (fun g id L R W hs hB hn => put1_any (w.heap.size + 1) g id L R W hs hB hn)
  have HI := Lib.hid Tryz.info68
  have HID := Lib.hid hid
  have HB0 : Hid (∀ o, Below w.heap.size w (w.alloc o)) := fun o => (Below.refl _ _).alloc (Nat.le_refl _) _
  clear h hr hN hNb hoff hid
  go_enter Tryz.func141, Tryz.ntmps141
  go_wp2
  go_loopg [17] ids.length (fun gk i wr => ∃ k : Nat, gk = ids.length - k ∧ k ≤ ids.length ∧ i = .int .i64 (k : Int) ∧ wr.heap[w.heap.size]? = some (.cells #[.slice N nrm.length d, .int .i64 off] 68 (0, 0)) ∧ SidesAt wr (w.heap.size + 1) (w.heap.size + 1) (leftL F dim nrm off (ids.take k)) (rightL F dim nrm off (ids.take k)) ∧ Below w.heap.size w wr)
  case atStart =>
    refine ⟨0, rfl, Nat.zero_le _, rfl, ?_, ⟨Nat.le_refl _, none, 0, none, 0, ?_, own_nil _ _ _ _, own_nil _ _ _ _, fun k hk => by simp [Value.ownBlock] at hk⟩, (HB0.out _).alloc (by simp) _⟩
    · rw [Below.heap_alloc _ _ _ (by simp), heap_alloc_new]
    · have := heap_alloc_new (w.alloc (.cells #[.slice N nrm.length d, .int .i64 off] 68)) (.cells #[.slice none 0 0, .slice none 0 0] 298)
      rw [World.size_alloc] at this
      exact this
  case round =>
    obtain ⟨k, rfl, hk, rfl, hg5, hs, hbel⟩ := hrel
    have HG5 := Lib.hid hg5
    have HS := Lib.hid hs
    have HB := Lib.hid hbel
    by_cases hlt : k < ids.length
    · obtain ⟨ad, rfl, hc⟩ := (HR.out.below hbel).nat k hlt
      have hlt' : (k : Int) < (ids.length : Int) := by omega
      have hidn : ids.getD k 0 < n := HID.out _ (by rw [List.getD_eq_getElem?_getD, List.getElem?_eq_getElem hlt]; exact List.getElem_mem hlt)
      obtain ⟨id, hid'⟩ : ∃ id, ids.getD k 0 = id := ⟨_, rfl⟩
      rw [hid'] at hc hidn
      cases hsb : sideL nrm off (rowL F dim id) with
      | true =>
        have HSD : Hid (∀ W V m e, Below w.heap.size w W → Reads W V m (i32V (rowL F dim id)) → Calls Tryz.prog 24 #[.agg #[.slice N nrm.length d, .int .i64 off], .slice V m e] W fun en w' => en = .returned (.bool true) ∧ Below W.heap.size W w') := fun W V m e hb hv => by
          have := HSIDE.out W V m e (rowL F dim id) hb hv (HBD.out id)
          rw [hsb] at this; exact this
        have HLS : Hid (leftL F dim nrm off (ids.take (k + 1)) = leftL F dim nrm off (ids.take k)) := by show _ = _; unfold leftL; rw [filter_take _ _ _ hlt, hid', hsb]; simp
        have HRS : Hid (rightL F dim nrm off (ids.take (k + 1)) = rightL F dim nrm off (ids.take k) ++ [id]) := by show _ = _; unfold rightL; rw [filter_take _ _ _ hlt, hid', hsb]; simp
        have hle : (rightL F dim nrm off (ids.take k)).length ≤ 2000000 := by
          have h1 : (rightL F dim nrm off (ids.take k)).length ≤ (ids.take k).length := List.length_filter_le _ _
          have h2 : (ids.take k).length ≤ k := List.length_take_le _ _
          omega
        have HPUT := Lib.hid (fun W hs hB => HP1.out (w.heap.size + 1) id (leftL F dim nrm off (ids.take k)) (rightL F dim nrm off (ids.take k)) W hs hB hle)
        have HATT := Lib.hid (HAT.out wr id hbel hidn)
        clear hg5 hs hbel hsb hle hid' hidn
        go_wp2_with fail
        refine HATT.out.mono ?_
        rintro e w1 ⟨C, c1, rfl, ho1, hb1⟩
        have hsz := HB.out.size
        have HB1 := Lib.hid (HB.out.trans (hb1.mono hsz))
        have HG51 : Hid (w1.heap[w.heap.size]? = some (.cells #[.slice N nrm.length d, .int .i64 off] 68 (0, 0))) := by show _ = _; rw [hb1.block _ (lt_of_block HG5.out)]; exact HG5.out
        have HS1 := Lib.hid (HS.out.below hb1)
        have HR1 := Lib.hid (own_reads ho1)
        clear ho1 hb1
        go_wp2_with (first
          | (refine wpList_load_row rfl 68 (.tmp 5) rfl w.heap.size rfl 68 #[.slice N nrm.length d, .int .i64 off] (0, 0) _ HG51.out Tryz.underlying68 rfl HI.out ?_)
          | (go_at_call 24; refine (HSD.out _ _ _ _ HB1.out HR1.out).mono ?_; rintro e w2 ⟨rfl, hb2⟩; have HB2 := Lib.hid (HB1.out.trans (hb2.mono HB1.out.size)); have HS2 := Lib.hid (HS1.out.below hb2); have HG52 : Hid (w2.heap[w.heap.size]? = some (.cells #[.slice N nrm.length d, .int .i64 off] 68 (0, 0))) := (by show _ = _; rw [hb2.block _ (lt_of_block HG51.out)]; exact HG51.out); clear hb2)
          | (go_at_call 182; refine (HPUT.out _ HS2.out (Nat.le_of_lt HS2.out.lt)).mono ?_; rintro e w3 ⟨rfl, hs3, hb3⟩; have HS3 := Lib.hid hs3; have HB3 := Lib.hid hb3; clear hs3 hb3))
        go_roundg (ids.length - (k + 1))
        case measure => omega
        case rel =>
          refine ⟨k + 1, rfl, hlt, by go_num, ?_, ?_, HB2.out.trans (HB3.out.mono (Nat.le_succ _))⟩
          · rw [HB3.out.block _ (Nat.lt_succ_self _)]; exact HG52.out
          · rw [HLS.out, HRS.out]; exact HS3.out
      | false =>
        have HSD : Hid (∀ W V m e, Below w.heap.size w W → Reads W V m (i32V (rowL F dim id)) → Calls Tryz.prog 24 #[.agg #[.slice N nrm.length d, .int .i64 off], .slice V m e] W fun en w' => en = .returned (.bool false) ∧ Below W.heap.size W w') := fun W V m e hb hv => by
          have := HSIDE.out W V m e (rowL F dim id) hb hv (HBD.out id)
          rw [hsb] at this; exact this
        have HLS : Hid (leftL F dim nrm off (ids.take (k + 1)) = leftL F dim nrm off (ids.take k) ++ [id]) := by show _ = _; unfold leftL; rw [filter_take _ _ _ hlt, hid', hsb]; simp
        have HRS : Hid (rightL F dim nrm off (ids.take (k + 1)) = rightL F dim nrm off (ids.take k)) := by show _ = _; unfold rightL; rw [filter_take _ _ _ hlt, hid', hsb]; simp
        have hle : (leftL F dim nrm off (ids.take k)).length ≤ 2000000 := by
          have h1 : (leftL F dim nrm off (ids.take k)).length ≤ (ids.take k).length := List.length_filter_le _ _
          have h2 : (ids.take k).length ≤ k := List.length_take_le _ _
          omega
        have HPUT := Lib.hid (fun W hs hB => HP0.out (w.heap.size + 1) id (leftL F dim nrm off (ids.take k)) (rightL F dim nrm off (ids.take k)) W hs hB hle)
        have HATT := Lib.hid (HAT.out wr id hbel hidn)
        clear hg5 hs hbel hsb hle hid' hidn
        go_wp2_with fail
        refine HATT.out.mono ?_
        rintro e w1 ⟨C, c1, rfl, ho1, hb1⟩
        have hsz := HB.out.size
        have HB1 := Lib.hid (HB.out.trans (hb1.mono hsz))
        have HG51 : Hid (w1.heap[w.heap.size]? = some (.cells #[.slice N nrm.length d, .int .i64 off] 68 (0, 0))) := by show _ = _; rw [hb1.block _ (lt_of_block HG5.out)]; exact HG5.out
        have HS1 := Lib.hid (HS.out.below hb1)
        have HR1 := Lib.hid (own_reads ho1)
        clear ho1 hb1
        go_wp2_with (first
          | (refine wpList_load_row rfl 68 (.tmp 5) rfl w.heap.size rfl 68 #[.slice N nrm.length d, .int .i64 off] (0, 0) _ HG51.out Tryz.underlying68 rfl HI.out ?_)
          | (go_at_call 24; refine (HSD.out _ _ _ _ HB1.out HR1.out).mono ?_; rintro e w2 ⟨rfl, hb2⟩; have HB2 := Lib.hid (HB1.out.trans (hb2.mono HB1.out.size)); have HS2 := Lib.hid (HS1.out.below hb2); have HG52 : Hid (w2.heap[w.heap.size]? = some (.cells #[.slice N nrm.length d, .int .i64 off] 68 (0, 0))) := (by show _ = _; rw [hb2.block _ (lt_of_block HG51.out)]; exact HG51.out); clear hb2)
          | (go_at_call 182; refine (HPUT.out _ HS2.out (Nat.le_of_lt HS2.out.lt)).mono ?_; rintro e w3 ⟨rfl, hs3, hb3⟩; have HS3 := Lib.hid hs3; have HB3 := Lib.hid hb3; clear hs3 hb3))
        go_roundg (ids.length - (k + 1))
        case measure => omega
        case rel =>
          refine ⟨k + 1, rfl, hlt, by go_num, ?_, ?_, HB2.out.trans (HB3.out.mono (Nat.le_succ _))⟩
          · rw [HB3.out.block _ (Nat.lt_succ_self _)]; exact HG52.out
          · rw [HLS.out, HRS.out]; exact HS3.out
    · obtain rfl : k = ids.length := by omega
      rw [List.take_length] at hs
      obtain ⟨A0, c0, A1, c1, h1, h2, h3, h4⟩ := hs.rows
      have k0 : wr.cell? ⟨w.heap.size + 1, 0, none⟩ = some (.slice A0 (leftL F dim nrm off ids).length c0) := cell_of_row _ _ _ _ _ _ h1
      have k1 : wr.cell? ⟨w.heap.size + 1, 1, none⟩ = some (.slice A1 (rightL F dim nrm off ids).length c1) := cell_of_row _ _ _ _ _ _ h1
      have H2 := Lib.hid h2
      have H3 := Lib.hid h3
      clear hg5 hs hbel h1 h2 h3 h4
      go_wp2_with (go_quiet (fail))
      go_ret2
      exact ⟨A0, c0, A1, c1, rfl, own_drewN (own_low H2.out (Nat.le_succ _)) _, own_drewN (own_low H3.out (Nat.le_succ _)) _, bel_drewN HB.out _⟩
end Go.Proofs.YtladmconpolneaaGreat

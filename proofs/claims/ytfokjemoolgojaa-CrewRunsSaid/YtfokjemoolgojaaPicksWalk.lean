/- The walk of the law CrewPicks. -/
import Derived.Test.YtfokjemoolgojaaAwake
import Derived.Test.YtfokjemoolgojaaTrace
set_option linter.unusedVariables false
set_option linter.unusedSimpArgs false
namespace Go.Proofs.Ytfokjemoolgojaa
open Go.RowKit
theorem run_append_nothing {P : Program} (w : World) (t ty e : TypeId) (i : TypeInfo) (ht : P.underlying t = some (.slice e)) (hi : P.info? e = some i) (B : Option Addr) (n cap c : Nat) (h : n ≤ cap) :
    (Builtin.append_ #[t, t] ty #[.slice B n cap, .slice none 0 c]).run P w = .ok (.slice B n cap) w := by
  unfold Builtin.append_
  cases B <;> simp [underlying, sizeOf, typeInfo, ht, hi, Builtin.lenOf, Builtin.firstCells, h, Sem.run_bind, Result.andThen, storeCells]

section
variable {P : Program} {ops : Array Oper} {rest : List Oper} {o : Oper} {a : Act} {Q : Exit → Act → World → Prop}
/-- 'append(v, x...)', v the call's own, x any slice that is read. -/
theorem append_reads {w : World} (base : Nat) (hgd : o.guard = none) (s x : Operand) (t e : TypeId) (z : Value) (bytes : Nat)
    (ho : o.op = .call { callee := .builtin .append, args := #[s, x], argTypes := #[t, t] })
    (ht : P.underlying t = some (.slice e)) (hinfo : (P.info? e).map (fun i => (i.zero, i.size, i.bytes)) = some (some z, 1, bytes)) (hz : z.cells.size = 1) (hb0 : 0 < bytes)
    (v : Value) (n : Nat) (xs : List Value) (hs : a.eval s = v) (hown : w.ownsRow base e 1 v n xs) (A : Option Addr) (m c : Nat) (ys : List Value) (hx : a.eval x = .slice A m c) (hr : Reads w A m ys) (h1 : ∀ u ∈ ys, u.oneCell' = true)
    (hb : (n + m) * bytes ≤ 140737488355328) (hbase : base ≤ w.heap.size)
    (h : ∀ A1 c1 w1, w1.ownsRow base e 1 (.slice A1 (n + m) c1) (n + m) (xs ++ ys) → w.grownBy w1 v.ownBlock → wpList P ops Q rest (a.put o.dst (.slice A1 (n + m) c1)) w1) :
    wpList P ops Q (o :: rest) a w := by
  obtain ⟨i0, hi, hz0, hz1, hz2⟩ := info_parts hinfo
  have hlen : n + m ≤ 140737488355328 := Nat.le_trans (Nat.le_mul_of_pos_right _ hb0) hb
  cases A with
  | some ad =>
    refine wpList_append_own_at w hgd s x t ho base e i0 z 1 bytes ht hi hz0 hz1 hz2 hz (by omega) v n xs hs hown ad m c ys hx (by rw [hr.1]; omega) ?_ h1 (by simp only [maxLen]; omega) hb hbase ?_
    · intro j u hj
      have hlt : j < m := by rw [← hr.1]; exact (List.getElem?_eq_some_iff.mp hj).1
      obtain ⟨ad', e', hc⟩ := hr.at_ j hlt
      cases e'
      rw [hc, List.getD_eq_getElem?_getD, hj]; rfl
    · intro v1 w1 ho1 hg1 _ _
      obtain ⟨A1, c1, rfl⟩ := own_slice ho1
      exact h A1 c1 w1 ho1 hg1
  | none =>
    have hm : m = 0 := by
      rcases Nat.eq_zero_or_pos m with h0 | h0
      · exact h0
      · obtain ⟨_, e', _⟩ := hr.at_ 0 h0; cases e'
    subst hm
    obtain rfl : ys = [] := List.eq_nil_of_length_eq_zero hr.1
    obtain ⟨A1, c1, rfl⟩ := own_slice hown
    have hcap : n ≤ c1 := by
      rcases hown.2 with ⟨h0, h1⟩ | ⟨g, cap, cur, h0, _, _, h1, _⟩
      · omega
      · simp only [Value.slice.injEq] at h0; omega
    refine wpList_plain hgd fun K hK => ?_
    have hr := run_append_nothing (P := P) w t o.type e i0 ht hi A1 n c1 c hcap
    unfold Oper.wp execOp
    simp only [ho, resolve, invoke, builtin, Sem.run_bind, Sem.run_pure, Result.andThen_ok, List.map_toArray, List.map_cons, List.map_nil, hs, hx, hr]
    exact hK _ _ (h A1 c1 w (by rw [List.append_nil]; exact hown) (World.grownBy.refl _ _))
end
theorem odd_yes (J N : Int) (w : World) (h : J < 0 ∨ 256 < J ∨ N < 1 ∨ 64 < N) : Calls Try.prog 10 #[.int .i64 J, .int .i64 N] w fun e w' => e = .returned (.bool true) ∧ w = w' := by
  have hh : J < 0 ∨ (¬ J < 0 ∧ 256 < J) ∨ (¬ J < 0 ∧ ¬ 256 < J ∧ N < 1) ∨ (¬ J < 0 ∧ ¬ 256 < J ∧ ¬ N < 1 ∧ 64 < N) := by omega
  clear h
  rcases hh with h | ⟨h1, h2⟩ | ⟨h1, h2, h3⟩ | ⟨h1, h2, h3, h4⟩
  all_goals
    go_enter Try.func10, Try.ntmps10
    go_wp2
    go_ret
    exact ⟨rfl, rfl⟩
theorem odd_no (J N : Int) (w : World) (h1 : ¬ J < 0) (h2 : ¬ 256 < J) (h3 : ¬ N < 1) (h4 : ¬ 64 < N) : Calls Try.prog 10 #[.int .i64 J, .int .i64 N] w fun e w' => e = .returned (.bool false) ∧ w = w' := by
  go_enter Try.func10, Try.ntmps10
  go_wp2
  go_ret
  exact ⟨rfl, rfl⟩
theorem picks_out (J N : Int) (A0 B0 : Option Addr) (n c0 m d0 : Nat) (w : World) (h : J < 0 ∨ 256 < J ∨ N < 1 ∨ 64 < N ∨ 1000 < (n : Int) ∨ 1000 < (m : Int)) :
    Calls Try.prog 8 #[.int .i64 J, .int .i64 N, .slice A0 n c0, .slice B0 m d0] w fun e w' => e = .returned (.bool true) ∧ Below w.heap.size w w' := by
  by_cases ho : J < 0 ∨ 256 < J ∨ N < 1 ∨ 64 < N
  · have HO := Lib.hid (fun w => odd_yes J N w ho)
    clear h ho
    go_enter Try.func8, Try.ntmps8
    go_wp2_with (first
      | (go_at_call 9; refine (awake_any _).mono ?_; rintro e w1 ⟨rfl, hb1⟩)
      | (go_at_call 10; refine (HO.out _).mono ?_; rintro e w2 ⟨rfl, rfl⟩))
    go_ret
    exact ⟨rfl, hb1⟩
  · have HO := Lib.hid (fun w => odd_no J N w (by omega) (by omega) (by omega) (by omega))
    have hh : 1000 < (n : Int) ∨ (¬ 1000 < (n : Int) ∧ 1000 < (m : Int)) := by omega
    clear h ho
    rcases hh with h | ⟨h1, h2⟩
    all_goals
      go_enter Try.func8, Try.ntmps8
      go_wp2_with (first
        | (go_at_call 9; refine (awake_any _).mono ?_; rintro e w1 ⟨rfl, hb1⟩)
        | (go_at_call 10; refine (HO.out _).mono ?_; rintro e w2 ⟨rfl, rfl⟩))
      go_ret
      exact ⟨rfl, hb1⟩
/-- Picks behind the last step play no part; where there are none, noughts are as good. -/
theorem picks_same (J N : Nat) (hN : 1 ≤ N) (picks more : List Int) (d : Nat) (hd : picks.length + d ≥ 6 * J + N + 2) : ∀ k, k ≤ 6 * J + N + 2 → runK J N (picks ++ List.replicate d 0 ++ more) k = runK J N picks k := by
  intro k
  induction k with
  | zero => intro _; rfl
  | succ k ih =>
    intro hk
    have e := ih (by omega)
    obtain ⟨h1, h2⟩ := run_inv J N hN picks k (by omega)
    have hp := able_ne h1 hN
    show (runK J N (picks ++ List.replicate d 0 ++ more) k).step ((runK J N (picks ++ List.replicate d 0 ++ more) k).next _) = (runK J N picks k).step ((runK J N picks k).next picks)
    rw [e]
    congr 1
    unfold St.next
    congr 1
    rw [h2]
    unfold pickAt
    by_cases hk1 : k < picks.length
    · rw [if_pos hk1, if_pos (by simp; omega)]
      congr 1
      rw [List.append_assoc, List.getD_eq_getElem?_getD, List.getD_eq_getElem?_getD, List.getElem?_append_left hk1]
    · rw [if_neg hk1, if_pos (by simp; omega)]
      have : (picks ++ List.replicate d (0 : Int) ++ more).getD k 0 = 0 := by
        rw [List.getD_eq_getElem?_getD, List.getElem?_append_left (by simp; omega), List.getElem?_append_right (by omega), List.getElem?_replicate, if_pos (by omega)]; rfl
      rw [this]
      unfold place
      rw [if_neg (by decide)]
      simp
theorem own_empty (w : World) (B : Nat) (o : Obj) (hB : B ≤ w.heap.size) : ((w.alloc o).alloc (.cells #[] 3)).ownsRow B 3 1 (.slice (some ⟨w.heap.size + 1, 0, none⟩) 0 0) 0 [] := by
  have := World.ownsRow_lit (base := B) (e := 3) (size := 1) (w.alloc o) #[] 0 (by simp; omega) (by decide) rfl
  simpa using this
set_option maxHeartbeats 1600000 in
theorem picks_in (J N : Nat) (picks more : List Int) (A0 B0 : Option Addr) (n c0 m d0 : Nat) (w : World) (hr : Reads w A0 n (intsV picks)) (hq : Reads w B0 m (intsV more)) (hp : ∀ p ∈ picks, -9223372036854775808 ≤ p ∧ p ≤ 9223372036854775807) (hp2 : ∀ p ∈ more, -9223372036854775808 ≤ p ∧ p ≤ 9223372036854775807)
    (hJ : J ≤ 256) (hN : 1 ≤ N) (hN2 : N ≤ 64) (hn : n ≤ 1000) (hm : m ≤ 1000) :
    Calls Try.prog 8 #[.int .i64 (J : Int), .int .i64 (N : Int), .slice A0 n c0, .slice B0 m d0] w fun e w' => e = .returned (.bool true) ∧ Below w.heap.size w w' := by
  have hlen := (run_trace J N hN picks).length
  have hpn : picks.length = n := by have := hr.1; simpa [intsV] using this
  have hmn : more.length = m := by have := hq.1; simpa [intsV] using this
  obtain ⟨d, hd⟩ : ∃ d, d = (6 * J + N + 2) - n := ⟨_, rfl⟩
  have hsame := picks_same J N hN picks more d (by omega) (6 * J + N + 2) (Nat.le_refl _)
  have HRUN := Lib.hid (fun w1 (hb : Below w.heap.size w w1) => run_any J N picks A0 n c0 w1 (hr.below hb) hp hJ hN hN2)
  have HRUN2 := Lib.hid (fun A c w1 (h : Reads w1 A (n + d + m) (intsV (picks ++ List.replicate d 0 ++ more))) => run_any J N (picks ++ List.replicate d 0 ++ more) A (n + d + m) c w1 h (by
    intro p h
    rw [List.mem_append, List.mem_append] at h
    rcases h with (h | h) | h
    · exact hp p h
    · have := List.eq_of_mem_replicate h; omega
    · exact hp2 p h) hJ hN hN2)
  rw [hsame] at HRUN2
  have hmax : ∀ w, (Builtin.max_ #[3, 3] 3 #[.int .i64 (((runK J N picks (6 * J + N + 2)).ev.length : Int) - (n : Int)), .int .i64 0]).run Try.prog w = .ok (.int .i64 (d : Int)) w := by
    intro w
    rw [run_max2, hlen]
    congr 2; omega
  have hmk := run_make_row' (P := Try.prog) 22 3 (.int .i64 0) 8 Try.underlying22 Try.info3 rfl .i64 .i64 d (by omega) (by omega)
  have hd2 : d ≤ 1602 := by omega
  have HO := Lib.hid (fun w => odd_no (J : Int) (N : Int) w (by omega) (by omega) (by omega) (by omega))
  have g1 : ¬ 1000 < (n : Int) := by omega
  have g2 : ¬ 1000 < (m : Int) := by omega
  have HR := Lib.hid hr
  have HQ := Lib.hid hq
  have V1 : Hid (∀ l : List Int, ∀ u ∈ intsV l, u.oneCell' = true) := fun l u hu => by
    obtain ⟨z, _, rfl⟩ := List.mem_map.mp hu
    rfl
  clear hr hq hp hp2 hsame hd
  generalize (runK J N picks (6 * J + N + 2)).ev = E at *
  have hE : E.length ≤ 100000 := by omega
  clear hlen
  go_enter Try.func8, Try.ntmps8
  go_wp2_with (first
    | (go_at_call 9; refine (awake_any _).mono ?_; rintro e w1 ⟨rfl, hb1⟩)
    | (go_at_call 10; refine (HO.out _).mono ?_; rintro e w2 ⟨rfl, rfl⟩)
    | (go_at_call 11; (with_reducible refine (HRUN.out _ hb1).mono ?_); rintro e w3 ⟨hb3, A, c, rfl, ho3⟩; have HB3 := Lib.hid (bel_trans hb1 hb3); have hs3 := HB3.out.size)
    | (at_builtin; refine append_reads w3.heap.size rfl _ _ 22 3 (.int .i64 0) 8 rfl Try.underlying22 Try.info3 rfl (by decide) (.slice (some ⟨w3.heap.size + 1, 0, none⟩) 0 0) 0 [] rfl (own_empty w3 w3.heap.size _ (Nat.le_refl _)) A0 n c0 (intsV picks) rfl (HR.out.below ((HB3.out.alloc hs3 _).alloc (by simp; omega) _)) (V1.out _) (by omega) (by simp; omega) ?_))
  intro A1 c1 w4 ho4 hg4
  have hb34 : Below (w3.heap.size + 1) (w3.alloc (.cells (madeCells #[.int .i64 0] d) 3)) w4 := by
    have h0 : Below (w3.heap.size + 1) (w3.alloc (.cells (madeCells #[.int .i64 0] d) 3)) ((w3.alloc (.cells (madeCells #[.int .i64 0] d) 3)).alloc (.cells #[] 3)) := (Below.refl _ _).alloc (by simp) _
    exact h0.grown hg4 (by simp) (fun k hk => by cases hk; exact Nat.le_refl _)
  have hno : (w3.alloc (.cells (madeCells #[.int .i64 0] d) 3)).ownsRow w3.heap.size 3 1 (.slice (some ⟨w3.heap.size, 0, none⟩) d d) d (intsV (List.replicate d 0)) := by
    have := World.ownsRow_lit (base := w3.heap.size) (e := 3) (size := 1) w3 (madeCells #[.int .i64 0] d) d (Nat.le_refl _) (by simp only [maxLen]; omega) (by rw [size_madeCells]; simp)
    rw [toList_madeCells_one] at this
    simpa [intsV] using this
  have hNR : Reads w4 (some ⟨w3.heap.size, 0, none⟩) d (intsV (List.replicate d 0)) := (own_reads hno).below (hb34.mono (by simp))
  have hb4 : Below w3.heap.size w3 w4 := ((Below.refl _ _).alloc (Nat.le_refl _) _).trans (hb34.mono (by omega))
  have HEV := Lib.hid (EvAt.of_own ho3 hE)
  clear hb34 hno ho3 hb1 hb3 HRUN hmk hmax hg4 HR
  go_wp2_with (at_builtin; refine append_reads w3.heap.size rfl _ _ 22 3 (.int .i64 0) 8 rfl Try.underlying22 Try.info3 rfl (by decide) (.slice A1 n c1) n (intsV picks) rfl ho4 (some ⟨w3.heap.size, 0, none⟩) d d (intsV (List.replicate d 0)) rfl hNR (V1.out _) (by omega) hb4.size ?_)
  intro A2 c2 w5 ho5 hg5
  have hb5 : Below w3.heap.size w3 w5 := hb4.grown hg5 hb4.size (own_base ho4)
  clear ho4 hNR hb4 hg5
  go_wp2_with (at_builtin; refine append_reads w3.heap.size rfl _ _ 22 3 (.int .i64 0) 8 rfl Try.underlying22 Try.info3 rfl (by decide) (.slice A2 (n + d) c2) (n + d) (intsV picks ++ intsV (List.replicate d 0)) rfl ho5 B0 m d0 (intsV more) rfl (HQ.out.below (bel_trans HB3.out hb5)) (V1.out _) (by omega) hb5.size ?_)
  intro A3 c3 w6 ho6 hg6
  have hb6 : Below w3.heap.size w3 w6 := hb5.grown hg6 hb5.size (own_base ho5)
  have HR6 : Hid (Reads w6 A3 (n + d + m) (intsV (picks ++ List.replicate d 0 ++ more))) := by
    show Reads _ _ _ _
    have := own_reads ho6
    simpa [intsV] using this
  have HB6 := Lib.hid hb6
  clear ho5 hb5 hg6 ho6 hb6 HQ V1
  go_wp2_with (go_at_call 11; refine (HRUN2.out _ _ _ HR6.out).mono ?_; rintro e w7 ⟨hb7, A4, c4, rfl, ho7⟩)
  have HV2 := Lib.hid (EvAt.of_own ho7 hE)
  have HB7 := Lib.hid (bel_trans HB6.out hb7)
  have HV1 : Hid (EvAt w7 A E) := HEV.out.below HB7.out
  clear hb7 ho7 HRUN2 HR6 HB6 HEV
  go_loopg [70] E.length (fun gk b wr => ∃ k : Nat, gk = E.length - k ∧ k ≤ E.length ∧ b = .int .i64 (k : Int) ∧ Below w7.heap.size w7 wr)
  case atStart => exact ⟨0, rfl, Nat.zero_le _, rfl, Below.refl _ _⟩
  case round =>
    obtain ⟨k, rfl, hk, rfl, hbel⟩ := hrel
    by_cases hlt : k < E.length
    · obtain ⟨g, rfl, hg, e1, e2, e3⟩ := (HV1.out.below hbel).2 k hlt
      obtain ⟨g', rfl, hg', e1', e2', e3'⟩ := (HV2.out.below hbel).2 k hlt
      have hlt' : (k : Int) < (E.length : Int) := by omega
      have HB := Lib.hid hbel
      clear hbel
      generalize (E[k]).actor = ac at *
      generalize (E[k]).what = wt at *
      generalize (E[k]).job = jb at *
      go_wp2_with (go_quiet (fail))
      go_roundg (E.length - (k + 1))
      case measure => omega
      case rel => exact ⟨k + 1, rfl, hlt, by go_num, bel_drewN HB.out _⟩
    · obtain rfl : k = E.length := by omega
      go_wp2
      go_ret
      exact ⟨rfl, bel_trans HB3.out (bel_trans HB7.out hbel)⟩
theorem picks_law (J N : Int) (picks more : List Int) (A0 B0 : Option Addr) (n c0 m d0 : Nat) (w : World) (hr : Reads w A0 n (intsV picks)) (hq : Reads w B0 m (intsV more)) (hp : ∀ p ∈ picks, -9223372036854775808 ≤ p ∧ p ≤ 9223372036854775807) (hp2 : ∀ p ∈ more, -9223372036854775808 ≤ p ∧ p ≤ 9223372036854775807) :
    Calls Try.prog 8 #[.int .i64 J, .int .i64 N, .slice A0 n c0, .slice B0 m d0] w fun e w' => e = .returned (.bool true) ∧ Below w.heap.size w w' := by
  by_cases h : J < 0 ∨ 256 < J ∨ N < 1 ∨ 64 < N ∨ 1000 < (n : Int) ∨ 1000 < (m : Int)
  · exact picks_out J N A0 B0 n c0 m d0 w h
  · obtain ⟨j, rfl⟩ := Int.eq_ofNat_of_zero_le (show 0 ≤ J by omega)
    obtain ⟨q, rfl⟩ := Int.eq_ofNat_of_zero_le (show 0 ≤ N by omega)
    exact picks_in j q picks more A0 B0 n c0 m d0 w hr hq hp hp2 (by omega) (by omega) (by omega) (by omega) (by omega)
end Go.Proofs.Ytfokjemoolgojaa

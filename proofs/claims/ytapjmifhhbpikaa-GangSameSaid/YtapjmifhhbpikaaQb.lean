/- The gang, pairs. (Joined by join.py.) -/
import Derived.Test.YtapjmifhhbpikaaQa
import Derived.Test.YtapjmifhhbpikaaHj
/- The gang, pairs: the row of pairs; the numbers of a gang over pairs. (Printed by pf.py out of Hc.) -/
set_option linter.unusedVariables false
set_option linter.unusedSimpArgs false
namespace Go.Proofs.Ytapjmifhhbpikaa
open Go.Conc Go.ConcN Go.ConcM Go.RowKit Go.Conc.Lib Go.ConcR.Gen
open Go.ConcR (KK wgBlock WgAt stA smA rd wr mk)
/-- The pair at place i of the row, cell by cell. -/
def cellP (A B : Int) (d : Bool) (i : Nat) : Value :=
  if i % 2 = 0 then .int .i64 (if d then doV A B (i / 2) else 0) else .string (if d then jobS.extract 0 (i / 2 % 5) else { data := #[] })
def rowP (A B : Int) (J : Nat) (dn : Nat → Bool) : Array Value := ((List.range (2 * J)).map fun i => cellP A B (dn (i / 2)) i).toArray
theorem rowP_size (A B : Int) (J : Nat) (dn : Nat → Bool) : (rowP A B J dn).size = 2 * J := by simp [rowP]
theorem rowP_get {A B : Int} {J : Nat} {dn : Nat → Bool} {i : Nat} (h : i < 2 * J) : (rowP A B J dn)[i]? = some (cellP A B (dn (i / 2)) i) := by simp [rowP, h]
theorem rowP_set (A B : Int) (J : Nat) (dn : Nat → Bool) (j : Nat) : ((rowP A B J dn).setIfInBounds (j * 2) (.int .i64 (doV A B j))).setIfInBounds (j * 2 + 1) (.string (jobS.extract 0 (j % 5))) = rowP A B J (fun x => if x = j then true else dn x) := by
  apply Array.ext_getElem?
  intro i
  by_cases hi : i < 2 * J
  · rw [rowP_get hi]
    by_cases e1 : j * 2 + 1 = i
    · rw [Array.getElem?_setIfInBounds, if_pos e1, if_pos (by simp [rowP_size]; omega)]
      subst e1
      have h1 : (j * 2 + 1) / 2 = j := by omega
      have h2 : ¬ (j * 2 + 1) % 2 = 0 := by omega
      simp [cellP, h1, h2]
    · rw [Array.getElem?_setIfInBounds_ne e1]
      by_cases e0 : j * 2 = i
      · rw [Array.getElem?_setIfInBounds, if_pos e0, if_pos (by rw [rowP_size]; omega)]
        subst e0
        have h1 : (j * 2) / 2 = j := by omega
        have h2 : (j * 2) % 2 = 0 := by omega
        simp [cellP, h1, h2]
      · rw [Array.getElem?_setIfInBounds_ne e0, rowP_get hi, if_neg (by omega)]
  · rw [Array.getElem?_eq_none (by simp [rowP_size]; omega), Array.getElem?_eq_none (by rw [rowP_size]; omega)]
theorem rowP_full (A B : Int) (J : Nat) {dn : Nat → Bool} (h : ∀ j, j < J → dn j = true) : rowP A B J dn = rowP A B J fun _ => true := by
  unfold rowP
  congr 1
  apply List.map_congr_left
  intro i hi
  rw [List.mem_range] at hi
  rw [h (i / 2) (by omega)]
theorem rowP_zero (A B A' B' : Int) (J : Nat) : rowP A B J (fun _ => false) = rowP A' B' J fun _ => false := by simp [rowP, cellP]
/-- What the law's call makes ahead of a gang. -/
def V10 (w : World) (J : Nat) (dov : Value) : World :=
  (((((((w.alloc (.cells #[dov] 31)).alloc (.cells (rowP 0 0 J fun _ => false) 30)).alloc (.cells #[.slice (some ⟨w.heap.size + 1, 0, none⟩) J J] 25)).alloc (muBlock 50 0 0)).alloc
    (.cells #[.func (.func 18) #[] #[.pointer (some ⟨w.heap.size, 0, none⟩), .pointer (some ⟨w.heap.size + 3, 0, none⟩), .pointer (some ⟨w.heap.size + 2, 0, none⟩)]] 52)).alloc (.chan 0 #[] false 0 0 false)).alloc (.cells #[.chan (some (w.heap.size + 5))] 53)).alloc (wgBlock 60 0 0)
theorem V10_size (w : World) (J : Nat) (dov : Value) : (V10 w J dov).heap.size = w.heap.size + 8 := by simp only [V10, size_al, Nat.add_assoc, Nat.reduceAdd]
section
variable {w : World} {J : Nat} {dov : Value}
theorem V10_old {k : Nat} (h : k < w.heap.size) : (V10 w J dov).heap[k]? = w.heap[k]? := by
  unfold V10
  rw [alloc_old (by simp only [size_al]; omega), alloc_old (by simp only [size_al]; omega), alloc_old (by simp only [size_al]; omega), alloc_old (by simp only [size_al]; omega), alloc_old (by simp only [size_al]; omega), alloc_old (by simp only [size_al]; omega), alloc_old (by simp only [size_al]; omega), alloc_old (by omega)]
theorem V10_F : (V10 w J dov).heap[w.heap.size]? = some (.cells #[dov] 31) := by
  unfold V10
  rw [alloc_old (by simp only [size_al]; omega), alloc_old (by simp only [size_al]; omega), alloc_old (by simp only [size_al]; omega), alloc_old (by simp only [size_al]; omega), alloc_old (by simp only [size_al]; omega), alloc_old (by simp only [size_al]; omega), alloc_old (by simp only [size_al]; omega), new_at rfl]
theorem V10_C : (V10 w J dov).heap[w.heap.size + 1]? = some (.cells (rowP 0 0 J fun _ => false) 30) := by
  unfold V10
  rw [alloc_old (by simp only [size_al]; omega), alloc_old (by simp only [size_al]; omega), alloc_old (by simp only [size_al]; omega), alloc_old (by simp only [size_al]; omega), alloc_old (by simp only [size_al]; omega), alloc_old (by simp only [size_al]; omega), new_at (by simp only [size_al])]
theorem V10_O : (V10 w J dov).heap[w.heap.size + 2]? = some (.cells #[.slice (some ⟨w.heap.size + 1, 0, none⟩) J J] 25) := by
  unfold V10
  rw [alloc_old (by simp only [size_al]; omega), alloc_old (by simp only [size_al]; omega), alloc_old (by simp only [size_al]; omega), alloc_old (by simp only [size_al]; omega), alloc_old (by simp only [size_al]; omega), new_at (by simp only [size_al])]
theorem V10_M : (V10 w J dov).heap[w.heap.size + 3]? = some (muBlock 50 0 0) := by
  unfold V10
  rw [alloc_old (by simp only [size_al]; omega), alloc_old (by simp only [size_al]; omega), alloc_old (by simp only [size_al]; omega), alloc_old (by simp only [size_al]; omega), new_at (by simp only [size_al])]
theorem V10_D : (V10 w J dov).heap[w.heap.size + 4]? = some (.cells #[.func (.func 18) #[] #[.pointer (some ⟨w.heap.size, 0, none⟩), .pointer (some ⟨w.heap.size + 3, 0, none⟩), .pointer (some ⟨w.heap.size + 2, 0, none⟩)]] 52) := by
  unfold V10
  rw [alloc_old (by simp only [size_al]; omega), alloc_old (by simp only [size_al]; omega), alloc_old (by simp only [size_al]; omega), new_at (by simp only [size_al])]
theorem V10_H : (V10 w J dov).heap[w.heap.size + 5]? = some (.chan 0 #[] false 0 0 false) := by
  unfold V10
  rw [alloc_old (by simp only [size_al]; omega), alloc_old (by simp only [size_al]; omega), new_at (by simp only [size_al])]
theorem V10_Q : (V10 w J dov).heap[w.heap.size + 6]? = some (.cells #[.chan (some (w.heap.size + 5))] 53) := by
  unfold V10
  rw [alloc_old (by simp only [size_al]; omega), new_at (by simp only [size_al])]
theorem V10_W : (V10 w J dov).heap[w.heap.size + 7]? = some (wgBlock 60 0 0) := by
  unfold V10
  rw [new_at (by simp only [size_al])]
end
/-- THE GANG's NUMBERS. -/
def bandP (A B : Int) (J N s base : Nat) (Shun : Loc → Prop) (hN1 : 1 ≤ N) (hN : N ≤ 64) (hS : LowS Shun s) : Band where
  tM := 50
  tW := 60
  Mu := s + 3
  Wg := s + 7
  Ch := s + 5
  C := s + 1
  ety := 30
  B0 := s + 8
  base := base
  N := N
  J := J
  Shun := ShunI Shun s
  z := .int .i64 0
  nb := 4
  sz := 2 * J
  row := rowP A B J
  put := fun j cs => (cs.setIfInBounds (j * 2) (.int .i64 (doV A B j))).setIfInBounds (j * 2 + 1) (.string (jobS.extract 0 (j % 5)))
  hMW := by omega
  hMC := by omega
  hWC := by omega
  hMH := by omega
  hWH := by omega
  hCH := by omega
  bM := by omega
  bW := by omega
  bH := by omega
  bC := by omega
  sM := fun ad h => (shunI_iff hS ad (by omega)).2 (.inl h)
  sW := fun ad h => (shunI_iff hS ad (by omega)).2 (.inr h)
  sC := fun ad h hs => by have := (shunI_iff hS ad (by omega)).1 hs; omega
  sB := fun ad h hs => by have := (shunI_iff hS ad (by omega)).1 hs; omega
  sO := fun b hs => by
    rcases hs with h1 | ⟨x, hx, _⟩
    · obtain ⟨x, hx, _⟩ := hS _ h1; cases hx
    · cases hx
  hN := hN1
  hnb := by omega
  hrow := rowP_size A B J
  hput := fun dn j _ => rowP_set A B J dn j
  hfull := fun dn h => rowP_full A B J h
  hNb := by omega
end Go.Proofs.Ytapjmifhhbpikaa

/- The gang, pairs: Each of pairs walked. (Printed by pf.py out of Hd.) -/
set_option linter.unusedVariables false
set_option linter.unusedSimpArgs false
namespace Go.Proofs.Ytapjmifhhbpikaa
open Go.Conc Go.ConcN Go.ConcM Go.RowKit Go.Conc.Lib Go.ConcR.Gen
open Go.ConcR (KK wgBlock WgAt stA smA rd wr mk)
theorem fb18 : Try.f18.body = some body18 := by simp only [body18, Try.f18, Option.getD_some]
theorem nt18 : Try.f18.ntmps = 14 := by kernel_rfl
theorem info30' : (Try.prog.info? 30).map (fun i => (i.zero, i.size, i.bytes)) = some (some (.agg #[.int .i64 0, .string { data := #[] }]), 2, 24) := by kernel_rfl
theorem und25 : Try.prog.underlying 25 = some (.slice 30) := Try.underlying25
theorem madeP (J : Nat) : madeCells #[.int .i64 0, .string { data := #[] }] (J * 2) = rowP 0 0 J fun _ => false := by
  apply Array.ext_getElem?
  intro i
  by_cases hi : i < 2 * J
  · rw [rowP_get hi]
    have h2 : i < J * 2 := by omega
    simp only [madeCells, cellP]
    rcases Nat.mod_two_eq_zero_or_one i with h | h <;> simp [h, h2]
  · rw [Array.getElem?_eq_none (by simp [madeCells]; omega), Array.getElem?_eq_none (by rw [rowP_size]; omega)]
section
variable {a : Act} {o : Oper}
theorem run_mkSliceP {x y : Operand} (hop : o.op = .makeSlice 25 x y) {j : Nat} (hj : j ≤ 1000) (hx : a.eval x = .int .i64 (j : Int)) (hy : a.eval y = .int .i64 (j : Int)) (w : World) : (execOp a.eval o).run Try.prog w = .ok (.value (.slice (some ⟨w.heap.size, 0, none⟩) j j)) (w.alloc (.cells (rowP 0 0 j fun _ => false) 30)) ∧ (execOp a.eval o).events Try.prog w #[] = #[] := by
  obtain ⟨i, hi, hzz⟩ := Option.map_eq_some_iff.1 info30'
  simp only [Prod.mk.injEq] at hzz
  obtain ⟨hz, hs, hb⟩ := hzz
  have h1 := run_make (P := Try.prog) w 25 30 i (.agg #[.int .i64 0, .string { data := #[] }]) und25 hi hz .i64 .i64 (j : Int) (j : Int) (by omega) (by omega) (by rw [hb]; omega) (by omega)
  have h2 := Go.Conc.events_make (P := Try.prog) w 25 30 i (.agg #[.int .i64 0, .string { data := #[] }]) und25 hi hz .i64 .i64 (j : Int) (j : Int) (by omega) (by omega) (by rw [hb]; omega) (by omega) (by rw [hb]; simp; omega) #[]
  rw [hs] at h1
  have e : (((j : Int)).toNat * 2) = j * 2 := by simp
  rw [e] at h1
  simp only [Value.cells, madeP] at h1
  constructor
  · unfold execOp
    simp only [hop, hx, hy]
    simp [go_sem, h1]
  · unfold execOp
    simp only [hop, hx, hy]
    simp [go_sem, h1, h2]
theorem run_st25 {x y : Operand} {ad : Addr} {p : Option Addr} {l c : Nat} {u : Value} (hop : o.op = .store 25 x y) (hx : a.eval x = .pointer (some ad)) (hy : a.eval y = .slice p l c) (w : World) (hc : w.cell? ad = some u) (hz : w.frozen? ad = false) :
    (execOp a.eval o).run Try.prog w = .ok .skip (w.setCell ad (.slice p l c)) ∧ (execOp a.eval o).events Try.prog w #[] = #[⟨.cell ad, true, false⟩] := by
  constructor
  · unfold execOp
    simp only [hop, hx, hy]
    simp [go_sem, stored, hc, hz]
  · unfold execOp
    simp only [hop, hx, hy]
    simp [go_sem, events_store_sl, storedEv, hc, hz]
end
theorem job18 {A B : Int} {J N s base : Nat} {Shun : Loc → Prop} {hN1 : 1 ≤ N} {hN : N ≤ 64} {hS : LowS Shun s} {W : World} {Q D F O : Nat} (E : Env (bandP A B J N s base Shun hN1 hN hS) W Q D F O 18 (.func (.func 9) #[.agg #[.int .i64 A, .int .i64 B]] #[])) : JobGo (bandP A B J N s base Shun hN1 hN hS) W F O 18 body18 :=
  fun Fa _ b₁ a₁ ops₁ i₁ rest₁ k₁ cs₁ j hj k v hT w hF => each2Go E rfl rfl j hj (fun _ => rfl) k v hT w hF
theorem bandEnvP {A B : Int} {J N base : Nat} {Shun : Loc → Prop} {w : World} {hN1 : 1 ≤ N} {hN : N ≤ 64} {hS : LowS Shun w.heap.size} {jf : Value} :
    Env (bandP A B J N w.heap.size base Shun hN1 hN hS) (V10 w J jf) (w.heap.size + 6) (w.heap.size + 4) w.heap.size (w.heap.size + 2) 18 jf where
  sQ := ⟨by show _ < w.heap.size + 8; omega, by show _ ≠ w.heap.size + 3; omega, by show _ ≠ w.heap.size + 7; omega, by show _ ≠ w.heap.size + 5; omega, by show _ ≠ w.heap.size + 1; omega⟩
  sD := ⟨by show _ < w.heap.size + 8; omega, by show _ ≠ w.heap.size + 3; omega, by show _ ≠ w.heap.size + 7; omega, by show _ ≠ w.heap.size + 5; omega, by show _ ≠ w.heap.size + 1; omega⟩
  sF := ⟨by show _ < w.heap.size + 8; omega, by show _ ≠ w.heap.size + 3; omega, by show _ ≠ w.heap.size + 7; omega, by show _ ≠ w.heap.size + 5; omega, by show _ ≠ w.heap.size + 1; omega⟩
  sO := ⟨by show _ < w.heap.size + 8; omega, by show _ ≠ w.heap.size + 3; omega, by show _ ≠ w.heap.size + 7; omega, by show _ ≠ w.heap.size + 5; omega, by show _ ≠ w.heap.size + 1; omega⟩
  nQ := fun h => by have := (shunI_iff hS ⟨w.heap.size + 6, 0, none⟩ (by show w.heap.size ≤ w.heap.size + 6; omega)).1 h; simp at this
  nD := fun h => by have := (shunI_iff hS ⟨w.heap.size + 4, 0, none⟩ (by show w.heap.size ≤ w.heap.size + 4; omega)).1 h; simp at this
  nF := fun h => by have := (shunI_iff hS ⟨w.heap.size, 0, none⟩ (Nat.le_refl _)).1 h; simp at this
  nO := fun h => by have := (shunI_iff hS ⟨w.heap.size + 2, 0, none⟩ (by show w.heap.size ≤ w.heap.size + 2; omega)).1 h; simp at this
  cQ := by simp [World.cell?, V10_Q, bandP]
  cD := by simp [World.cell?, V10_D, bandP]
  cF := by simp [World.cell?, V10_F]
  cO := by simp [World.cell?, V10_O, bandP]
  z := rfl
theorem bandShP {A B : Int} {J N base : Nat} {Shun : Loc → Prop} {w : World} {hN1 : 1 ≤ N} {hN : N ≤ 64} {hS : LowS Shun w.heap.size} {jf : Value} : SAt (bandP A B J N w.heap.size base Shun hN1 hN hS) ⟨.zero, 0, 0, false, 0⟩ (V10 w J jf) :=
  ⟨V10_M, by
    show (V10 w J jf).heap[w.heap.size + 7]? = _
    rw [V10_W]
    simp [bandP]⟩
theorem bandRowP {A B : Int} {J N base : Nat} {Shun : Loc → Prop} {w : World} {hN1 : 1 ≤ N} {hN : N ≤ 64} {hS : LowS Shun w.heap.size} {jf : Value} : CAt (bandP A B J N w.heap.size base Shun hN1 hN hS) ((bandP A B J N w.heap.size base Shun hN1 hN hS).row fun _ => false) (V10 w J jf) := by
  show (V10 w J jf).heap[w.heap.size + 1]? = some (.cells (rowP A B J fun _ => false) 30)
  rw [V10_C]
  rw [rowP_zero 0 0 A B J]
theorem bandKnP {A B : Int} {J N base : Nat} {Shun : Loc → Prop} {w w₁ : World} {hN1 : 1 ≤ N} {hN : N ≤ 64} {hS : LowS Shun w.heap.size} {jf : Value} (h : AtRel (V10 w J jf) w₁) : Kn (bandP A B J N w.heap.size base Shun hN1 hN hS) (V10 w J jf) w₁ := by
  obtain ⟨d, rfl⟩ := h
  exact ⟨⟨⟨_, bandShP⟩, ⟨false, 0, 0, V10_H⟩, ⟨_, bandRowP, rowP_size _ _ _ _⟩⟩, fun _ _ => rfl, by show w.heap.size + 8 ≤ (V10 w J jf).heap.size; rw [V10_size]; omega, rfl, rfl, .refl _⟩
theorem loud8 : (Try.prog.funcs[(base 8).fn]?).any (·.norace) = false := by kernel_rfl
noncomputable def body8 : Code := Try.f8.body.getD .skip
section
variable {b₀ : Frame} {a₀ : Act} {ops₀ : Array Oper} {i₀ : Nat} {rest₀ : List Nat} {k₀ : List Item} {cs : List Frame}
set_option maxRecDepth 100000 in
set_option maxHeartbeats 16000000 in
/-- From Each's entry to the gang's beginning; from the gang's end to Each's return. -/
theorem eachWalkP {A B : Int} {J N base' : Nat} (hJ : J ≤ 256) (hN1 : 1 ≤ N) (hN : N ≤ 64) {Shun : Loc → Prop} {w : World} (hS : LowS Shun w.heap.size) :
    Goes Try.prog true AtRel (DE (EvP Shun (fun l => ∃ ad, l = .cell ad ∧ (ad.block = w.heap.size + 3 ∨ ad.block = w.heap.size + 7 ∨ ad.block = w.heap.size + 1)) (w.heap.size + 8)))
      (fun g w₁ => AtRel (V10 w J (.func (.func 9) #[.agg #[.int .i64 A, .int .i64 B]] #[])) w₁ ∧ ∀ k, ∃ m, GoS Try.prog (bandP A B J N w.heap.size base' Shun hN1 hN hS) (AtS Try.prog (bandP A B J N w.heap.size base' Shun hN1 hN hS) (FinG fun g w' => Kn (bandP A B J N w.heap.size base' Shun hN1 hN hS) (V10 w J (.func (.func 9) #[.agg #[.int .i64 A, .int .i64 B]] #[])) w' ∧ CAt (bandP A B J N w.heap.size base' Shun hN1 hN hS) (full (bandP A B J N w.heap.size base' Shun hN1 hN hS)) w' ∧
        ∃ m, Goes Try.prog true AtRel (DE (EvP (ShunI Shun w.heap.size) NoF (w.heap.size + 8))) (fun g w₂ => g = (G (b₀.at (a₀.put ((ops₀[i₀]?).bind (·.dst)) (.tuple #[.slice (some ⟨w.heap.size + 1, 0, none⟩) J J, .int .i64 0])) (.inRegion ops₀ rest₀ :: k₀)) cs) ∧ AtRel w' w₂) m g w') k ⟨.gk, 0, 0⟩) m g w₁)
      400 (G ((base 8).at ⟨#[.int .i64 (J : Int), .int .i64 (N : Int), .func (.func 9) #[.agg #[.int .i64 A, .int .i64 B]] #[], undef, undef, undef, undef, undef, undef, undef, undef, undef, undef, undef, undef, undef, undef, undef, undef, undef], []⟩ [.code body8]) (b₀.at a₀ (.inRegion ops₀ (i₀ :: rest₀) :: k₀) :: cs)) w := by
  have bE : Env (bandP A B J N w.heap.size base' Shun hN1 hN hS) (V10 w J (.func (.func 9) #[.agg #[.int .i64 A, .int .i64 B]] #[])) _ _ _ _ _ _ := bandEnvP
  have hF := atRel_refl w
  have h1 : ¬ ((J : Int) < 0) := by omega
  have h2 : ¬ ((256 : Int) < (J : Int)) := by omega
  have h3 : ¬ ((N : Int) < 1) := by omega
  have h4 : ¬ ((64 : Int) < (N : Int)) := by omega
  simp only [body8, Try.f8, Option.getD_some]
  refine goL0 (n := 10) (m := 390) ?_
  repeat w_go ar_rely
  refine Goes.stop (fun _ r₁ => ?_)
  replace hF := ar_rely hF r₁
  clear r₁
  refine goL_new (n := 389) (v := fun s => .pointer (some ⟨s, 0, none⟩)) hF rfl rfl (by k_ne) (run_box rfl rfl (.inl ⟨.inr (.inr rfl), _, _, _, rfl⟩)) fun _ hF => ?_
  refine goL0 (n := 100) (m := 289) ?_
  walk_nrm
  repeat w_go ar_rely
  u_call Try.func16 nm16 Try.f16 ar_rely hF
  repeat w_go ar_rely
  u_leave1 Try.func16 ar_rely hF
  repeat w_go ar_rely
  refine Goes.stop (fun _ r₁ => ?_)
  replace hF := ar_rely hF r₁
  clear r₁
  refine goL_new (n := 288) (v := fun s => .slice (some ⟨s, 0, none⟩) J J) hF rfl rfl (by k_ne) (run_mkSliceP rfl (by omega) rfl rfl) fun _ hF => ?_
  refine goL0 (n := 20) (m := 268) ?_
  walk_nrm
  repeat w_go ar_rely
  refine Goes.stop (fun _ r₁ => ?_)
  replace hF := ar_rely hF r₁
  clear r₁
  refine goL_new (n := 267) (v := fun s => .pointer (some ⟨s, 0, none⟩)) hF rfl rfl (by k_ne) (run_alloc25 rfl) fun _ hF => ?_
  simp only [size_al]
  refine goL0 (n := 20) (m := 247) ?_
  walk_nrm
  repeat w_go ar_rely
  refine Goes.stop (fun _ r₁ => ?_)
  replace hF := ar_rely hF r₁
  clear r₁
  have low : ∀ k, w.heap.size ≤ k → ¬ Shun (.cell ⟨k, 0, none⟩) := fun k hk h => by obtain ⟨x, hx, hb⟩ := hS _ h; cases hx; simp at hb; omega
  have nfr : ∀ k, k ≠ w.heap.size + 3 → k ≠ w.heap.size + 7 → k ≠ w.heap.size + 1 → ¬ ∃ ad, (Loc.cell ⟨k, 0, none⟩) = .cell ad ∧ (ad.block = w.heap.size + 3 ∨ ad.block = w.heap.size + 7 ∨ ad.block = w.heap.size + 1) := fun k k1 k2 k3 h => by obtain ⟨x, hx, hb⟩ := h; cases hx; simp at hb; omega
  refine goL_st (n := 246) (ad := ⟨w.heap.size + 2, 0, none⟩) (v := .slice (some ⟨w.heap.size + 1, 0, none⟩) J J) hF rfl rfl (by k_ne) rfl (fun w' hc hz => run_st25 (ad := ⟨w.heap.size + 2, 0, none⟩) (p := some ⟨w.heap.size + 1, 0, none⟩) (l := J) (c := J) rfl rfl rfl w' (hc.trans (cell_new (by simp only [size_al, Nat.add_assoc, Nat.reduceAdd])).1) (hz.trans (cell_new (by simp only [size_al, Nat.add_assoc, Nat.reduceAdd])).2)) loud8 (evP_cell (low _ (by omega)) (nfr _ (by omega) (by omega) (by omega)) (show w.heap.size + 2 < w.heap.size + 8 by omega)) fun _ hF => ?_
  rw [setCell_new2 (by simp only [size_al, Nat.add_assoc, Nat.reduceAdd])] at hF
  refine goL0 (n := 20) (m := 226) ?_
  walk_nrm
  repeat w_go ar_rely
  refine Goes.stop (fun _ r₁ => ?_)
  replace hF := ar_rely hF r₁
  clear r₁
  refine goL_new (n := 225) (v := fun s => .pointer (some ⟨s, 0, none⟩)) hF rfl rfl (by k_ne) (run_alloc50 rfl) fun _ hF => ?_
  simp only [size_al]
  refine goL0 (n := 40) (m := 185) ?_
  walk_nrm
  repeat w_go ar_rely
  u_in ar_rely hF
  refine goes_call (c := body17) rfl rfl (by k_ne) rfl Try.func17 nm17 fb17 ⟨by u_nil, ?_⟩
  simp only [nt17]
  walk_nrm
  rw [body17_eq]
  generalize q0 : C0 = X0
  generalize q1 : C1 = X1
  generalize q2 : C2 = X2
  generalize q3 : C3 = X3
  simp only [C0, C1, C2, C3, body17, firstC, rightC, Try.f17, Option.getD_some] at q0 q1 q2 q3
  subst q0; subst q1; subst q2; subst q3
  repeat w_go ar_rely
  refine Goes.stop (fun _ r₁ => ?_)
  replace hF := ar_rely hF r₁
  clear r₁
  refine goL_new (n := 184) (v := fun s => .pointer (some ⟨s, 0, none⟩)) hF rfl rfl (by k_ne) (run_box rfl rfl (.inl ⟨.inr (.inl rfl), _, _, _, rfl⟩)) fun _ hF => ?_
  simp only [size_al]
  refine goL0 (n := 20) (m := 164) ?_
  walk_nrm
  repeat w_go ar_rely
  refine Goes.stop (fun _ r₁ => ?_)
  replace hF := ar_rely hF r₁
  clear r₁
  refine goL_new (n := 163) (v := fun s => .chan (some s)) hF rfl rfl (by k_ne) (run_mkChan rfl) fun _ hF => ?_
  simp only [size_al]
  refine goL0 (n := 20) (m := 143) ?_
  walk_nrm
  repeat w_go ar_rely
  refine Goes.stop (fun _ r₁ => ?_)
  replace hF := ar_rely hF r₁
  clear r₁
  refine goL_new (n := 142) (v := fun s => .pointer (some ⟨s, 0, none⟩)) hF rfl rfl (by k_ne) (run_alloc53 rfl) fun _ hF => ?_
  simp only [size_al]
  refine goL0 (n := 20) (m := 122) ?_
  walk_nrm
  repeat w_go ar_rely
  refine Goes.stop (fun _ r₁ => ?_)
  replace hF := ar_rely hF r₁
  clear r₁
  refine goL_st (n := 121) (ad := ⟨w.heap.size + 6, 0, none⟩) (v := .chan (some (w.heap.size + 5))) hF rfl rfl (by k_ne) rfl (fun w' hc hz => run_st (ad := ⟨w.heap.size + 6, 0, none⟩) (v := .chan (some (w.heap.size + 5))) rfl rfl rfl (.inr (.inl ⟨rfl, _, rfl⟩)) w' (hc.trans (cell_new (by simp only [size_al, Nat.add_assoc, Nat.reduceAdd])).1) (hz.trans (cell_new (by simp only [size_al, Nat.add_assoc, Nat.reduceAdd])).2)) loud17 (evP_cell (low _ (by omega)) (nfr _ (by omega) (by omega) (by omega)) (show w.heap.size + 6 < w.heap.size + 8 by omega)) fun _ hF => ?_
  rw [setCell_new2 (by simp only [size_al, Nat.add_assoc, Nat.reduceAdd])] at hF
  refine goL0 (n := 20) (m := 101) ?_
  walk_nrm
  repeat w_go ar_rely
  refine Goes.stop (fun _ r₁ => ?_)
  replace hF := ar_rely hF r₁
  clear r₁
  refine goL_new (n := 100) (v := fun s => .pointer (some ⟨s, 0, none⟩)) hF rfl rfl (by k_ne) (run_alloc60 rfl) fun _ hF => ?_
  simp only [size_al]
  refine goL0 (n := 40) (m := 60) ?_
  walk_nrm
  repeat w_but "code.loop" ar_rely
  u_c stepG_loop ar_rely hF
  refine Goes.stop (fun _ r₁ => ?_)
  replace hF := ar_rely hF r₁
  clear r₁
  refine Goes.stop (fun w₁ r => ?_)
  replace hF : AtRel (V10 w J (.func (.func 9) #[.agg #[.int .i64 A, .int .i64 B]] #[])) w₁ := ar_rely hF r
  refine ⟨hF, fun k => ?_⟩
  refine startUse bE (by show J ≤ 1000; omega) Try.func18 nm18 fb18 nt18 (job18 bE) (bandKnP hF) ?_ k
  refine ⟨0, fun w' g1 g2 => Goes.stop fun w₂ r₂ => ?_⟩
  have k1 := g1.atRel r₂
  refine ⟨k1, (kf_atRel ⟨g1, g2⟩ r₂).2, ?_⟩
  have hF := atRel_refl w₂
  refine ⟨60, ?_⟩
  refine goL0 (n := 20) (m := 40) ?_
  walk_nrm
  repeat w_go ar_rely
  refine Goes.stop (fun _ r₁ => ?_)
  replace hF := ar_rely hF r₁
  clear r₁
  have hcO : w₂.cell? ⟨w.heap.size + 2, 0, none⟩ = some (.slice (some ⟨w.heap.size + 1, 0, none⟩) J J) := k1.cell bE.sO bE.cO
  refine goL_ld (n := 39) (ad := ⟨w.heap.size + 2, 0, none⟩) (v := .slice (some ⟨w.heap.size + 1, 0, none⟩) J J) hF rfl rfl (by k_ne) rfl (by simp) rfl loud8 hcO (evP_cell bE.nO (fun h => h) (show w.heap.size + 2 < w.heap.size + 8 by omega)) fun _ hF => ?_
  refine goL0 (n := 20) (m := 19) ?_
  walk_nrm
  repeat w_go ar_rely
  u_in ar_rely hF
  refine goes_leave2 rfl rfl Try.func8 rfl ⟨by u_nil, ?_⟩
  refine Goes.stop (fun _ r₁ => ?_)
  replace hF := ar_rely hF r₁
  clear r₁
  exact Goes.stop fun _ r => ⟨rfl, ar_rely hF r⟩
end
end Go.Proofs.Ytapjmifhhbpikaa

/- The gang, pairs: Each of pairs: what it comes to. (Printed by pf.py out of He.) -/
set_option linter.unusedVariables false
set_option linter.unusedSimpArgs false
namespace Go.Proofs.Ytapjmifhhbpikaa
open Go.Conc Go.ConcN Go.ConcM Go.RowKit Go.Conc.Lib Go.ConcR.Gen
open Go.ConcR (KK wgBlock WgAt stA smA rd wr mk)
section
variable {b₀ : Frame} {a₀ : Act} {ops₀ : Array Oper} {i₀ : Nat} {rest₀ : List Nat} {k₀ : List Item} {cs : List Frame}
/-- ████ gang.Each, OF INTS. ████ -/
theorem eachReachP {A B : Int} {J N : Nat} (hJ : J ≤ 256) (hN1 : 1 ≤ N) (hN : N ≤ 64) {Shun : Loc → Prop} {w : World} (hS : LowS Shun w.heap.size) {Post : (Loc → Prop) → Goroutine → World → Prop}
    (hk : ∀ S' w', Aft w w' 8 → LowS S' w'.heap.size → (∀ l, S' l → Shun l ∨ ∃ ad, l = .cell ad ∧ (ad.block = w.heap.size + 3 ∨ ad.block = w.heap.size + 7)) → w'.heap[w.heap.size + 1]? = some (.cells (rowP A B J fun _ => true) 30) →
      Reach Try.prog S' (G (b₀.at (a₀.put ((ops₀[i₀]?).bind (·.dst)) (.tuple #[.slice (some ⟨w.heap.size + 1, 0, none⟩) J J, .int .i64 0])) (.inRegion ops₀ rest₀ :: k₀)) cs) w' Post) :
    Reach Try.prog Shun (G ((base 8).at ⟨#[.int .i64 (J : Int), .int .i64 (N : Int), .func (.func 9) #[.agg #[.int .i64 A, .int .i64 B]] #[], undef, undef, undef, undef, undef, undef, undef, undef, undef, undef, undef, undef, undef, undef, undef, undef, undef], []⟩ [.code body8]) (b₀.at a₀ (.inRegion ops₀ (i₀ :: rest₀) :: k₀) :: cs)) w Post := by
  intro gs sl t q h0 hFr
  have hpos : 0 < gs.size := (Array.getElem?_eq_some_iff.1 h0).1
  have f0 := (hFr.freshen (Fresh' := fun l => ∃ ad, l = .cell ad ∧ (ad.block = w.heap.size + 3 ∨ ad.block = w.heap.size + 7 ∨ ad.block = w.heap.size + 1)) (fun l ⟨ad, e, hb⟩ => ⟨ad, e, by omega⟩)).mono (Nat.le_add_right _ 8)
  obtain ⟨N1, gs1, a1, w1, sl1, t1, q1, r1, hsz1, h01, ⟨hAR, hGo⟩, f1⟩ := walkF _ _ gs _ w sl t q (Nat.le_refl _) h0 f0 (eachWalkP (A := A) (B := B) (base' := gs.size - 1) hJ hN1 hN hS)
  have hw1 : w1.heap.size = w.heap.size + 8 := (at_size hAR).trans (V10_size _ _ _)
  have hsh : SAt (bandP A B J N w.heap.size (gs.size - 1) Shun hN1 hN hS) ⟨.zero, 0, 0, false, 0⟩ w1 := by obtain ⟨d, rfl⟩ := hAR; exact bandShP
  have hch : HAt (bandP A B J N w.heap.size (gs.size - 1) Shun hN1 hN hS) false w1 := by obtain ⟨d, rfl⟩ := hAR; exact ⟨0, 0, V10_H⟩
  have hrow : CAt (bandP A B J N w.heap.size (gs.size - 1) Shun hN1 hN hS) ((bandP A B J N w.heap.size (gs.size - 1) Shun hN1 hN hS).row fun _ => false) w1 := by obtain ⟨d, rfl⟩ := hAR; exact bandRowP
  obtain ⟨N2, gs2, a2, w2, sl2, t2, q2, r2, h02, f2, hFin, hfull⟩ := gang_phase (K := bandP A B J N w.heap.size (gs.size - 1) Shun hN1 hN hS) (sl := sl1) h01 f1 (by omega) (by show w.heap.size + 8 ≤ _; omega) (by show gs1.size = gs.size - 1 + 1; omega) (fun l => Iff.rfl) hsh hch hrow hGo
  obtain ⟨m3, hm3⟩ := hFin
  obtain ⟨N3, gs3, a3, w3, sl3, t3, q3, r3, _, h03, ⟨⟨hKn, hC, m4, hm4⟩, hA3⟩, f3⟩ := walkF _ _ gs2 _ w2 sl2 t2 q2 (Nat.le_refl _) h02 f2 (goes_dc0 (atRel_refl w2) hm3)
  have hs3 : w3.heap.size = w2.heap.size := at_size hA3
  have hB3 : w.heap.size + 8 ≤ w3.heap.size := hKn.B
  obtain ⟨N4, gs4, a4, w4, sl4, t4, q4, r4, _, h04, ⟨rfl, hA4⟩, f4⟩ := walkF _ _ gs3 _ w3 sl3 t3 q3 (Nat.le_refl _) h03 f3 (goes_monoE (fun e he => EvP.mono (by omega) he) hm4)
  have hs4 : w4.heap.size = w3.heap.size := at_size hA4
  have hK4 := hKn.atRel hA4
  have hC4 := (kf_atRel ⟨hKn, hC⟩ hA4).2
  obtain ⟨N5, gs5, a5, w5, sl5, t5, q5, S5, r5, h05, f5, hp5⟩ := hk (ShunI Shun w.heap.size) w4
    ⟨by omega, hK4.tape, hK4.output, hK4.os, fun k hk => (hK4.still k ⟨by show k < w.heap.size + 8; omega, by show k ≠ w.heap.size + 3; omega, by show k ≠ w.heap.size + 7; omega, by show k ≠ w.heap.size + 5; omega, by show k ≠ w.heap.size + 1; omega⟩).trans (V10_old hk)⟩
    (fun l hl => by
      rcases hl with h | ⟨ad, e, hb⟩
      · obtain ⟨ad, e, hb⟩ := hS l h
        exact ⟨ad, e, by omega⟩
      · exact ⟨ad, e, by omega⟩) (fun l hl => hl) hC4 gs4 sl4 t4 q4 h04 (by
      have e : w2.heap.size = w4.heap.size := by omega
      rw [← e]; exact f4)
  exact ⟨N1 + N2 + N3 + N4 + N5, gs5, a5, w5, sl5, t5, q5, S5, runNT_trans' (runNT_trans' (runNT_trans' (runNT_trans' r1 r2) r3) r4) r5, h05, f5, hp5⟩
end
end Go.Proofs.Ytapjmifhhbpikaa

/- The gang, pairs: Two by goroutine 0, beside leavers. (Printed by pi.py.) -/
set_option linter.unusedVariables false
set_option linter.unusedSimpArgs false
namespace Go.Proofs.Ytapjmifhhbpikaa
open Go.Conc Go.ConcN Go.ConcM Go.RowKit Go.Conc.Lib Go.ConcR.Gen
open Go.ConcR (KK wgBlock WgAt stA smA rd wr mk)
/-- The worlds of Two. -/
def WT2 (W : World) (A B : Int) : World := (W.alloc (.cells #[.int .i64 A, .int .i64 B] 23)).alloc (.cells #[.int .i64 0, .string { data := #[] }] 30)
def WT3 (W : World) (A B : Int) : World := (WT2 W A B).alloc (.cells #[.int .i64 A, .int .i64 B] 23)
def WT4 (W : World) (A B : Int) (j n5 : Nat) : World := ((WT3 W A B).setCell ⟨W.heap.size + 1, 0, none⟩ (.int .i64 (doV A B j))).setCell ⟨W.heap.size + 1, 1, none⟩ (.string (jobS.extract 0 n5))
section
variable {W : World} {A B : Int} {j n5 : Nat}
theorem WT2_size : (WT2 W A B).heap.size = W.heap.size + 2 := by simp only [WT2, size_al]
theorem WT3_size : (WT3 W A B).heap.size = W.heap.size + 3 := by simp only [WT3, WT2, size_al]
theorem WT3_b1 : (WT3 W A B).heap[W.heap.size]? = some (.cells #[.int .i64 A, .int .i64 B] 23) := by
  unfold WT3
  rw [alloc_old (by rw [WT2_size]; omega)]
  unfold WT2
  rw [alloc_old (by simp only [size_al]; omega), alloc_at_new]
theorem WT3_b2 : (WT3 W A B).heap[W.heap.size + 1]? = some (.cells #[.int .i64 0, .string { data := #[] }] 30) := by
  unfold WT3
  rw [alloc_old (by rw [WT2_size]; omega)]
  unfold WT2
  rw [new_at (by simp only [size_al])]
theorem WT2_b1 : (WT2 W A B).heap[W.heap.size]? = some (.cells #[.int .i64 A, .int .i64 B] 23) := by
  unfold WT2
  rw [alloc_old (by simp only [size_al]; omega), alloc_at_new]
theorem WT4_b2 : (WT4 W A B j n5).heap[W.heap.size + 1]? = some (.cells #[.int .i64 (doV A B j), .string (jobS.extract 0 n5)] 30) := set2_heap WT3_b2
theorem WT4_other {k : Nat} (h : k ≠ W.heap.size + 1) : (WT4 W A B j n5).heap[k]? = (WT3 W A B).heap[k]? := by
  unfold WT4
  rw [(aside_setCell _ _ _).block k h, (aside_setCell _ _ _).block k h]
theorem WT4_aft : Aft W (WT4 W A B j n5) 3 := by
  have A0 := aside_setCell (WT3 W A B) ⟨W.heap.size + 1, 0, none⟩ (.int .i64 (doV A B j))
  have A1 := aside_setCell ((WT3 W A B).setCell ⟨W.heap.size + 1, 0, none⟩ (.int .i64 (doV A B j))) ⟨W.heap.size + 1, 1, none⟩ (.string (jobS.extract 0 n5))
  refine ⟨?_, A1.tape.trans A0.tape, A1.output.trans A0.output, ?_, fun k hk => ?_⟩
  · show W.heap.size + 3 ≤ (WT4 W A B j n5).heap.size
    unfold WT4
    rw [A1.size, A0.size, WT3_size]
    exact Nat.le_refl _
  · show OsLater W.os (WT4 W A B j n5).os
    unfold WT4
    rw [A1.os, A0.os]
    exact .refl _
  · rw [WT4_other (by omega)]
    unfold WT3 WT2
    rw [alloc_old (by simp only [size_al]; omega), alloc_old (by simp only [size_al]; omega), alloc_old hk]
end
section
variable {E : Event → Prop} {Stop : Goroutine → World → Prop} {n : Nat} {b : Frame} {a : Act} {kk : List Item} {cs : List Frame} {W w : World} {ops : Array Oper} {i : Nat} {rest : List Nat} {o : Oper}
theorem goL_st30 {x y : Operand} {p : Nat} {X0 Y0 : Value} {X : Int} {Y : ByteArray} (hF : AtRel W w) (ho : ops[i]? = some o) (hw : Region.wanted o (yielded ops a.tmps) = true) (hk : b.kind ≠ .early) (hop : o.op = .store 30 x y) (hx : a.eval x = .pointer (some ⟨p, 0, none⟩)) (hy : a.eval y = .agg #[.int .i64 X, .string Y]) (hq : (Try.prog.funcs[b.fn]?).any (·.norace) = false)
    (h0 : W.heap[p]? = some (.cells #[X0, Y0] 30)) (e0 : E ⟨.cell ⟨p, 0, none⟩, true, false⟩) (e1 : E ⟨.cell ⟨p, 1, none⟩, true, false⟩)
    (hgo : ∀ w₁, AtRel ((W.setCell ⟨p, 0, none⟩ (.int .i64 X)).setCell ⟨p, 1, none⟩ (.string Y)) w₁ → Goes Try.prog true AtRel (DE E) Stop n (G (b.at (a.put o.dst undef) (.inRegion ops rest :: kk)) cs) w₁) : Goes Try.prog true AtRel (DE E) Stop (n + 1) (G (b.at a (.inRegion ops (i :: rest) :: kk)) cs) w := by
  refine Goes.step rfl fun w₁ r => ?_
  obtain ⟨d, rfl⟩ := ar_rely hF r
  have h0' : (W.at d).heap[p]? = some (.cells #[X0, Y0] 30) := h0
  rw [stepG_st30 (f := 0) ho hw hk hop hx hy (X0 := X0) (Y0 := Y0) (by simp [World.cell?, h0']) (by simp [World.cell?, h0']) (by simp [World.frozen?, h0']) (by simp [World.frozen?, h0']) hq]
  simp only [goes_go]
  exact ⟨fun e he => by simp at he; rcases he with rfl | rfl <;> assumption, hgo _ ⟨d, rfl⟩⟩
theorem goL_draw {id : Nat} (hF : AtRel W w)
    (hgo : ∀ t w₁, AtRel W w₁ → Goes Try.prog true AtRel (DE E) Stop n (G (b.at a (.inRegion ops (Region.linearise.go .any ops ops.size t (Array.replicate ops.size false) []) :: kk)) cs) w₁) :
    Goes Try.prog true AtRel (DE E) Stop (n + 1) (G (b.at a (.code (.region id ops true) :: kk)) cs) w := by
  refine Goes.step rfl fun w₁ r => ?_
  rw [stepG_region_draw]
  simp only [goes_go, Region.schedule, mixed_, Bool.true_or, if_true]
  exact ⟨fun e he => by simp at he, hgo _ _ (ar_rely (ar_rely hF r) (ownDrawR _))⟩
end
def QTwoL (E : Event → Prop) (W : World) (b₀ : Frame) (a₀ : Act) (ops₀ : Array Oper) (i₀ : Nat) (rest₀ : List Nat) (k₀ : List Item) (cs : List Frame) (Stop : Goroutine → World → Prop) (m : Nat) (A B : Int) (j n5 : Nat) (D : Array Bool) (l : List Nat) : Prop :=
  ∀ d0 d1 d2 d3 d4 d5 d6 d7 : Bool, D = #[d0, d1, d2, d3, d4, d5, d6, d7] →
    (d2 = true → ∀ w, AtRel (bif d7 then WT4 W A B j n5 else WT3 W A B) w → Goes Try.prog true AtRel (DE E) Stop (20 * l.length + (20 + m)) (G ((base 9).at ⟨#[.agg #[.int .i64 A, .int .i64 B], .int .i64 (j : Int), .pointer (some ⟨W.heap.size, 0, none⟩), undef, .pointer (some ⟨W.heap.size + 1, 0, none⟩), bif d0 then .agg #[.int .i64 A, .int .i64 B] else undef, bif d1 then .int .i64 (j : Int) else undef, bif d2 then .int .i64 (doV A B j) else undef, bif d3 then .int .i64 (j : Int) else undef, bif d4 then .int .i64 (n5 : Int) else undef, bif d5 then .string (jobS.extract 0 n5) else undef, bif d6 then .agg #[.int .i64 (doV A B j), .string (jobS.extract 0 n5)] else undef], []⟩ [.inRegion ops9 l, .code .ret]) (b₀.at a₀ (.inRegion ops₀ (i₀ :: rest₀) :: k₀) :: cs)) w) ∧
    (d2 = false → d7 = false → ∀ w, AtRel (WT2 W A B) w → Goes Try.prog true AtRel (DE E) Stop (20 * l.length + (140 + m)) (G ((base 9).at ⟨#[.agg #[.int .i64 A, .int .i64 B], .int .i64 (j : Int), .pointer (some ⟨W.heap.size, 0, none⟩), undef, .pointer (some ⟨W.heap.size + 1, 0, none⟩), bif d0 then .agg #[.int .i64 A, .int .i64 B] else undef, bif d1 then .int .i64 (j : Int) else undef, bif d2 then .int .i64 (doV A B j) else undef, bif d3 then .int .i64 (j : Int) else undef, bif d4 then .int .i64 (n5 : Int) else undef, bif d5 then .string (jobS.extract 0 n5) else undef, bif d6 then .agg #[.int .i64 (doV A B j), .string (jobS.extract 0 n5)] else undef], []⟩ [.inRegion ops9 l, .code .ret]) (b₀.at a₀ (.inRegion ops₀ (i₀ :: rest₀) :: k₀) :: cs)) w)
section
variable {E : Event → Prop} {W : World} {b₀ : Frame} {a₀ : Act} {ops₀ : Array Oper} {i₀ : Nat} {rest₀ : List Nat} {k₀ : List Item} {cs : List Frame} {Stop : Goroutine → World → Prop} {m : Nat} {A B : Int} {j n5 : Nat}
set_option maxRecDepth 100000 in
set_option maxHeartbeats 8000000 in
theorem twoL_step (hE : ∀ k i x, W.heap.size ≤ k → k < W.heap.size + 3 → E ⟨.cell ⟨k, i, none⟩, x, false⟩) (hn5 : n5 = j % 5) {Dd : Array Bool} {i : Nat} {l : List Nat} (hs : Dd.size = ops9.size) (hi : i ∈ Region.ready .any ops9 Dd)
    (IH : QTwoL E W b₀ a₀ ops₀ i₀ rest₀ k₀ cs Stop m A B j n5 (Dd.setIfInBounds i true) l) : QTwoL E W b₀ a₀ ops₀ i₀ rest₀ k₀ cs Stop m A B j n5 Dd (i :: l) := by
  intro d0 d1 d2 d3 d4 d5 d6 d7 hD
  subst hD
  unfold QTwoL at IH
  have hc := ready9 d0 d1 d2 d3 d4 d5 d6 d7 i hi
  clear hi hs
  generalize hX : ops9 = X at IH ⊢
  simp only [ops9, opsOf, body9, firstC, rightC, Try.f9, Option.getD_some] at hX
  subst hX
  have h4 : n5 ≤ 4 := by omega
  rcases hc with ⟨rfl, rfl⟩ | ⟨rfl, rfl⟩ | ⟨rfl, rfl, rfl, rfl⟩ | ⟨rfl, rfl⟩ | ⟨rfl, rfl, rfl⟩ | ⟨rfl, rfl, rfl⟩ | ⟨rfl, rfl, rfl, rfl⟩ | ⟨rfl, rfl, rfl, rfl⟩
  · obtain ⟨IHp, IHq⟩ := IH true _ _ _ _ _ _ _ rfl
    refine ⟨fun e2 w hF => ?_, fun e2 e7 w hF => ?_⟩
    · rw [show 20 * (0 :: l).length + (20 + m) = (19 + (20 * l.length + (20 + m))) + 1 by simp; omega]
      refine goL_ld23 (p := W.heap.size) (A := .int .i64 A) (B := .int .i64 B) hF rfl rfl (by k_ne) rfl rfl loud9 (by cases d7; exact WT3_b1; exact (WT4_other (by omega)).trans WT3_b1) (hE _ _ _ (Nat.le_refl _) (by omega)) (hE _ _ _ (Nat.le_refl _) (by omega)) fun w₁ hF => ?_
      exact (IHp e2 w₁ hF).mono (by omega)
    · rw [show 20 * (0 :: l).length + (140 + m) = (19 + (20 * l.length + (140 + m))) + 1 by simp; omega]
      refine goL_ld23 (p := W.heap.size) (A := .int .i64 A) (B := .int .i64 B) hF rfl rfl (by k_ne) rfl rfl loud9 WT2_b1 (hE _ _ _ (Nat.le_refl _) (by omega)) (hE _ _ _ (Nat.le_refl _) (by omega)) fun w₁ hF => ?_
      exact (IHq e2 e7 w₁ hF).mono (by omega)
  · obtain ⟨IHp, IHq⟩ := IH _ true _ _ _ _ _ _ rfl
    refine ⟨fun e2 w hF => ?_, fun e2 e7 w hF => ?_⟩
    · rw [show 20 * (1 :: l).length + (20 + m) = (19 + (20 * l.length + (20 + m))) + 1 by simp; omega]
      refine goL_val hF rfl rfl (by k_ne) (run_move rfl rfl) fun w₁ hF => ?_
      exact (IHp e2 w₁ hF).mono (by omega)
    · rw [show 20 * (1 :: l).length + (140 + m) = (19 + (20 * l.length + (140 + m))) + 1 by simp; omega]
      refine goL_val hF rfl rfl (by k_ne) (run_move rfl rfl) fun w₁ hF => ?_
      exact (IHq e2 e7 w₁ hF).mono (by omega)
  · obtain ⟨IHp, IHq⟩ := IH _ _ true _ _ _ _ _ rfl
    refine ⟨fun e2 => (by cases e2), fun e2 e7 w hF => ?_⟩
    subst e7
    refine Goes.mono (n := 0 + (10 + ((20 + ((20 + ((30 + (20 * l.length + (20 + m))) + 1)) + 1)) + 1)) + 1) ?_ (by simp; omega)
    refine Goes.step rfl fun w₁ r => ?_
    replace hF := ar_rely hF r
    refine goes_call (c := body11) rfl rfl (by k_ne) rfl Try.func11 nm11 fb11 ⟨fun e he => by simp at he, ?_⟩
    simp only [nt11]
    walk_nrm
    refine Goes.mono (doL (W := WT2 W A B) (A := A) (B := B) (m := 20 * l.length + (20 + m)) (j := j) hF (hE _ _ _ (by rw [WT2_size]; omega) (by rw [WT2_size]; omega)) (hE _ _ _ (by rw [WT2_size]; omega) (by rw [WT2_size]; omega)) fun w₂ hF => ?_) (by omega)
    exact IHp rfl w₂ hF
  · obtain ⟨IHp, IHq⟩ := IH _ _ _ true _ _ _ _ rfl
    refine ⟨fun e2 w hF => ?_, fun e2 e7 w hF => ?_⟩
    · rw [show 20 * (3 :: l).length + (20 + m) = (19 + (20 * l.length + (20 + m))) + 1 by simp; omega]
      refine goL_val hF rfl rfl (by k_ne) (run_move rfl rfl) fun w₁ hF => ?_
      exact (IHp e2 w₁ hF).mono (by omega)
    · rw [show 20 * (3 :: l).length + (140 + m) = (19 + (20 * l.length + (140 + m))) + 1 by simp; omega]
      refine goL_val hF rfl rfl (by k_ne) (run_move rfl rfl) fun w₁ hF => ?_
      exact (IHq e2 e7 w₁ hF).mono (by omega)
  · obtain ⟨IHp, IHq⟩ := IH _ _ _ _ true _ _ _ rfl
    refine ⟨fun e2 w hF => ?_, fun e2 e7 w hF => ?_⟩
    · rw [show 20 * (4 :: l).length + (20 + m) = (19 + (20 * l.length + (20 + m))) + 1 by simp; omega]
      refine goL_val hF rfl rfl (by k_ne) (run_rem5 rfl rfl hn5) fun w₁ hF => ?_
      exact (IHp e2 w₁ hF).mono (by omega)
    · rw [show 20 * (4 :: l).length + (140 + m) = (19 + (20 * l.length + (140 + m))) + 1 by simp; omega]
      refine goL_val hF rfl rfl (by k_ne) (run_rem5 rfl rfl hn5) fun w₁ hF => ?_
      exact (IHq e2 e7 w₁ hF).mono (by omega)
  · obtain ⟨IHp, IHq⟩ := IH _ _ _ _ _ true _ _ rfl
    refine ⟨fun e2 w hF => ?_, fun e2 e7 w hF => ?_⟩
    · rw [show 20 * (5 :: l).length + (20 + m) = (19 + (20 * l.length + (20 + m))) + 1 by simp; omega]
      refine goL_val hF rfl rfl (by k_ne) (run_str rfl h4 rfl) fun w₁ hF => ?_
      exact (IHp e2 w₁ hF).mono (by omega)
    · rw [show 20 * (5 :: l).length + (140 + m) = (19 + (20 * l.length + (140 + m))) + 1 by simp; omega]
      refine goL_val hF rfl rfl (by k_ne) (run_str rfl h4 rfl) fun w₁ hF => ?_
      exact (IHq e2 e7 w₁ hF).mono (by omega)
  · obtain ⟨IHp, IHq⟩ := IH _ _ _ _ _ _ true _ rfl
    refine ⟨fun e2 w hF => ?_, fun e2 e7 w hF => ?_⟩
    · rw [show 20 * (6 :: l).length + (20 + m) = (19 + (20 * l.length + (20 + m))) + 1 by simp; omega]
      refine goL_val hF rfl rfl (by k_ne) (run_build30 rfl rfl rfl) fun w₁ hF => ?_
      exact (IHp e2 w₁ hF).mono (by omega)
    · cases e2
  · obtain ⟨IHp, IHq⟩ := IH _ _ _ _ _ _ _ true rfl
    refine ⟨fun e2 w hF => ?_, fun e2 e7 w hF => (by cases e2)⟩
    rw [show 20 * (7 :: l).length + (20 + m) = (19 + (20 * l.length + (20 + m))) + 1 by simp; omega]
    refine goL_st30 (p := W.heap.size + 1) (X0 := .int .i64 0) (Y0 := .string { data := #[] }) hF rfl rfl (by k_ne) rfl rfl rfl loud9 WT3_b2 (hE _ _ _ (by omega) (by omega)) (hE _ _ _ (by omega) (by omega)) fun w₁ hF => ?_
    exact (IHp e2 w₁ hF).mono (by omega)
set_option maxRecDepth 100000 in
set_option maxHeartbeats 8000000 in
theorem twoL_end (hE : ∀ k i x, W.heap.size ≤ k → k < W.heap.size + 3 → E ⟨.cell ⟨k, i, none⟩, x, false⟩) (hgo : ∀ w₁, AtRel (WT4 W A B j n5) w₁ → Goes Try.prog true AtRel (DE E) Stop m (G (b₀.at (a₀.put ((ops₀[i₀]?).bind (·.dst)) (.agg #[.int .i64 (doV A B j), .string (jobS.extract 0 n5)])) (.inRegion ops₀ rest₀ :: k₀)) cs) w₁) {Dd : Array Bool} (hs : Dd.size = ops9.size) (hi : Region.ready .any ops9 Dd = []) :
    QTwoL E W b₀ a₀ ops₀ i₀ rest₀ k₀ cs Stop m A B j n5 Dd [] := by
  intro d0 d1 d2 d3 d4 d5 d6 d7 hD
  subst hD
  obtain ⟨rfl, rfl, rfl, rfl, rfl, rfl, rfl, rfl⟩ := done9 d0 d1 d2 d3 d4 d5 d6 d7 hi
  refine ⟨fun _ w hF => ?_, fun e => (by cases e)⟩
  replace hF : AtRel (WT4 W A B j n5) w := hF
  refine Goes.mono (n := 10 + (m + 1)) ?_ (by simp; omega)
  refine goL0 (n := 10) (m := m + 1) ?_
  simp only [cond_true]
  repeat w_go ar_rely
  refine Goes.stop (fun _ r₁ => ?_)
  replace hF := ar_rely hF r₁
  clear r₁
  refine Goes.step (n := m) rfl fun w₁ r => ?_
  obtain ⟨d, rfl⟩ := ar_rely hF r
  have hh : ((WT4 W A B j n5).at d).heap[W.heap.size + 1]? = some (.cells #[.int .i64 (doV A B j), .string (jobS.extract 0 n5)] 30) := WT4_b2
  have hr := results_cell (bk := W.heap.size + 1) (X := .int .i64 (doV A B j)) (Y := .string (jobS.extract 0 n5)) (tm := ⟨[.agg #[.int .i64 A, .int .i64 B], .int .i64 (j : Int), .pointer (some ⟨W.heap.size, 0, none⟩), undef, .pointer (some ⟨W.heap.size + 1, 0, none⟩), .agg #[.int .i64 A, .int .i64 B], .int .i64 (j : Int), .int .i64 (doV A B j), .int .i64 (j : Int), .int .i64 (n5 : Int), .string (jobS.extract 0 n5), .agg #[.int .i64 (doV A B j), .string (jobS.extract 0 n5)]]⟩) rfl res9 rfl ((WT4 W A B j n5).at d) (by simp [World.cell?, hh]) (by simp [World.cell?, hh])
  rw [stepG_leaveE rfl rfl Try.func9 hr.1 hr.2, seen_eq loud9 (by simp)]
  simp only [goes_go]
  refine ⟨fun e he => ?_, ?_⟩
  · simp at he
    rcases he with rfl | rfl <;> exact hE _ _ _ (by omega) (by omega)
  · rw [Frame.finish_at]
    exact hgo _ ⟨d, rfl⟩
set_option maxRecDepth 100000 in
set_option maxHeartbeats 8000000 in
/-- ████ Two, BY GOROUTINE 0. ████ -/
theorem twoL (hE : ∀ k i x, W.heap.size ≤ k → k < W.heap.size + 3 → E ⟨.cell ⟨k, i, none⟩, x, false⟩) (hn5 : n5 = j % 5) (hgo : ∀ w₁, AtRel (WT4 W A B j n5) w₁ → Goes Try.prog true AtRel (DE E) Stop m (G (b₀.at (a₀.put ((ops₀[i₀]?).bind (·.dst)) (.agg #[.int .i64 (doV A B j), .string (jobS.extract 0 n5)])) (.inRegion ops₀ rest₀ :: k₀)) cs) w₁) {w : World} (hF : AtRel W w) :
    Goes Try.prog true AtRel (DE E) Stop (10 + ((10 + ((10 + ((300 + m) + 1)) + 1)) + 1)) (G ((base 9).at ⟨#[.agg #[.int .i64 A, .int .i64 B], .int .i64 (j : Int), undef, undef, undef, undef, undef, undef, undef, undef, undef, undef], []⟩ [.code body9]) (b₀.at a₀ (.inRegion ops₀ (i₀ :: rest₀) :: k₀) :: cs)) w := by
  refine goL0 (n := 10) (m := (10 + ((10 + ((300 + m) + 1)) + 1)) + 1) ?_
  rw [body9_eq]
  generalize q0 : firstC body9 = X0
  simp only [body9, firstC, Try.f9, Option.getD_some] at q0
  subst q0
  repeat w_go ar_rely
  refine Goes.stop (fun _ r₁ => ?_)
  replace hF := ar_rely hF r₁
  clear r₁
  refine goL_new (n := 10 + ((10 + ((300 + m) + 1)) + 1)) (v := fun s => .pointer (some ⟨s, 0, none⟩)) hF rfl rfl (by k_ne) (run_box23 rfl rfl) fun _ hF => ?_
  refine goL0 (n := 10) (m := (10 + ((300 + m) + 1)) + 1) ?_
  walk_nrm
  repeat w_go ar_rely
  refine Goes.stop (fun _ r₁ => ?_)
  replace hF := ar_rely hF r₁
  clear r₁
  refine goL_new (n := 10 + ((300 + m) + 1)) (v := fun s => .pointer (some ⟨s, 0, none⟩)) hF rfl rfl (by k_ne) (run_alloc30 rfl) fun _ hF => ?_
  simp only [size_al]
  refine goL0 (n := 10) (m := (300 + m) + 1) ?_
  walk_nrm
  repeat w_go ar_rely
  refine Goes.stop (fun _ r₁ => ?_)
  replace hF := ar_rely hF r₁
  clear r₁
  refine goL_draw (n := 300 + m) (W := WT2 W A B) hF fun t w₁ hF => ?_
  have key := lin_ind (md := .any) (ops := ops9) (Q := QTwoL E W b₀ a₀ ops₀ i₀ rest₀ k₀ cs Stop m A B j n5) (fun Dd hs hi => twoL_end hE hgo hs hi) (fun Dd i l hs hi IH => twoL_step hE hn5 hs hi IH) ops9.size t (Array.replicate ops9.size false) (by simp) (by simp [left, List.countP_replicate])
  have hl := key.2
  have e9 := size9
  have h := ((key.1 false false false false false false false false (by rw [size9]; rfl)).2 rfl rfl w₁ hF)
  exact h.mono (by omega)
end
end Go.Proofs.Ytapjmifhhbpikaa

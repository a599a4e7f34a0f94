/- Gangs within gangs: the gang, in a row: the laws' own code beside leavers: awake. -/
import Derived.Test.YtapjmifhhbpikaaYf
import Derived.Laws.Tables
set_option linter.unusedVariables false
set_option linter.unusedSimpArgs false
namespace Go.Proofs.Ytapjmifhhbpikaa
open Go.Conc Go.ConcN Go.ConcM Go.RowKit Go.Conc.Lib Go.ConcR.Gen
open Go.ConcR (KK wgBlock WgAt stA smA rd wr mk)
theorem nm7 : (Try.f7.name == "runtime.NumGoroutine") = false := by kernel_rfl
noncomputable def body7 : Code := Try.f7.body.getD .skip
theorem fb7 : Try.f7.body = some body7 := by simp only [body7, Try.f7, Option.getD_some]
theorem nt7 : Try.f7.ntmps = 16 := by kernel_rfl
theorem fb10 : Try.f10.body = some body10 := by simp only [body10, Try.f10, Option.getD_some]
theorem nt10 : Try.f10.ntmps = 20 := by kernel_rfl
theorem loud7 : (Try.prog.funcs[(base 7).fn]?).any (·.norace) = false := by kernel_rfl
theorem info23 : (Try.prog.info? 23).map (fun i => (i.zero, i.size)) = some (some (.agg #[.int .i64 0, .int .i64 0]), 2) := by kernel_rfl
theorem und23 : (Try.prog.underlying 23).map (fun u => match u with | .struct fs => fs.map (fun f => (f.offset, f.type)) | _ => #[]) = some #[(0, 3), (1, 3)] := by kernel_rfl
section
variable {E : Event → Prop} {Stop : Goroutine → World → Prop} {n : Nat} {b : Frame} {a : Act} {kk : List Item} {cs : List Frame} {W w : World} {ops : Array Oper} {i : Nat} {rest : List Nat} {o : Oper}
/-- AN OPERATION THAT YIELDS A VALUE and touches nothing. -/
theorem goL_val {v : Value} (hF : AtRel W w) (ho : ops[i]? = some o) (hw : Region.wanted o (yielded ops a.tmps) = true) (hk : b.kind ≠ .early)
    (hr : ∀ w : World, (execOp a.eval o).run Try.prog w = .ok (.value v) w ∧ (execOp a.eval o).events Try.prog w #[] = #[])
    (hgo : ∀ w₁, AtRel W w₁ → Goes Try.prog true AtRel (DE E) Stop n (G (b.at (a.put o.dst v) (.inRegion ops rest :: kk)) cs) w₁) : Goes Try.prog true AtRel (DE E) Stop (n + 1) (G (b.at a (.inRegion ops (i :: rest) :: kk)) cs) w := by
  refine Goes.step rfl fun w₁ r => ?_
  have h1 := ar_rely hF r
  rw [stepG_value ho hw hk (hr _).1]
  unfold listed
  rw [(hr _).2, seen_none]
  simp only [goes_go]
  exact ⟨fun e he => by simp at he, hgo _ h1⟩
theorem run_build1 (hop : o.op = .build 23 #[(1, .const (.int .i64 1))]) (w : World) : (execOp a.eval o).run Try.prog w = .ok (.value (.agg #[.int .i64 0, .int .i64 1])) w ∧ (execOp a.eval o).events Try.prog w #[] = #[] := by
  constructor
  · unfold execOp
    simp only [hop]
    simp [go_sem, Act.eval]
    rw [run_build (P := Try.prog) w 23 #[(1, Value.int IntKind.i64 1)] #[.int .i64 0, .int .i64 1] (by kernel_rfl)]
    rfl
  · unfold execOp
    simp only [hop]
    simp [go_sem, Act.eval]
    obtain ⟨i, hi, hzz⟩ := Option.map_eq_some_iff.1 info23
    obtain ⟨j, hj, hyy⟩ := Option.map_eq_some_iff.1 info3
    simp only [Prod.mk.injEq] at hzz hyy
    simp [Instr.build, zeroValue, typeInfo, underlying, sizeOf, go_sem, hi, hj, hzz.1, hyy.2.1]
theorem run_sl3 (hop : o.op = .buildSlice 33 3 #[(0, .const (.int .i64 0)), (1, .const (.int .i64 1)), (2, .const (.int .i64 4))]) (w : World) : (execOp a.eval o).run Try.prog w = .ok (.value (.slice (some ⟨w.heap.size, 0, none⟩) 3 3)) (w.alloc (.cells #[.int .i64 0, .int .i64 1, .int .i64 4] 3)) ∧ (execOp a.eval o).events Try.prog w #[] = #[] := by
  constructor
  · unfold execOp
    simp only [hop]
    simp [go_sem, Act.eval]
  · unfold execOp
    simp only [hop]
    simp [go_sem, Act.eval]
end
/-- What is shunned anew lies in new blocks. -/
def NewS (Shun S' : Loc → Prop) (s : Nat) : Prop := ∀ k, ShB S' k → ShB Shun k ∨ s ≤ k
theorem LowS.mono {Shun : Loc → Prop} {s s' : Nat} (h : LowS Shun s) (hs : s ≤ s') : LowS Shun s' := fun l hl => by obtain ⟨b, e, hb⟩ := h l hl; exact ⟨b, e, by omega⟩
theorem NewS.refl {Shun : Loc → Prop} {s : Nat} : NewS Shun Shun s := fun l hl => .inl hl
theorem NewS.trans {S1 S2 S3 : Loc → Prop} {s s' : Nat} (h : NewS S1 S2 s) (k : NewS S2 S3 s') (hs : s ≤ s') : NewS S1 S3 s := fun l hl => by
  rcases k l hl with h1 | hb
  · exact h l h1
  · exact .inr (by omega)
theorem NewS.notB {Shun S' : Loc → Prop} {s k : Nat} (h : NewS Shun S' s) (hn : ¬ ShB Shun k) (hk : k < s) : ¬ ShB S' k := fun hl => by
  rcases h _ hl with h1 | hb
  · exact hn h1
  · omega
theorem LowS.not {Shun : Loc → Prop} {s k i : Nat} (h : LowS Shun s) (hk : s ≤ k) : ¬ Shun (.cell ⟨k, i, none⟩) := fun hl => h.notB hk (ShB.of hl)
theorem Olds.refl (Shun : Loc → Prop) (w : World) : Olds Shun w w := fun _ _ _ => rfl
theorem Olds.at {Shun : Loc → Prop} {w w' w'' : World} (h : Olds Shun w w') (r : AtRel w' w'') : Olds Shun w w'' := by obtain ⟨d, rfl⟩ := r; exact h
theorem Olds.trans {Shun S' : Loc → Prop} {w w' w'' : World} (h : Olds Shun w w') (k : Olds S' w' w'') (hn : NewS Shun S' w.heap.size) (hs : w.heap.size ≤ w'.heap.size) : Olds Shun w w'' := fun x hx hnx =>
  (k x (by omega) (hn.notB hnx hx)).trans (h x hx hnx)
theorem Olds.alloc (Shun : Loc → Prop) (w : World) (ob : Obj) : Olds Shun w (w.alloc ob) := fun k hk _ => alloc_old hk
theorem Aft.refl (w : World) : Aft w w 0 := ⟨Nat.le_refl _, rfl, rfl, .refl _⟩
theorem Aft.at {w w' w'' : World} {n : Nat} (h : Aft w w' n) (r : AtRel w' w'') : Aft w w'' n := by obtain ⟨d, rfl⟩ := r; exact ⟨h.size, h.tape, h.output, h.os⟩
theorem Aft.trans {w w' w'' : World} {n m : Nat} (h : Aft w w' n) (k : Aft w' w'' m) : Aft w w'' (n + m) :=
  ⟨by have := h.size; have := k.size; omega, k.tape.trans h.tape, k.output.trans h.output, h.os.trans k.os⟩
theorem Aft.mono {w w' : World} {n m : Nat} (h : Aft w w' n) (hm : m ≤ n) : Aft w w' m := ⟨by have := h.size; omega, h.tape, h.output, h.os⟩
theorem Aft.alloc (w : World) (ob : Obj) : Aft w (w.alloc ob) 1 := ⟨by rw [size_al]; omega, rfl, rfl, .refl _⟩
theorem rowF_cell {w : World} {k J i : Nat} {f : Nat → Int} (h : w.heap[k]? = some (.cells (rowF f J fun _ => true) 3)) (hi : i < J) : w.cell? ⟨k, i, none⟩ = some (.int .i64 (f i)) := by
  simp [World.cell?, h, rowF, hi]
section
variable {b₀ : Frame} {a₀ : Act} {ops₀ : Array Oper} {i₀ : Nat} {rest₀ : List Nat} {k₀ : List Item} {cs : List Frame}
set_option maxRecDepth 100000 in
set_option maxHeartbeats 16000000 in
/-- ████ awake. ████ -/
theorem awakeReach {Shun : Loc → Prop} {w : World} (hS : LowS Shun w.heap.size) {Post : (Loc → Prop) → Goroutine → World → Prop}
    (hk : ∀ S' w', Aft w w' 9 → LowS S' w'.heap.size → NewS Shun S' w.heap.size → Olds Shun w w' → Reach Try.prog S' (G (b₀.at (a₀.put ((ops₀[i₀]?).bind (·.dst)) (.bool true)) (.inRegion ops₀ rest₀ :: k₀)) cs) w' Post) :
    Reach Try.prog Shun (G ((base 7).at ⟨#[undef, undef, undef, undef, undef, undef, undef, undef, undef, undef, undef, undef, undef, undef, undef, undef], []⟩ [.code body7]) (b₀.at a₀ (.inRegion ops₀ (i₀ :: rest₀) :: k₀) :: cs)) w Post := by
  refine Reach.walk (B := w.heap.size) (n := 60) (Nat.le_refl _) (Stop := fun g w' => w.heap.size ≤ w'.heap.size ∧ Reach Try.prog Shun g w' Post) ?_ (fun _ _ h => h)
  have hF := atRel_refl w
  refine goL0 (n := 30) (m := 30) ?_
  simp only [body7, Try.f7, Option.getD_some]
  repeat w_go ar_rely
  refine Goes.stop (fun _ r₁ => ?_)
  replace hF := ar_rely hF r₁
  clear r₁
  refine goL_val (n := 29) hF rfl rfl (by k_ne) (run_build1 rfl) fun _ hF => ?_
  refine goL0 (n := 29) (m := 0) ?_
  walk_nrm
  repeat w_go ar_rely
  u_in ar_rely hF
  refine goes_call (c := body10) rfl rfl (by k_ne) rfl Try.func10 nm10 fb10 ⟨by u_nil, ?_⟩
  simp only [nt10]
  walk_nrm
  refine Goes.stop (fun _ r₁ => ?_)
  replace hF := ar_rely hF r₁
  clear r₁
  refine Goes.stop (fun w₁ r₁ => ?_)
  replace hF := ar_rely hF r₁
  clear r₁
  have hs1 : w₁.heap.size = w.heap.size := at_size hF
  refine ⟨by omega, ?_⟩
  refine eachReach (f := doV 0 1) (J := 3) (N := 2) (nb := 1) (deep := false) (by omega) (by omega) (by omega) (by omega) (hS.mono (by omega)) (job21 Nat.one_pos (bandEnv (hS.mono (by omega)))) ?_
  intro S' w' hA hL hN hO hrow
  have hO0 : Olds Shun w w' := ((Olds.refl Shun w).at hF).trans hO NewS.refl (by omega)
  have hA0 : Aft w w' 8 := ((Aft.refl w).at hF).trans hA
  clear hF
  rw [hs1] at hN hrow
  have hsz := hA0.size
  refine Reach.walk (B := w'.heap.size + 1) (n := 20 + ((20 + (20 + 100 + 60 * 3)) + 1)) (by omega) (Stop := fun g w'' => w'.heap.size + 1 ≤ w''.heap.size ∧ Reach Try.prog S' g w'' Post) ?_ (fun _ _ h => h)
  have hF := atRel_refl w'
  refine goL0 (n := 20) (m := (20 + (20 + 100 + 60 * 3)) + 1) ?_
  walk_nrm
  repeat w_go ar_rely
  refine Goes.stop (fun _ r₁ => ?_)
  replace hF := ar_rely hF r₁
  clear r₁
  refine goL_new (n := 20 + (20 + 100 + 60 * 3)) (v := fun s => .slice (some ⟨s, 0, none⟩) 3 3) hF rfl rfl (by k_ne) (run_sl3 rfl) fun _ hF => ?_
  refine goL0 (n := 20) (m := 20 + 100 + 60 * 3) ?_
  walk_nrm
  repeat w_go ar_rely
  u_in ar_rely hF
  refine goes_call (c := body14) rfl rfl (by k_ne) rfl Try.func14 nm14 fb14 ⟨by u_nil, ?_⟩
  simp only [nt14]
  walk_nrm
  refine Goes.stop (fun _ r₁ => ?_)
  replace hF := ar_rely hF r₁
  clear r₁
  have hxs : w.heap.size + 1 < w'.heap.size := by omega
  refine sameGo (f := doV 0 1) (n := 3) (x := w.heap.size + 1) (y := w'.heap.size) (m := 20) (fun i hi => ?_) (fun i hi => ?_) (fun i hi => ?_) (fun i hi => ?_) (by omega) (fun w₂ hF => ?_) hF
  · exact (cell_same (alloc_old hxs)).trans (rowF_cell hrow hi)
  · simp only [World.cell?, alloc_at_new]
    rcases i with _ | _ | _ | i
    · simp; try decide
    · simp; try decide
    · simp; try decide
    · omega
  · refine evP_cell (fun h => ?_) (fun h => h) (by simp; omega)
    rcases hN _ (ShB.of h) with h1 | h1 | h1 | h1
    · exact hS.notB (by omega) h1
    · omega
    · omega
    · omega
  · exact evP_cell (hL.not (Nat.le_refl _)) (fun h => h) (by simp)
  · refine goL0 (n := 20) (m := 0) ?_
    walk_nrm
    repeat w_go ar_rely
    u_leave1 Try.func7 ar_rely hF
    refine Goes.stop (fun _ r₁ => ?_)
    replace hF := ar_rely hF r₁
    clear r₁
    refine Goes.stop (fun w₃ r₁ => ?_)
    replace hF := ar_rely hF r₁
    clear r₁
    have hs3 : w₃.heap.size = w'.heap.size + 1 := (at_size hF).trans (size_al _ _)
    refine ⟨by omega, ?_⟩
    refine hk S' w₃ (hA0.trans ((Aft.alloc _ _).at hF)) (hL.mono (by omega)) (fun k hk' => ?_) (fun k hk' hn => ?_)
    · rcases hN _ hk' with h1 | h1 | h1 | h1
      · exact .inl h1
      · exact .inr (by omega)
      · exact .inr (by omega)
      · exact .inr (by omega)
    · have h1 := hO0 k hk' hn
      have h2 : w₃.heap[k]? = w'.heap[k]? := by obtain ⟨d, rfl⟩ := hF; exact alloc_old (by omega)
      exact h2.trans h1
end
end Go.Proofs.Ytapjmifhhbpikaa

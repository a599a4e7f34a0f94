/- The crew in memory; the walk of tell. -/
import Derived.Test.YtladmconpolneaaGreatCrMem
import Derived.Test.YtladmconpolneaaGreatCrModel
set_option linter.unusedVariables false
set_option linter.unusedSimpArgs false
namespace Go.Proofs.YtladmconpolneaaGreat.Cr
open Go.RowKit
section
variable {P : Program} {ops : Array Oper} {rest : List Oper} {o : Oper} {a : Act} {Q : Exit → Act → World → Prop}
/-- 'append(v, x)', x of some cells: its box has just been laid. -/
theorem append_cells {W : World} (base : Nat) (hgd : o.guard = none) (s x : Operand) (t e : TypeId) (z : Value) (size bytes : Nat)
    (ho : o.op = .call { callee := .builtin .append, args := #[s, x], argTypes := #[t, t] })
    (ht : P.underlying t = some (.slice e)) (hinfo : (P.info? e).map (fun i => (i.zero, i.size, i.bytes)) = some (some z, size, bytes)) (hz : z.cells.size = size) (hsz : 0 < size) (hb0 : 0 < bytes)
    (v : Value) (k : Nat) (xs : List Value) (ys : List Value) (hs : a.eval s = v) (hx : a.eval x = .slice (some ⟨W.heap.size, 0, none⟩) 1 1) (hys : ys.length = size) (h1 : ∀ u ∈ ys, u.oneCell' = true)
    (HO : W.ownsRow base e size v k xs) (hbase : base ≤ W.heap.size) (hl : (k + 1) * bytes ≤ 140737488355328)
    (h : ∀ A1 c1 w1, w1.ownsRow base e size (.slice A1 (k + 1) c1) (k + 1) (xs ++ ys) → W.grownBy w1 v.ownBlock →
      ((Value.slice A1 (k + 1) c1).ownBlock = v.ownBlock ∨ ∃ b, (Value.slice A1 (k + 1) c1).ownBlock = some b ∧ W.heap.size ≤ b) → W.heap.size < w1.heap.size → wpList P ops Q rest (a.put o.dst (.slice A1 (k + 1) c1)) w1) :
    wpList P ops Q (o :: rest) a (W.alloc (.cells ys.toArray e)) := by
  obtain ⟨i0, hi, hz0, hz1, hz2⟩ := info_parts hinfo
  have hlen : k + 1 ≤ 140737488355328 := Nat.le_trans (Nat.le_mul_of_pos_right _ hb0) hl
  refine wpList_append_own_at (W.alloc (.cells ys.toArray e)) hgd s x t ho base e i0 z size bytes ht hi hz0 hz1 hz2 hz hsz v k xs hs (HO.alloc _) ⟨W.heap.size, 0, none⟩ 1 1 ys hx (by omega)
    (fun j u hj => World.news_of_block (cs := ys.toArray) (t := e) (fr := (0, 0)) (heap_alloc_new W _) j u (by simpa using hj)) h1 (by simp only [maxLen]; omega) hl (by simp; omega) ?_
  intro v1 w1 hown hg _ hat
  have hsz := hg.size
  obtain ⟨A1, c1, rfl⟩ := own_slice hown
  refine h A1 c1 w1 hown (World.grownBy.trans (World.grownBy_alloc W _ _) hg) ?_ (by simp at hsz; omega)
  rcases hat with hat | hat
  · exact .inl hat
  · exact .inr ⟨_, hat, by simp⟩
end
theorem Tryz.info244 : (Tryz.prog.info? 244).map (fun i => (i.zero, i.size, i.bytes)) = some (some (.agg #[.int .i64 0, .int .i64 0, .int .i64 0]), 3, 24) := by kernel_rfl
def evV (l : List Ev) : List Value := l.flatMap fun x => [.int .i64 (x.actor : Int), .int .i64 (x.what : Int), .int .i64 x.job]
def jobsV (l : List Nat) : List Value := l.map fun j : Nat => .int .i64 (j : Int)
def wcells (l : List (Nat × Int)) : List Value := l.flatMap fun x => [.int .i64 (x.1 : Int), .int .i64 x.2]
theorem evV_append (l m : List Ev) : evV (l ++ m) = evV l ++ evV m := by simp [evV]
def crewV (s : St) (vch vev : Value) (Wb : Nat) : Array Value :=
  #[.int .i64 (s.jobs : Int), .int .i64 (s.sent : Int), vch, .bool s.closed, .slice (some ⟨Wb, 0, none⟩) s.ws.length s.ws.length, .int .i64 s.locked, vev]
/-- The crew in memory: C the struct's block, Wb the workers' row. -/
structure CrewAt (w : World) (B C Wb : Nat) (s : St) (vch vev : Value) : Prop where
  hBC : B ≤ C
  hBW : B ≤ Wb
  hc : w.heap[C]? = some (.cells (crewV s vch vev Wb) 303 (0, 0))
  hw : w.heap[Wb]? = some (.cells (wcells s.ws).toArray 305 (0, 0))
  hq : QOwn w B 3 vch s.ch.length (jobsV s.ch)
  he : w.ownsRow B 244 3 vev s.ev.length (evV s.ev)
/-- What isn't of these types is as it was. -/
def Keeps (w w' : World) (ts : List TypeId) : Prop := ∀ (k : Nat) (cs : Array Value) (t : TypeId), w.heap[k]? = some (Obj.cells cs t (0, 0)) → t ∉ ts → w'.heap[k]? = w.heap[k]?
theorem Keeps.refl (w : World) (ts : List TypeId) : Keeps w w ts := fun _ _ _ _ _ => rfl
theorem Keeps.trans {a b c : World} {ts : List TypeId} (h : Keeps a b ts) (k : Keeps b c ts) : Keeps a c ts := fun i cs t hi ht => by
  have := h i cs t hi ht
  exact (k i cs t (by rw [this]; exact hi) ht).trans this
theorem Keeps.mono {a b : World} {ts us : List TypeId} (h : Keeps a b ts) (hs : ∀ t ∈ ts, t ∈ us) : Keeps a b us := fun i cs t hi ht => h i cs t hi (fun h => ht (hs t h))
theorem Keeps.alloc {w w' : World} {ts : List TypeId} (h : Keeps w w' ts) (o : Obj) : Keeps w (w'.alloc o) ts := fun i cs t hi ht => by
  have := h i cs t hi ht
  rw [heap_alloc_old w' o (lt_of_block (this.trans hi))]
  exact this
theorem Keeps.drew {w w' : World} {ts : List TypeId} (h : Keeps w w' ts) : Keeps w w'.drew ts := h
theorem Keeps.setCell {w w' : World} {ts : List TypeId} (h : Keeps w w' ts) {b i : Nat} {cs : Array Value} {t : TypeId} {fr : Nat × Nat} (hb : w'.heap[b]? = some (.cells cs t fr)) (ht : t ∈ ts) (v : Value) : Keeps w (w'.setCell ⟨b, i, none⟩ v) ts := fun k cs' t' hi ht' => by
  have := h k cs' t' hi ht'
  rw [heap_setCell_other w' _ k v (by
    rintro rfl
    rw [this, hi] at hb
    injection hb with hb
    injection hb with _ e2
    exact ht' (e2 ▸ ht))]
  exact this
theorem Keeps.below {w w' : World} (h : Below w.heap.size w w') (ts : List TypeId) : Keeps w w' ts := fun k cs t hk _ => h.block k (lt_of_block hk)
theorem CrewAt.below {w w' : World} {B C Wb : Nat} {s : St} {vch vev : Value} (h : CrewAt w B C Wb s vch vev) (hb : Below w.heap.size w w') : CrewAt w' B C Wb s vch vev :=
  ⟨h.hBC, h.hBW, by rw [hb.block C (lt_of_block h.hc)]; exact h.hc, by rw [hb.block Wb (lt_of_block h.hw)]; exact h.hw,
    h.hq.kept fun g hg => hb.block g (h.hq.lt hg).2, own_below h.he hb⟩
theorem own_far {w : World} {base : Nat} {e : TypeId} {size n : Nat} {v : Value} {xs : List Value} {b : Nat} {t : TypeId} {cs : Array Value} (h : w.ownsRow base e size v n xs) (hb : w.heap[b]? = some (.cells cs t (0, 0))) (ht : e ≠ t) :
    some b ≠ v.ownBlock := by
  rcases h.2 with ⟨rfl, _⟩ | ⟨g, cap, cur, rfl, _, hg, _⟩
  · simp [Value.ownBlock]
  · intro he
    injection he with he
    change b = g at he
    subst he
    rw [hg] at hb
    injection hb with hb
    injection hb with _ h2
    exact ht h2
theorem q_far {w : World} {base : Nat} {e : TypeId} {n : Nat} {v : Value} {xs : List Value} {b : Nat} {t : TypeId} {cs : Array Value} (h : QOwn w base e v n xs) (hb : w.heap[b]? = some (.cells cs t (0, 0))) (ht : e ≠ t) :
    some b ≠ v.ownBlock := by
  intro he
  obtain ⟨cur, hg⟩ := h.type he.symm
  rw [hg] at hb
  injection hb with hb
  injection hb with _ h2
  exact ht h2
theorem crew_cell {w : World} {B C Wb : Nat} {s : St} {vch vev : Value} (h : CrewAt w B C Wb s vch vev) (i : Nat) : w.cell? ⟨C, i, none⟩ = (crewV s vch vev Wb)[i]? := cell_of_row _ _ _ _ _ _ h.hc
set_option maxHeartbeats 400000 in
theorem tell_any (B C Wb : Nat) (s : St) (vch vev : Value) (a wh : Nat) (j : Int) (w : World) (h : CrewAt w B C Wb s vch vev) (hB : B ≤ w.heap.size) (hl : s.ev.length ≤ 100000) :
    Calls Tryz.prog 210 #[.pointer (some ⟨C, 0, none⟩), .int .i64 (a : Int), .int .i64 (wh : Int), .int .i64 j] w fun e w' =>
      e = .returned (.tuple #[]) ∧ ∃ vev', CrewAt w' B C Wb (s.tell a wh j) vch vev' ∧ Below B w w' ∧ Keeps w w' [244, 303] := by
  have c6 : w.cell? ⟨C, 6, none⟩ = some vev := crew_cell h 6
  have H := Lib.hid h
  clear h
  go_enter Tryz.func210, Tryz.ntmps210
  go_wp2_with (at_builtin; refine append_cells B rfl _ _ 237 244 (.agg #[.int .i64 0, .int .i64 0, .int .i64 0]) 3 24 rfl Tryz.underlying237 Tryz.info244 rfl (by decide) (by decide) vev s.ev.length (evV s.ev) [.int .i64 (a : Int), .int .i64 (wh : Int), .int .i64 j] rfl rfl rfl (by simp [Value.oneCell']) H.out.he hB (by omega) ?_)
  intro A1 c1 w1 hown hg hat hsz
  have hne := own_far H.out.he H.out.hc (by decide)
  have hnw := own_far H.out.he H.out.hw (by decide)
  have hc1 : w1.heap[C]? = some (.cells (crewV s vch vev Wb) 303 (0, 0)) := by rw [hg.block C (lt_of_block H.out.hc) hne]; exact H.out.hc
  have c61 : w1.cell? ⟨C, 6, none⟩ = some vev := by rw [cell_of_row _ _ _ _ _ _ hc1]; rfl
  have f61 : w1.frozen? ⟨C, 6, none⟩ = false := frozen_of_row _ _ _ _ _ hc1
  have R : Hid (∃ vev', CrewAt (w1.setCell ⟨C, 6, none⟩ (.slice A1 (s.ev.length + 1) c1)) B C Wb (s.tell a wh j) vch vev' ∧ Below B w (w1.setCell ⟨C, 6, none⟩ (.slice A1 (s.ev.length + 1) c1)) ∧ Keeps w (w1.setCell ⟨C, 6, none⟩ (.slice A1 (s.ev.length + 1) c1)) [244, 303]) := by
    have hCW : Wb ≠ C := fun e => by
      have h1 := H.out.hw
      rw [e, H.out.hc] at h1
      injection h1 with h1
      injection h1 with _ h2
      exact absurd h2 (by decide)
    have hw1 : w1.heap[Wb]? = some (.cells (wcells s.ws).toArray 305 (0, 0)) := by rw [hg.block Wb (lt_of_block H.out.hw) hnw]; exact H.out.hw
    have ho := ownsRow_setCell_other hown (a := ⟨C, 6, none⟩) (fun e => own_far hown hc1 (by decide) e.symm) (.slice A1 (s.ev.length + 1) c1)
    refine ⟨.slice A1 (s.ev.length + 1) c1, ⟨H.out.hBC, H.out.hBW, heap_setCell_same _ _ _ _ _ _ hc1, ?_, ?_, ?_⟩, ?_, ?_⟩
    · rw [heap_setCell_other _ _ _ _ hCW]; exact hw1
    · refine H.out.hq.kept fun g hgo => ?_
      obtain ⟨cur, hcur⟩ := H.out.hq.type hgo
      have h1 := q_far H.out.hq H.out.hc (by decide)
      rw [heap_setCell_other _ _ _ _ (by rintro rfl; exact h1 hgo.symm), hg.block g (lt_of_block hcur) (own_far H.out.he hcur (by decide))]
    · have e1 : (s.tell a wh j).ev.length = s.ev.length + 1 := by simp [St.tell]
      have e2 : evV (s.tell a wh j).ev = evV s.ev ++ [.int .i64 (a : Int), .int .i64 (wh : Int), .int .i64 j] := by simp [St.tell, evV]
      rw [e1, e2]; exact ho
    · exact ((Below.refl B w).grown hg hB (own_base H.out.he)).setCell H.out.hBC _
    · refine Keeps.setCell ?_ hc1 (by decide) _
      intro k cs t hk ht
      exact hg.block k (lt_of_block hk) (own_far H.out.he hk (by rintro rfl; exact ht (by decide)))
  clear hne hnw hc1 hg hat hsz hown
  go_wp2
  go_end0
  exact ⟨rfl, R.out⟩
end Go.Proofs.YtladmconpolneaaGreat.Cr

/- Gangs within gangs: The gang: what a worker reads; a job's own walk: Do. -/
import Derived.Test.YtapjmifhhbpikaaXw0
set_option linter.unusedVariables false
set_option linter.unusedSimpArgs false
namespace Go.Proofs.Ytapjmifhhbpikaa
open Go.Conc Go.ConcN Go.ConcM Go.RowKit Go.Conc.Lib Go.ConcR.Gen
open Go.ConcR (KK wgBlock WgAt stA smA rd wr mk)
theorem cell_same {w W : World} {ad : Addr} (h : w.heap[ad.block]? = W.heap[ad.block]?) : w.cell? ad = W.cell? ad := by
  unfold World.cell?
  rw [h]
theorem frozen_same {w W : World} {ad : Addr} (h : w.heap[ad.block]? = W.heap[ad.block]?) : w.frozen? ad = W.frozen? ad := by
  unfold World.frozen?
  rw [h]
theorem Kn.cell {K : Band} {W w : World} (h : Kn K W w) {ad : Addr} {v : Value} (hs : Still K ad.block) (hc : W.cell? ad = some v) : w.cell? ad = some v := by
  rw [cell_same (h.still _ hs)]; exact hc
section
variable {K : Band} {T : Th} {Nx : Goroutine → World → Prop} {n : Nat} {b : Frame} {a : Act} {kk : List Item} {cs : List Frame} {w : World} {ops : Array Oper} {i : Nat} {rest : List Nat} {o : Oper}
theorem ev_plain {boss own : Bool} {mine : List Nat} {sz : Nat} {ad : Addr} {x : Bool} (hlt : ad.block < sz) (h : (Still K ad.block ∧ ¬ K.Shun (.cell ad) ∧ x = false) ∨ ad.block ∈ mine ∨ (ad.block = K.C ∧ own = true)) : EvT K boss mine own sz ⟨.cell ad, x, false⟩ := by
  refine ⟨by simp, by simp, by simp, ?_, fun y hy => ?_⟩
  · rw [Go.ConcR.ofEvent_cell]; exact hlt
  · rw [Go.ConcR.ofEvent_cell] at hy
    simp only [MemAct.touch?, Option.some.injEq] at hy
    subst hy
    refine ⟨rfl, ?_⟩
    rcases h with ⟨h1, h2, h3⟩ | h | ⟨h1, h2⟩
    · exact .inr (.inr (.inl ⟨ad, rfl, h1, h2, h3⟩))
    · exact .inr (.inl ⟨ad, rfl, h⟩)
    · exact .inr (.inr (.inr ⟨ad, rfl, h1, h2⟩))
theorem db_read {boss own : Bool} {mine : List Nat} {ad : Addr} (hlt : ad.block < w.heap.size) (h : (Still K ad.block ∧ ¬ K.Shun (.cell ad)) ∨ ad.block ∈ mine ∨ (ad.block = K.C ∧ own = true)) : DB K boss mine own false w w #[⟨.cell ad, false, false⟩] :=
  ⟨rfl, rfl, rfl, rfl, fun _ _ _ => rfl, fun _ h => h, fun e he => by
    simp at he; subst he
    exact ev_plain hlt (h.imp (fun h => ⟨h.1, h.2, rfl⟩) id), fun h => by cases h⟩
theorem cell_lt {w : World} {ad : Addr} {v : Value} (h : w.cell? ad = some v) : ad.block < w.heap.size := by
  unfold World.cell? at h
  cases e : w.heap[ad.block]? with
  | none => rw [e] at h; simp at h
  | some o => exact (Array.getElem?_eq_some_iff.1 e).1
/-- A WORKER READS what nobody turns. -/
theorem goW_still {ty : TypeId} {x : Operand} (ho : ops[i]? = some o) (hw : Region.wanted o (yielded ops a.tmps) = true) (hk : b.kind ≠ .early) (hop : o.op = .load ty x) (hty : ty = 3 ∨ ty = 53 ∨ ty = 52 ∨ ty = 36 ∨ ty = 33 ∨ ty = 31 ∨ ty = 25 ∨ ty = 5)
    {ad : Addr} {v : Value} (hx : a.eval x = .pointer (some ad)) (hq : (Try.prog.funcs[b.fn]?).any (·.norace) = false) (hm : T.mute = false) (hst : Still K ad.block) (hns : ¬ K.Shun (.cell ad)) (hc : w.cell? ad = some v)
    (hgo : ∀ w₁, RB K T.owns T.blk w w₁ → GoW Try.prog K T Nx n (G (b.at (a.put o.dst v) (.inRegion ops rest :: kk)) cs) w₁) : GoW Try.prog K T Nx (n + 1) (G (b.at a (.inRegion ops (i :: rest) :: kk)) cs) w := by
  refine Goes.step rfl fun w₁ r => ?_
  have hc' : w₁.cell? ad = some v := by rw [cell_same (r.still _ hst)]; exact hc
  rw [stepG_ld ho hw hk hop hty hx hc' hq]
  simp only [goes_go]
  exact ⟨by rw [hm]; exact db_read (cell_lt hc') (.inl ⟨hst, hns⟩), hgo w₁ r⟩
/-- .. its own. -/
theorem goW_mine {ty : TypeId} {x : Operand} (ho : ops[i]? = some o) (hw : Region.wanted o (yielded ops a.tmps) = true) (hk : b.kind ≠ .early) (hop : o.op = .load ty x) (hty : ty = 3 ∨ ty = 53 ∨ ty = 52 ∨ ty = 36 ∨ ty = 33 ∨ ty = 31 ∨ ty = 25 ∨ ty = 5)
    {ad : Addr} {v : Value} (hx : a.eval x = .pointer (some ad)) (hq : (Try.prog.funcs[b.fn]?).any (·.norace) = false) (hm : T.mute = false) (hmi : ad.block ∈ T.blk) (hc : w.cell? ad = some v)
    (hgo : ∀ w₁, RB K T.owns T.blk w w₁ → GoW Try.prog K T Nx n (G (b.at (a.put o.dst v) (.inRegion ops rest :: kk)) cs) w₁) : GoW Try.prog K T Nx (n + 1) (G (b.at a (.inRegion ops (i :: rest) :: kk)) cs) w := by
  refine Goes.step rfl fun w₁ r => ?_
  have hc' : w₁.cell? ad = some v := by rw [cell_same (r.mine _ hmi)]; exact hc
  rw [stepG_ld ho hw hk hop hty hx hc' hq]
  simp only [goes_go]
  exact ⟨by rw [hm]; exact db_read (cell_lt hc') (.inr (.inl hmi)), hgo w₁ r⟩
/-- A silent stretch, then on. -/
theorem goW_call {x : Operand} {args : Array Operand} {ats : Array TypeId} {f : FuncId} {fn : Func} {c : Code} {first cap : Array Value}
    (ho : ops[i]? = some o) (hw : Region.wanted o (yielded ops a.tmps) = true) (hk : b.kind ≠ .early) (hop : o.op = .call { callee := .value x, args, argTypes := ats }) (hx : a.eval x = .func (.func f) first cap)
    (hf : Try.prog.funcs[f]? = some fn) (hname : (fn.name == "runtime.NumGoroutine") = false) (hb : fn.body = some c)
    (hgo : ∀ w₁, RB K T.owns T.blk w w₁ → GoW Try.prog K T Nx n (G ((base f).at { tmps := (first ++ args.map a.eval ++ cap) ++ Array.replicate (fn.ntmps - (first ++ args.map a.eval ++ cap).size) undef, defers := [] } [.code c]) (b.at a (.inRegion ops (i :: rest) :: kk) :: cs)) w₁) :
    GoW Try.prog K T Nx (n + 1) (G (b.at a (.inRegion ops (i :: rest) :: kk)) cs) w :=
  Goes.step rfl fun w₁ r => goes_callv ho hw hk hop hx hf hname hb ⟨db_none fun e he => by simp at he, hgo w₁ r⟩
end
theorem kb_rely {K : Band} {W w w₁ : World} {own : Bool} {mine : List Nat} {bk : Nat} {ob : Obj} (hm : bk ∈ mine) (h : Kn K W w ∧ w.heap[bk]? = some ob) (r : RB K own mine w w₁) : Kn K W w₁ ∧ w₁.heap[bk]? = some ob := ⟨h.1.rely r, (r.mine _ hm).trans h.2⟩
theorem heap_alloc (w : World) (ob : Obj) : (w.alloc ob).heap = w.heap.push ob := rfl
theorem alloc_old {w : World} {ob : Obj} {k : Nat} (h : k < w.heap.size) : (w.alloc ob).heap[k]? = w.heap[k]? := by
  rw [heap_alloc, Array.getElem?_push, if_neg (by omega)]
theorem effB_alloc {K : Band} (w : World) (ob : Obj) : EffB K true w (w.alloc ob) :=
  ⟨rfl, rfl, by rw [heap_alloc]; simp, .refl _, fun k hk _ _ => alloc_old hk⟩
theorem SAt.alloc {K : Band} {s : Sh} {w : World} (h : SAt K s w) (hB : K.B0 ≤ w.heap.size) (ob : Obj) : SAt K s (w.alloc ob) :=
  h.of_block (alloc_old (by have := K.bM; omega)) (alloc_old (by have := K.bW; omega))
theorem alloc_at_new (w : World) (ob : Obj) : (w.alloc ob).heap[w.heap.size]? = some ob := by
  rw [heap_alloc, Array.getElem?_push, if_pos rfl]
/-- What Do tells. -/
def doV (A B : Int) (j : Nat) : Int := IntKind.i64.wrap (IntKind.i64.wrap (A * (j : Int)) + IntKind.i64.wrap (IntKind.i64.wrap (B * (j : Int)) * (j : Int)))
noncomputable def body11 : Code := Try.f11.body.getD .skip
section
variable {Fa : Nat → Th → Array Value → Goroutine → World → Prop} {K : Band} [Fam K Fa] {W : World} {b₁ : Frame} {a₁ : Act} {ops₁ : Array Oper} {i₁ : Nat} {rest₁ : List Nat} {k₁ : List Item} {cs₁ : List Frame}
set_option maxRecDepth 100000 in
set_option maxHeartbeats 8000000 in
/-- ████ j.Do(job), BY A WORKER. ████ -/
theorem doGo (A B : Int) (j k : Nat) (v : Array Value) (hnb : 0 < K.nb)
    (hT : ∀ k' bk, ∃ m, ∀ w, Kn K W w → GoW Try.prog K { pc := .ld, job := j, blk := [bk] } (Fa k' { pc := .ld, job := j, blk := [bk] } v) m (G (b₁.at (a₁.put ((ops₁[i₁]?).bind (·.dst)) (.int .i64 (doV A B j))) (.inRegion ops₁ rest₁ :: k₁)) cs₁) w) (w : World) (hF : Kn K W w) :
    GoW Try.prog K { pc := .bx, job := j, it := K.nb } (Fa k { pc := .bx, job := j, it := K.nb } v) 10 (G ((base 11).at ⟨#[.agg #[.int .i64 A, .int .i64 B], .int .i64 (j : Int), undef, undef, undef, undef, undef, undef, undef, undef, undef, undef, undef, undef, undef, undef], []⟩ [.code body11]) (b₁.at a₁ (.inRegion ops₁ (i₁ :: rest₁) :: k₁) :: cs₁)) w := by
  refine goW0 (n := 10) (m := 0) ?_
  simp only [body11, Try.f11, Option.getD_some]
  repeat w_go Kn.rely
  -- STOP bx
  refine Goes.stop (fun _ r₁ => ?_)
  replace hF := Kn.rely hF r₁
  clear r₁
  refine Goes.stop (fun wx r₁ => ?_)
  replace hF := Kn.rely hF r₁
  clear r₁
  rcases k with _ | k
  · exact Fam.zero (K := K) _ _ _ _
  refine Fam.succ (K := K) (A := Fa) ?_
  refine ⟨rfl, rfl, by simp, by simp, by simp, by simp, fun _ s hs hfit _ cs hcs => ⟨_, s, .bx [wx.heap.size] .ld 0 rfl hnb (.inr rfl), _, _, _, stepG_box23 rfl rfl (by k_ne) rfl rfl, hs.alloc hF.B _, effB_alloc _ _, ⟨rfl, rfl⟩, ?_⟩⟩
  obtain ⟨mT, hT'⟩ := hT k wx.heap.size
  have hF2 : Kn K W (wx.alloc (.cells #[.int .i64 A, .int .i64 B] 23)) ∧ (wx.alloc (.cells #[.int .i64 A, .int .i64 B] 23)).heap[wx.heap.size]? = some (.cells #[.int .i64 A, .int .i64 B] 23) := ⟨hF.eff (effB_alloc _ _) (hs.alloc hF.B _), alloc_at_new _ _⟩
  generalize (wx.alloc (.cells #[.int .i64 A, .int .i64 B] 23)) = w' at hF2 ⊢
  generalize wx.heap.size = bk at hF2 hT' ⊢
  clear hF
  have hF := hF2
  clear hF2
  simp only [reduceCtorEq, if_false]
  have c0 : ∀ w : World, w.heap[bk]? = some (Obj.cells #[.int .i64 A, .int .i64 B] 23) → w.cell? ⟨bk, 0, none⟩ = some (.int .i64 A) := fun w h => by simp [World.cell?, h]
  have c1 : ∀ w : World, w.heap[bk]? = some (Obj.cells #[.int .i64 A, .int .i64 B] 23) → w.cell? ⟨bk, 1, none⟩ = some (.int .i64 B) := fun w h => by simp [World.cell?, h]
  have hm : bk ∈ [bk] := by simp
  unfold AfterW
  rw [if_neg (by simp)]
  refine ⟨20 + (20 + (30 + mT + 1) + 1), ?_⟩
  refine goW0 (n := 20) ?_
  walk_nrm
  repeat w_go (kb_rely hm)
  refine Goes.stop (fun _ r₁ => ?_)
  replace hF := kb_rely hm hF r₁
  clear r₁
  refine goW_mine rfl rfl (by k_ne) rfl (.inl rfl) rfl loud11 rfl hm (c0 _ hF.2) fun _ r₁ => ?_
  replace hF := kb_rely hm hF r₁
  clear r₁
  refine goW0 (n := 20) ?_
  walk_nrm
  repeat w_go (kb_rely hm)
  refine Goes.stop (fun _ r₁ => ?_)
  replace hF := kb_rely hm hF r₁
  clear r₁
  refine goW_mine rfl rfl (by k_ne) rfl (.inl rfl) rfl loud11 rfl hm (c1 _ hF.2) fun _ r₁ => ?_
  replace hF := kb_rely hm hF r₁
  clear r₁
  refine goW0 (n := 30) ?_
  walk_nrm
  repeat w_go (kb_rely hm)
  u_leave1 Try.func11 (kb_rely hm) hF
  refine Goes.stop (fun _ r₁ => ?_)
  replace hF := kb_rely hm hF r₁
  clear r₁
  exact hT' _ hF.1
end
end Go.Proofs.Ytapjmifhhbpikaa

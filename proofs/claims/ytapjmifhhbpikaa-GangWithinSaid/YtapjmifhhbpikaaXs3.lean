/- Gangs within gangs: the gang: the starter's script: Add and go, the sends, close, Wait. (Printed by gs3.py.) -/
import Derived.Test.YtapjmifhhbpikaaXs2
import Derived.Conc.TokenWalk
set_option linter.unusedVariables false
set_option linter.unusedSimpArgs false
namespace Go.Proofs.Ytapjmifhhbpikaa
open Go.Conc Go.ConcN Go.ConcM Go.RowKit Go.Conc.Lib Go.ConcR.Gen
open Go.ConcR (KK wgBlock WgAt stA smA rd wr mk)
noncomputable def body17 : Code := Try.f17.body.getD .skip
noncomputable def L1 : Code := (findLoop body17).getD .skip
noncomputable def REST1 : Code := rightC (rightC (rightC (rightC body17)))
noncomputable def L2 : Code := (findLoop REST1).getD .skip
noncomputable def REST2 : Code := rightC REST1
noncomputable def C0 : Code := firstC body17
noncomputable def C1 : Code := firstC (rightC body17)
noncomputable def C2 : Code := firstC (rightC (rightC body17))
noncomputable def C3 : Code := firstC (firstC (rightC (rightC (rightC body17))))
noncomputable def C8 : Code := firstC (firstC REST1)
set_option maxRecDepth 100000 in
theorem body17_eq : body17 = .seq C0 (.seq C1 (.seq C2 (.seq (.seq C3 (.block 0 (.loop L1))) REST1))) := by
  simp only [C0, C1, C2, C3, L1, REST1, body17, firstC, rightC, findLoop, Try.f17, Option.getD_some]
set_option maxRecDepth 100000 in
theorem rest1_eq : REST1 = .seq (.seq C8 (.block 2 (.loop L2))) REST2 := by
  simp only [C8, L2, REST2, REST1, body17, firstC, rightC, findLoop, Try.f17, Option.getD_some]
/-- THE STARTER READS what nobody turns. -/
theorem goS_still {K : Band} {Nx : Goroutine → World → Prop} {n : Nat} {b : Frame} {a : Act} {kk : List Item} {cs : List Frame} {w : World} {ops : Array Oper} {i : Nat} {rest : List Nat} {o : Oper} {ty : TypeId} {x : Operand} (ho : ops[i]? = some o) (hw : Region.wanted o (yielded ops a.tmps) = true) (hk : b.kind ≠ .early) (hop : o.op = .load ty x) (hty : ty = 3 ∨ ty = 53 ∨ ty = 52 ∨ ty = 36 ∨ ty = 33 ∨ ty = 31 ∨ ty = 25 ∨ ty = 5)
    {ad : Addr} {v : Value} (hx : a.eval x = .pointer (some ad)) (hq : (Try.prog.funcs[b.fn]?).any (·.norace) = false) (hst : Still K ad.block) (hns : ¬ K.Shun (.cell ad)) (hc : w.cell? ad = some v)
    (hgo : ∀ w₁, RB K false [] w w₁ → GoS Try.prog K Nx n (G (b.at (a.put o.dst v) (.inRegion ops rest :: kk)) cs) w₁) : GoS Try.prog K Nx (n + 1) (G (b.at a (.inRegion ops (i :: rest) :: kk)) cs) w := by
  refine Goes.step rfl fun w₁ r => ?_
  have hc' : w₁.cell? ad = some v := by rw [cell_same (r.still _ hst)]; exact hc
  rw [stepG_ld ho hw hk hop hty hx hc' hq]
  simp only [goes_go]
  exact ⟨db_read (cell_lt hc') (.inl ⟨hst, hns⟩), hgo w₁ r⟩
/-- The go statement. -/
theorem stepG_goS {main : Bool} {b : Frame} {a : Act} {kk : List Item} {cs : List Frame} {w : World} {ops : Array Oper} {i : Nat} {rest : List Nat} {o : Oper} {x : Operand} {f : FuncId} {cap : Array Value} (ho : ops[i]? = some o) (hw : Region.wanted o (yielded ops a.tmps) = true) (hk : b.kind ≠ .early) (hop : o.op = .go { callee := .value x, args := #[], argTypes := #[] }) (hx : a.eval x = .func (.func f) #[] cap) :
    stepG Try.prog main (G (b.at a (.inRegion ops (i :: rest) :: kk)) cs) w = .spawn (G (b.at (a.put o.dst undef) (.inRegion ops rest :: kk)) cs) (born Try.prog { target := .fn (.func f) cap, args := #[] }) w #[] := by
  have hr : (execOp a.eval o).run Try.prog w = .ok (.spawn { target := .fn (.func f) cap, args := #[] }) w := by
    unfold execOp
    simp [hop, resolve, Deferred.ofValue, hx]
  have he : (execOp a.eval o).events Try.prog w #[] = #[] := by
    unfold execOp
    simp [hop, resolve, Deferred.ofValue, hx]
  rw [stepG_spawn ho hw hk hr rfl]
  unfold listed
  rw [he, seen_none]
theorem close_ev {c sz : Nat} (h : c < sz) : ∀ e ∈ closeEvents c, (∀ x, (MemAct.ofEvent e).touch? = some x → x.loc = .obj c) ∧ (∀ m, e.loc ≠ .mark m) ∧ (MemAct.ofEvent e).low sz := by
  intro e he
  simp only [closeEvents, List.mem_toArray, List.mem_cons, List.not_mem_nil, or_false] at he
  rcases he with rfl | rfl
  · refine ⟨fun x hx => ?_, by simp, h⟩
    simp only [MemAct.ofEvent, MemAct.touch?, Option.some.injEq] at hx
    subst hx; rfl
  · refine ⟨fun x hx => ?_, by simp, h⟩
    simp [MemAct.ofEvent, MemAct.touch?] at hx
section
variable {K : Band} {W : World} {Q D F O : Nat} {fc : FuncId} {jf : Value} {fn : Func} {body : Code} {b₁ : Frame} {a₁ : Act} {ops₁ : Array Oper} {i₁ : Nat} {rest₁ : List Nat} {k₁ : List Item} {cs₁ : List Frame}
set_option maxRecDepth 100000 in
set_option maxHeartbeats 16000000 in
/-- close(queue); all.Wait(). -/
theorem closeGo {Stop : Goroutine → World → Prop} {R : World → World → Prop} (hR : ∀ {w w₁ : World}, KnF K W w ∧ CAt K (full K) w → R w w₁ → KnF K W w₁ ∧ CAt K (full K) w₁) (hend : ∃ m, ∀ w, KnF K W w → CAt K (full K) w → Goes Try.prog K.mn R Go.ConcR.DC0 Stop m (G (b₁.at (a₁.put ((ops₁[i₁]?).bind (·.dst)) (.tuple #[])) (.inRegion ops₁ rest₁ :: k₁)) cs₁) w) (E : Env K W Q D F O fc jf) (n sent k : Nat) : ∃ m, ∀ (s0 s1 s2 s3 s4 s5 s8 s9 s10 s11 s12 s13 s14 s15 s16 s17 s18 s19 s20 s21 s22 s23 s24 : Value) (w : World), Kn K W w → GoS Try.prog K (AtS Try.prog K (FinG K.mn R Stop) k ⟨.cl, n, sent⟩) m (G ((base 17).at ⟨#[s0, s1, s2, s3, s4, s5, .pointer (some ⟨Q, 0, none⟩), .pointer (some ⟨K.Wg, 0, none⟩), s8, s9, s10, s11, s12, s13, s14, s15, s16, s17, s18, s19, s20, s21, s22, s23, s24], []⟩ [.code REST2]) (b₁.at a₁ (.inRegion ops₁ (i₁ :: rest₁) :: k₁) :: cs₁)) w := by
  refine ⟨20 + (20 + 0 + 1), fun s0 s1 s2 s3 s4 s5 s8 s9 s10 s11 s12 s13 s14 s15 s16 s17 s18 s19 s20 s21 s22 s23 s24 w hF => ?_⟩
  refine goS0 (n := 20) (m := 21) ?_
  generalize hX : REST2 = X
  simp only [REST2, REST1, body17, firstC, rightC, Try.f17, Option.getD_some] at hX
  subst hX
  repeat w_go Kn.rely
  refine Goes.stop (fun _ r₁ => ?_)
  replace hF := Kn.rely hF r₁
  clear r₁
  refine goS_still (n := 20) rfl rfl (by k_ne) rfl (by simp) rfl loud17 E.sQ E.nQ (hF.cell E.sQ E.cQ) fun _ r₁ => ?_
  replace hF := Kn.rely hF r₁
  clear r₁
  refine goS0 (n := 20) (m := 0) ?_
  walk_nrm
  repeat w_go Kn.rely
  -- STOP cl
  refine Goes.stop (fun _ r₁ => ?_)
  replace hF := Kn.rely hF r₁
  clear r₁
  refine Goes.stop (fun _ r₁ => ?_)
  replace hF := Kn.rely hF r₁
  clear r₁
  rcases k with _ | k
  · trivial
  refine ⟨rfl, rfl, by simp, by simp, fun _ => ⟨rfl, fun s r hc => ⟨_, _, stepG_close rfl rfl (by k_ne) rfl rfl hc loud17, rfl, close_ev (by have := K.bH; have := hF.B; omega), ?_⟩⟩, by simp, fun _ _ h => absurd rfl h⟩
  replace hF := hF.rely (RB.of_chan (own := false) (mine := []) (cl := true) (s := s) (r := r) hF.B (fun b hb => by cases hb))
  refine afterS_go (by simp) (20 + 60) ?_
  refine goS0 (n := 20) (m := 60) ?_
  walk_nrm
  repeat w_go Kn.rely
  u_call Try.func25 nm25 Try.f25 Kn.rely hF
  refine Goes.stop (fun _ r₁ => ?_)
  replace hF := Kn.rely hF r₁
  clear r₁
  refine goes_le (by omega) (waitGo hR ?_ n sent k _ hF)
  obtain ⟨mE, hE⟩ := hend
  refine ⟨mE + 20, fun w h1 h2 => ?_⟩
  have hF := And.intro h1 h2
  clear h1 h2
  walk_nrm
  repeat w_go hR
  u_leave0 Try.func17 hR hF
  exact goes_pad (hE _ hF.1 hF.2) _
set_option maxRecDepth 100000 in
set_option maxHeartbeats 16000000 in
/-- for job := range jobs { queue <- job }, and on. -/
theorem sendGo {Stop : Goroutine → World → Prop} {R : World → World → Prop} (hR : ∀ {w w₁ : World}, KnF K W w ∧ CAt K (full K) w → R w w₁ → KnF K W w₁ ∧ CAt K (full K) w₁) (hend : ∃ m, ∀ w, KnF K W w → CAt K (full K) w → Goes Try.prog K.mn R Go.ConcR.DC0 Stop m (G (b₁.at (a₁.put ((ops₁[i₁]?).bind (·.dst)) (.tuple #[])) (.inRegion ops₁ rest₁ :: k₁)) cs₁) w) (E : Env K W Q D F O fc jf) (n : Nat) (hJb : K.J ≤ 1000) : ∀ (r sent : Nat), sent + r = K.J → ∀ k, ∃ m, ∀ (s0 s1 s2 s3 s4 s5 s8 s9 s10 s11 s12 s13 s14 s15 s18 s19 s20 s21 s22 s23 s24 : Value) (w : World), Kn K W w →
    GoS Try.prog K (AtS Try.prog K (FinG K.mn R Stop) k ⟨if sent < K.J then .sn else .cl, n, sent⟩) m (G ((base 17).at ⟨#[s0, s1, s2, s3, s4, s5, .pointer (some ⟨Q, 0, none⟩), .pointer (some ⟨K.Wg, 0, none⟩), s8, s9, s10, s11, s12, s13, s14, s15, .int .i64 (K.J : Int), .int .i64 (sent : Int), s18, s19, s20, s21, s22, s23, s24], []⟩ [.code L2, .inLoop L2, .inBlock 2, .code REST2]) (b₁.at a₁ (.inRegion ops₁ (i₁ :: rest₁) :: k₁) :: cs₁)) w := by
  intro r
  induction r with
  | zero =>
    intro sent hs k
    rw [if_neg (by omega)]
    obtain ⟨mC, hC⟩ := closeGo (b₁ := b₁) (a₁ := a₁) (ops₁ := ops₁) (i₁ := i₁) (rest₁ := rest₁) (k₁ := k₁) (cs₁ := cs₁) hR hend E n sent k
    refine ⟨20 + mC, fun s0 s1 s2 s3 s4 s5 s8 s9 s10 s11 s12 s13 s14 s15 s18 s19 s20 s21 s22 s23 s24 w hF => ?_⟩
    refine goS0 (n := 20) (m := mC) ?_
    generalize hX : Item.code L2 = X
    simp only [L2, REST1, body17, firstC, rightC, findLoop, Try.f17, Option.getD_some] at hX
    subst hX
    have hlt : ¬ ((sent : Int) < (K.J : Int)) := by omega
    repeat w_go Kn.rely
    refine Goes.stop (fun _ r₁ => ?_)
    replace hF := Kn.rely hF r₁
    clear r₁
    exact hC _ _ _ _ _ _ _ _ _ _ _ _ _ _ _ _ _ _ _ _ _ _ _ _ hF
  | succ r ih =>
    intro sent hs k
    rw [if_pos (by omega)]
    refine ⟨30 + (20 + 0 + 1), fun s0 s1 s2 s3 s4 s5 s8 s9 s10 s11 s12 s13 s14 s15 s18 s19 s20 s21 s22 s23 s24 w hF => ?_⟩
    refine goS0 (n := 30) (m := 21) ?_
    generalize hX : Item.code L2 = X
    simp only [L2, REST1, body17, firstC, rightC, findLoop, Try.f17, Option.getD_some] at hX
    subst hX
    have hlt : ((sent : Int) < (K.J : Int)) := by omega
    repeat w_go Kn.rely
    refine Goes.stop (fun _ r₁ => ?_)
    replace hF := Kn.rely hF r₁
    clear r₁
    refine goS_still (n := 20) rfl rfl (by k_ne) rfl (by simp) rfl loud17 E.sQ E.nQ (hF.cell E.sQ E.cQ) fun _ r₁ => ?_
    replace hF := Kn.rely hF r₁
    clear r₁
    refine goS0 (n := 20) (m := 0) ?_
    walk_nrm
    repeat w_go Kn.rely
    -- STOP sn
    refine Goes.stop (fun _ r₁ => ?_)
    replace hF := Kn.rely hF r₁
    clear r₁
    refine Goes.stop (fun _ r₁ => ?_)
    replace hF := Kn.rely hF r₁
    clear r₁
    rcases k with _ | k
    · trivial
    refine ⟨rfl, rfl, by simp, fun _ => ⟨stepG_send rfl rfl (by k_ne) rfl rfl rfl, fun w' r => ?_⟩, by simp, by simp, fun _ h => absurd rfl h⟩
    replace hF := Kn.rely hF r
    clear r
    obtain ⟨mI, hI⟩ := ih (sent + 1) (by omega) k
    refine afterS_go (by show (if _ then Ps.sn else Ps.cl) ≠ _; split <;> simp) (30 + mI) ?_
    refine goS0 (n := 30) (m := mI) ?_
    rw [served_G]
    have wi : IntKind.i64.wrap ((sent : Int) + 1) = ((sent + 1 : Nat) : Int) := by rw [IntKind.wrap_i64]; omega
    walk_nrm
    repeat w_nl Kn.rely
    u_c stepG_inLoop Kn.rely hF
    refine Goes.stop (fun _ r₁ => ?_)
    replace hF := Kn.rely hF r₁
    clear r₁
    exact hI _ _ _ _ _ _ _ _ _ _ _ _ _ _ _ _ _ _ _ _ _ _ hF
set_option maxRecDepth 100000 in
set_option maxHeartbeats 16000000 in
/-- for range workers { all.Add(1); go .. }, and on. -/
theorem startGo {Stop : Goroutine → World → Prop} {R : World → World → Prop} (hR : ∀ {w w₁ : World}, KnF K W w ∧ CAt K (full K) w → R w w₁ → KnF K W w₁ ∧ CAt K (full K) w₁) (hend : ∃ m, ∀ w, KnF K W w → CAt K (full K) w → Goes Try.prog K.mn R Go.ConcR.DC0 Stop m (G (b₁.at (a₁.put ((ops₁[i₁]?).bind (·.dst)) (.tuple #[])) (.inRegion ops₁ rest₁ :: k₁)) cs₁) w) (E : Env K W Q D F O fc jf) (hJb : K.J ≤ 1000) (hf : Try.prog.funcs[fc]? = some fn) (hname : (fn.name == "runtime.NumGoroutine") = false) (hb : fn.body = some body) (hnt : fn.ntmps = 14) (hjob : JobGo K W F O fc body) : ∀ (r n : Nat), n + r = K.N → ∀ k, ∃ m, ∀ (s2 s3 s4 s8 s9 s12 s13 s14 s15 s16 s17 s18 s19 s20 s21 s22 s23 s24 : Value) (w : World), Kn K W w →
    GoS Try.prog K (AtS Try.prog K (FinG K.mn R Stop) k ⟨if n < K.N then .gk else if 0 < K.J then .sn else .cl, n, 0⟩) m (G ((base 17).at ⟨#[.int .i64 (K.J : Int), .int .i64 (K.N : Int), s2, s3, s4, .pointer (some ⟨D, 0, none⟩), .pointer (some ⟨Q, 0, none⟩), .pointer (some ⟨K.Wg, 0, none⟩), s8, s9, .int .i64 (K.N : Int), .int .i64 (n : Int), s12, s13, s14, s15, s16, s17, s18, s19, s20, s21, s22, s23, s24], []⟩ [.code L1, .inLoop L1, .inBlock 0, .code REST1]) (b₁.at a₁ (.inRegion ops₁ (i₁ :: rest₁) :: k₁) :: cs₁)) w := by
  intro r
  induction r with
  | zero =>
    intro n hn k
    rw [if_neg (by omega)]
    obtain ⟨mC, hC⟩ := sendGo (b₁ := b₁) (a₁ := a₁) (ops₁ := ops₁) (i₁ := i₁) (rest₁ := rest₁) (k₁ := k₁) (cs₁ := cs₁) hR hend E n hJb K.J 0 (by omega) k
    refine ⟨40 + mC, fun s2 s3 s4 s8 s9 s12 s13 s14 s15 s16 s17 s18 s19 s20 s21 s22 s23 s24 w hF => ?_⟩
    refine goS0 (n := 40) (m := mC) ?_
    generalize hX : Item.code L1 = X
    simp only [L1, body17, findLoop, Try.f17, Option.getD_some] at hX
    subst hX
    rw [rest1_eq]
    generalize h8 : C8 = X8
    simp only [C8, REST1, body17, firstC, rightC, Try.f17, Option.getD_some] at h8
    subst h8
    have hlt : ¬ ((n : Int) < (K.N : Int)) := by omega
    repeat w_but "code.loop" Kn.rely
    u_c stepG_loop Kn.rely hF
    refine Goes.stop (fun _ r₁ => ?_)
    replace hF := Kn.rely hF r₁
    clear r₁
    exact hC _ _ _ _ _ _ _ _ _ _ _ _ _ _ _ _ _ _ _ _ _ _ hF
  | succ r ih =>
    intro n hn k
    rw [if_pos (by omega)]
    refine ⟨30 + 40, fun s2 s3 s4 s8 s9 s12 s13 s14 s15 s16 s17 s18 s19 s20 s21 s22 s23 s24 w hF => ?_⟩
    refine goS0 (n := 30) (m := 40) ?_
    generalize hX : Item.code L1 = X
    simp only [L1, body17, findLoop, Try.f17, Option.getD_some] at hX
    subst hX
    have hlt : ((n : Int) < (K.N : Int)) := by omega
    repeat w_go Kn.rely
    u_call Try.func22 nm22 Try.f22 Kn.rely hF
    refine Goes.stop (fun _ r₁ => ?_)
    replace hF := Kn.rely hF r₁
    clear r₁
    refine goes_le (by omega) (addGo n 0 ?_ k _ hF)
    intro k
    refine ⟨20 + 0, fun w hF => ?_⟩
    refine goS0 (n := 20) (m := 0) ?_
    walk_nrm
    repeat w_go Kn.rely
    -- STOP go
    refine Goes.stop (fun _ r₁ => ?_)
    replace hF := Kn.rely hF r₁
    clear r₁
    refine Goes.stop (fun _ r₁ => ?_)
    replace hF := Kn.rely hF r₁
    clear r₁
    rcases k with _ | k
    · trivial
    obtain ⟨mI, hI⟩ := ih (n + 1) (by omega) k
    refine ⟨rfl, rfl, fun _ => ⟨_, born Try.prog (call23 K.Wg Q D), stepG_goS rfl rfl (by k_ne) rfl rfl, rfl, fun v => bornGo E hf hname hb hnt hjob k v _ hF, ?_⟩, by simp, by simp, by simp, fun h => absurd rfl h⟩
    refine afterS_go (by show (if _ then Ps.gk else (if _ then Ps.sn else Ps.cl)) ≠ _; split <;> (try split) <;> simp) (30 + mI) ?_
    refine goS0 (n := 30) (m := mI) ?_
    have wi : IntKind.i64.wrap ((n : Int) + 1) = ((n + 1 : Nat) : Int) := by rw [IntKind.wrap_i64]; have := K.hNb; omega
    walk_nrm
    repeat w_nl Kn.rely
    u_c stepG_inLoop Kn.rely hF
    refine Goes.stop (fun _ r₁ => ?_)
    replace hF := Kn.rely hF r₁
    clear r₁
    exact hI _ _ _ _ _ _ _ _ _ _ _ _ _ _ _ _ _ _ _ hF
end
end Go.Proofs.Ytapjmifhhbpikaa

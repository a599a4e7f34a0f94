/- The gang in the machine: the moves. -/
import Derived.Test.YtapjmifhhbpikaaBdN
set_option linter.unusedVariables false
set_option linter.unusedSimpArgs false
namespace Go.Proofs.Ytapjmifhhbpikaa
open Go.Conc Go.ConcN Go.ConcM
open Go.ConcR (KK wgBlock WgAt stA smA rd wr g_of_ofEvents ofEvent_loc_mark ofEvent_cell ofEvent_mk loc_of_ofEvent again_blocked)
section
variable {P : Program} {K : Band} {Fin : Goroutine → World → Prop} {G G' : GS} {gs : Array Goroutine} {gf : Nat → Goroutine} {w w' w₁ : World} {sl : Option (Nat × Nat)} {vs : Nat → Array Value} {ks φ : Nat → Nat} {o : Option Nat} {ob : Nat → Option Nat} {t : Trace} {g' : Goroutine} {es : Array Event}
theorem putDn_other (dn : Nat → Bool) {T : Th} (h : T.pc ≠ .ur) : putDn dn T = dn := by
  funext j
  unfold putDn
  rw [if_neg (fun e => h e.1)]
theorem putDn_ur (dn : Nat → Bool) {T : Th} (h : T.pc = .ur) : putDn dn T = fun x => if x = T.job then true else dn x := by
  funext j
  unfold putDn
  simp [h]
theorem owns_iff (T : Th) : T.owns = true ↔ T.pc = .ur := by simp [Th.owns]
/-- A worker behind its stop. -/
theorem after_sit {T' : Th} {v : Array Value} {k d : Nat} {s' : Sh} (hd : d = if T'.pc = .quit then 1 else T'.deaf) (hA : AfterW P K (AtW P K (k + 1)) T' v g' w') : ∃ f, SitW P K G' T' v k f d g' w' ∧ g'.status = .running := by
  unfold AfterW at hA
  split at hA
  · rename_i hq
    obtain ⟨q, hQ⟩ := hA
    rw [if_pos hq] at hd
    subst hd
    exact ⟨(K.N + 3) * q, .inr (.inr (.inr (.inr ⟨hq, q, rfl, hQ⟩))), quitsD_running hQ⟩
  · rename_i hq
    obtain ⟨m, hm⟩ := hA
    rw [if_neg hq] at hd
    exact ⟨(K.N + 3) * m + 1, .inl ⟨hq, hd, m, rfl, hm⟩, hm.running⟩
set_option maxHeartbeats 1600000 in
/-- (6) ████ A WORKER's MOVE. ████ -/
theorem stepMoveW (A : Arr K G gs gf) (c : Cx P K Fin G gf w vs ks φ o ob t) {i : Nat} (hi : i < G.n) (hrc : (G.D i).pc ≠ .rc) (hd : Deaf t (idW K i) = (G.D i).deaf) (hS : StpW P K (AtW P K (ks (idW K i))) (G.D i) (vs i) (gf (idW K i)) w) (hms : (G.D i).pc = .s1 → G.s.ms ≠ 0) :
    Goes1 P K Fin G φ gs w sl t (idW K i) := by
  have hy := c.lt hi
  have hy0 : idW K i ≠ 0 := by have := idW_pos K i; omega
  have hB := c.mt.B
  have hfit := fit_of c.ok K.hNb hi
  have free_la : (G.D i).pc = .la → o = none := by
    intro hp
    cases ho : o with
    | none => rfl
    | some y =>
      obtain ⟨k, hk, hk1, _⟩ := c.ow' y ho
      have h1 : isO (G.D k) = 1 := by simp [isO, (owns_iff _).1 hk1]
      have h2 : isO (G.D i) = 1 := by simp [isO, hp]
      have := one_owner c.ok.mu hk hi h1 h2
      subst this
      rw [(owns_iff _).1 hk1] at hp; cases hp
  obtain ⟨T', s', hmw, g', w', es, hs, hsh', heff, hev, haft⟩ := hS.go hrc G.s c.sh hfit hms (K.row G.dn) (fun hp => ⟨c.row (free_la hp), K.hrow _⟩)
  have hm := mw_any (cl := G.closed) hmw hrc
  have E := edge_of hm
  have hok' := ok_work c.ok hi hm
  have hrk := rank_work c.ok hi hm
  obtain ⟨k', hk'⟩ : ∃ k', ks (idW K i) = k' + 1 := ⟨ks (idW K i) - 1, by have := c.hk (idW K i); omega⟩
  rw [hk'] at haft
  have hblock : ∀ b, b < w.heap.size → b ≠ K.Mu → b ≠ K.Wg → w'.heap[b]? = w.heap[b]? := heff.block
  have hC : w'.heap[K.C]? = w.heap[K.C]? := hblock _ (by have := K.bC; omega) K.hMC.symm K.hWC.symm
  have hch : HAt K G.closed w' := by
    obtain ⟨s, r, h⟩ := c.ch
    exact ⟨s, r, (hblock _ (by have := K.bH; omega) K.hMH.symm K.hWH.symm).trans h⟩
  -- the trace
  obtain ⟨o', ob', hmt', hdw, how, how', hbk', hbT⟩ : ∃ o' ob', MTr K G.n (fun k => ((G.work i T' s').D k).mute) o' ob' w'.heap.size (t ++ MemOp.ofEvents (idW K i) (gf (idW K i)).frame.fn (gf (idW K i)).frame.place es) ∧
      Deaf (t ++ MemOp.ofEvents (idW K i) (gf (idW K i)).frame.fn (gf (idW K i)).frame.place es) (idW K i) = (if T'.pc = .quit then 1 else T'.deaf) ∧
      (∀ k, k < G.n → ((G.work i T' s').D k).owns = true → o' = some (idW K k)) ∧ (∀ y, o' = some y → ∃ k, k < G.n ∧ ((G.work i T' s').D k).owns = true ∧ y = idW K k) ∧
      (∀ b y, ob b = some y → ob' b = some y) ∧ (∀ b, b ∈ T'.blk → ob' b = some (idW K i)) := by
    have Dsame : (G.work i T' s').D i = T' := upd_same _ _ _
    have Dne : ∀ k, k ≠ i → (G.work i T' s').D k = G.D k := fun k hk => upd_ne _ _ hk
    have mu_imp : (G.D i).pc ≠ .wr → ∀ k, k < G.n → ((G.work i T' s').D k).mute = true → (G.D k).mute = true := by
      intro hwr k hk hmk
      by_cases e : k = i
      · subst e; rw [Dsame] at hmk; exact (E.mute hmk).resolve_right hwr
      · rw [Dne k e] at hmk; exact hmk
    by_cases hla : (G.D i).pc = .la
    · have ho := free_la hla
      have hes : es = #[Go.ConcR.mk (.acquire (muA K.Mu))] := by simpa [EvW, hla] using hev
      have hT := (E.la hla).1
      have hsz : w'.heap.size = w.heap.size := by have := heff.size; simp [hla] at this; exact this
      subst hes
      have hd0 : Deaf t (idW K i) = 0 := by rw [hd]; simp [Th.deaf, hla]
      refine ⟨some (idW K i), ob, ?_, ?_, fun k hk hk1 => ?_, fun y hy => ?_, fun _ _ h => h, fun b hb => ?_⟩
      · rw [hsz]
        have := (ho ▸ c.mt).la hi hd0 (gf (idW K i)).frame.fn (gf (idW K i)).frame.place
        exact ⟨this.lt, this.hi, this.B, this.seen, this.mem, this.nrA, fun k hk hmk => this.rel k hk (mu_imp (by rw [hla]; simp) k hk hmk), this.who, this.over⟩
      · rw [ofEvents_mk, deaf_word _ (by simp) (by simp), hd0, hT]; simp [Th.deaf]
      · by_cases e : k = i
        · rw [e]
        · rw [Dne k e] at hk1
          have := c.ow k hk hk1
          rw [ho] at this; cases this
      · cases hy
        exact ⟨i, hi, by rw [Dsame, hT]; simp [Th.owns], rfl⟩
      · rw [hT] at hb; exact c.bk i hi b hb
    by_cases hur : (G.D i).pc = .ur
    · have ho := c.ow i hi ((owns_iff _).2 hur)
      have hes : es = #[Go.ConcR.mk (.releaseMerge (muA K.Mu))] := by simpa [EvW, hur] using hev
      have hT := (E.ur hur).1
      have hsz : w'.heap.size = w.heap.size := by have := heff.size; simp [hur] at this; exact this
      subst hes
      have hd0 : Deaf t (idW K i) = 0 := by rw [hd]; simp [Th.deaf, hur]
      refine ⟨none, ob, ?_, ?_, fun k hk hk1 => ?_, fun y hy => (by cases hy), fun _ _ h => h, fun b hb => ?_⟩
      · rw [hsz]
        have := (show MTr K G.n (fun i => (G.D i).mute) (some (idW K i)) ob w.heap.size t from ho ▸ c.mt).ur hi hd0 (gf (idW K i)).frame.fn (gf (idW K i)).frame.place
        exact ⟨this.lt, this.hi, this.B, this.seen, this.mem, this.nrA, fun k hk hmk => this.rel k hk (mu_imp (by rw [hur]; simp) k hk hmk), this.who, this.over⟩
      · rw [ofEvents_mk, deaf_word _ (by simp) (by simp), hd0, hT]; simp [Th.deaf]
      · by_cases e : k = i
        · subst e; rw [Dsame, hT] at hk1; simp [Th.owns] at hk1
        · rw [Dne k e] at hk1
          have := c.one hi hk ((owns_iff _).2 hur) e
          rw [this] at hk1; cases hk1
      · rw [hT] at hb; exact c.bk i hi b hb
    -- who owns stands
    have how0 : ∀ k, k < G.n → ((G.work i T' s').D k).owns = true → o = some (idW K k) := fun k hk hk1 => by
      by_cases e : k = i
      · subst e; rw [Dsame] at hk1; exact absurd (E.to ((owns_iff _).1 hk1)) hla
      · rw [Dne k e] at hk1; exact c.ow k hk hk1
    have how1 : ∀ y, o = some y → ∃ k, k < G.n ∧ ((G.work i T' s').D k).owns = true ∧ y = idW K k := fun y hy => by
      obtain ⟨k, hk, hk1, hk2⟩ := c.ow' y hy
      by_cases e : k = i
      · subst e; exact absurd ((owns_iff _).1 hk1) hur
      · exact ⟨k, hk, by rw [Dne k e]; exact hk1, hk2⟩
    by_cases hwr : (G.D i).pc = .wr
    · have hes : es = #[Go.ConcR.mk (.releaseMerge (stA K.Wg))] := by simpa [EvW, hwr] using hev
      have hT := (E.wr hwr).1
      have hsz : w'.heap.size = w.heap.size := by have := heff.size; simp [hwr] at this; exact this
      subst hes
      have hd0 : Deaf t (idW K i) = 0 := by rw [hd]; simp [Th.deaf, hwr]
      refine ⟨o, ob, ?_, ?_, how0, how1, fun _ _ h => h, fun b hb => (by rw [hT] at hb; cases hb)⟩
      · rw [hsz]
        refine c.mt.wr hi hd0 _ _ fun k hk hmk => ?_
        by_cases e : k = i
        · exact .inl e
        · rw [Dne k e] at hmk; exact .inr hmk
      · rw [ofEvents_mk, deaf_word _ (by simp) (by simp), hd0, hT]; simp [Th.deaf]
    by_cases hbx : (G.D i).pc = .bx
    · have hes : T'.blk = w.heap.size :: (G.D i).blk ∧ es = #[] := by simpa [EvW, hbx] using hev
      obtain ⟨b, hT, _, hpp⟩ := E.bx hbx
      have hsz : w'.heap.size = w.heap.size + 1 := by have := heff.size; simp [hbx] at this; exact this
      have et : t ++ MemOp.ofEvents (idW K i) (gf (idW K i)).frame.fn (gf (idW K i)).frame.place es = t := by rw [hes.2, ofEvents_none, Array.append_empty]
      have := c.mt.grow (idW K i)
      refine ⟨o, fun b => if b = w.heap.size then some (idW K i) else ob b, ?_, ?_, how0, how1, fun b y hb => ?_, fun b hb => ?_⟩
      · rw [et, hsz]
        exact ⟨this.lt, this.hi, this.B, this.seen, this.mem, this.nrA, fun k hk hmk => this.rel k hk (mu_imp (by rw [hbx]; simp) k hk hmk), this.who, this.over⟩
      · rw [et, hd]; rcases hpp with h | h <;> simp [Th.deaf, hbx, h]
      · have := (c.mt.hi b y hb).2
        show (if b = w.heap.size then _ else _) = _
        rw [if_neg (by omega)]; exact hb
      · rw [hes.1] at hb
        show (if b = w.heap.size then _ else _) = _
        rcases List.mem_cons.1 hb with rfl | hb
        · rw [if_pos rfl]
        · have h1 := c.bk i hi b hb
          have := (c.mt.hi b _ h1).2
          rw [if_neg (by omega)]; exact h1
    · have hbook : Book K (G.D i).deaf (if T'.pc = .quit then 1 else T'.deaf) es := by
        unfold EvW at hev
        split at hev <;> first | contradiction | exact hev
      have hsz : w'.heap.size = w.heap.size := by have := heff.size; simp [hbx] at this; exact this
      obtain ⟨m1, m2⟩ := c.mt.book (mu' := fun k => ((G.work i T' s').D k).mute) (.inr ⟨i, hi, rfl⟩) hd (fn := (gf (idW K i)).frame.fn) (pos := (gf (idW K i)).frame.place) hbook (mu_imp hwr)
      refine ⟨o, ob, by rw [hsz]; exact m1, m2, how0, how1, fun _ _ h => h, fun b hb => ?_⟩
      rcases E.blk hbx with e | e
      · rw [e] at hb; exact c.bk i hi b hb
      · rw [e] at hb; cases hb
  -- where it stands now
  obtain ⟨f, hsn, hrun'⟩ := after_sit (P := P) (K := K) (G' := G.work i T' s') (s' := s') (d := _) hdw haft
  obtain ⟨φ', h1, h2, h3, h4, h5⟩ := c.others (G' := G.work i T' s') (x := gf (idW K i)) (x' := g') (w₁ := w') (idW K i) rfl hch
    (fun k hk hne => RB.of_eff heff hsh' hB (c.blk hk)) (fun _ => RB.of_eff heff hsh' hB (fun b hb => by cases hb)) (fun _ => ⟨rfl, rfl⟩)
    (fun h => (E.ms h).imp id fun hp => ⟨hS.wake (hp.elim .inl fun h => .inr (.inl h)), hrun'⟩) (.inl rfl) (fun _ hp => by show G.closed = false; rw [c.ok.cl, hp]; rfl)
    (fun _ _ h => (E.ws h).imp id fun hp => ⟨hS.wake (.inr (.inr hp)), hrun'⟩)
  have hst := h3 hy0
  have Dsame : (G.work i T' s').D i = T' := upd_same _ _ _
  have Dne : ∀ k, k ≠ i → (G.work i T' s').D k = G.D k := fun k hk => upd_ne _ _ hk
  have hdn : (G.D i).pc ≠ .ur → (G.work i T' s').dn = G.dn := fun h => putDn_other _ h
  refine ⟨_, _, _, run_own A hy (by rw [show (idW K i == 0) = false by simpa using hy0]; exact hs), .left _ _ hrk, _, w', sl, G.work i T' s', _, fun k => if k = i then (if (G.D i).pc = .la then K.put (G.D i).job (K.row G.dn) else vs i) else vs k, upd ks (idW K i) k', upd φ' (idW K i) f, o', ob', rfl, A.step (G' := G.work i T' s') rfl hy _ _ _, ?_, rfl⟩
  refine ⟨hok', c.nr, fun y => ?_, hsh', hch, fun ho => ?_, ?_, fun k hk hku => ?_, ?_, ?_, fun k hk => ?_, fun j j1 j2 => ?_, fun k hk hp hb => ?_, fun k hk b hb => ?_, how, how', hmt'⟩
  · by_cases e : y = idW K i
    · subst e; rw [upd_same]; have := c.hk (idW K i); omega
    · rw [upd_ne _ _ e]; have := c.hk y; omega
  · by_cases hur : (G.D i).pc = .ur
    · show CAt K (K.row (putDn G.dn (G.D i))) w'
      rw [← c.ur i hi hur]
      exact hC.trans (hS.row hur)
    · rw [hdn hur]
      have ho' : o = none := by
        cases e : o with
        | none => rfl
        | some y =>
          obtain ⟨k, hk, hk1, _⟩ := c.ow' y e
          by_cases eki : k = i
          · subst eki; exact absurd ((owns_iff _).1 hk1) hur
          · have := how k hk (by rw [Dne k eki]; exact hk1)
            rw [ho] at this; cases this
      exact hC.trans (c.row ho')
  · obtain ⟨cs, hc, hs⟩ := c.rowJ
    exact ⟨cs, hC.trans hc, hs⟩
  · have hku' : ((G.work i T' s').D k).pc = .ur := hku
    by_cases e : k = i
    · subst e
      rw [Dsame] at hku'
      have hla := E.to hku'
      have hT := (E.la hla).1
      simp only [if_true, if_pos hla]
      have hjl : (G.D k).job < K.J := Nat.lt_of_lt_of_le (c.ok.job k hi (by rw [hla]; rfl)) c.ok.snt.1
      rw [K.hput _ _ hjl, Dsame, hdn (by rw [hla]; simp), putDn_ur _ hku', hT]
    · rw [Dne k e] at hku'
      have hnu : (G.D i).pc ≠ .ur := fun h => by
        have := c.one hi hk ((owns_iff _).2 h) e
        rw [(owns_iff _).2 hku'] at this; cases this
      simp only [if_neg e]
      rw [Dne k e, hdn hnu]
      exact c.ur k hk hku'
  · simp only [if_neg (Ne.symm hy0), upd_ne _ _ (Ne.symm hy0)]
    exact hst.1
  · rw [deaf_others (Ne.symm hy0)]; exact c.d0
  · by_cases e : k = i
    · subst e
      simp only [if_true, upd_same]
      rw [Dsame, hdw]
      rw [hdw] at hsn
      exact hsn
    · have hne : idW K k ≠ idW K i := fun h => e (idW_inj h)
      simp only [if_neg hne, if_neg e, upd_ne _ _ hne]
      rw [deaf_others hne, Dne k e]
      exact (h4 k hk hne).1
  · have hne : j ≠ idW K i := by unfold idW; omega
    obtain ⟨q, hq1, hq2⟩ := c.lv j j1 j2
    simp only [if_neg hne, upd_ne _ _ hne]
    rw [deaf_others hne, (h5 j j1 j2).1, (h5 j j1 j2).2]
    exact ⟨q, hq1, hq2⟩
  · simp only [if_neg (Ne.symm hy0)] at hb
    have hb' := hst.2 hb
    by_cases e : k = i
    · subst e
      simp only [if_true]
      rintro ⟨_, hbl⟩
      rw [hrun'] at hbl; cases hbl
    · have hne : idW K k ≠ idW K i := fun h => e (idW_inj h)
      simp only [if_neg hne]
      rintro ⟨hrc', hbl⟩
      rw [Dne k e] at hrc'
      exact c.px k hk hp hb' ⟨hrc', (h4 k hk hne).2 hbl⟩
  · by_cases e : k = i
    · subst e; rw [Dsame] at hb; exact hbT b hb
    · rw [Dne k e] at hb; exact hbk' b _ (c.bk k hk b hb)
end
end Go.Proofs.Ytapjmifhhbpikaa

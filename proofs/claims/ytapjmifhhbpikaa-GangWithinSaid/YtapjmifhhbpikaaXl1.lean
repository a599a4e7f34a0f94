/- Gangs within gangs: The gang: lockSlow: its tail: le, la. (Printed by gen_gl.py.) -/
import Derived.Test.YtapjmifhhbpikaaXk
set_option linter.unusedVariables false
set_option linter.unusedSectionVars false
set_option linter.unusedSimpArgs false
namespace Go.Proofs.Ytapjmifhhbpikaa
open Go.Conc Go.ConcN Go.ConcM Go.RowKit Go.Conc.Lib Go.ConcR.Gen
open Go.ConcR (KK wgBlock WgAt stA smA rd wr mk)
/-- What is asked behind Lock. -/
def LockK (A : Nat → Th → Array Value → Goroutine → World → Prop) (K : Band) (W : Snap) (b₁ : Frame) (a₁ : Act) (ops₁ : Array Oper) (i₁ : Nat) (rest₁ : List Nat) (k₁ : List Item) (cs₁ : List Frame) (job : Nat) (blk : List Nat) : Prop :=
  ∀ (k' : Nat) (T : Th) (cs : Array Value), T.pc = .ur → T.job = job → T.blk = blk → cs.size = K.sz → ∃ m, ∀ w, KnS K W w → CAt K cs w →
    GoW Try.prog K T (A k' T (K.put job cs)) m (G (b₁.at (a₁.put ((ops₁[i₁]?).bind (·.dst)) (.tuple #[])) (.inRegion ops₁ rest₁ :: k₁)) cs₁) w
/-- AT lockSlow's LOOP HEAD. -/
def HeadAt (A : Nat → Th → Array Value → Goroutine → World → Prop) (K : Band) (W : Snap) (b₁ : Frame) (a₁ : Act) (ops₁ : Array Oper) (i₁ : Nat) (rest₁ : List Nat) (k₁ : List Item) (cs₁ : List Frame) (v : Array Value) (k : Nat) (T : Th) (wst : Int) : Prop :=
  ∃ m, ∀ (j1 j7 j8 j9 j10 j11 j12 j13 j14 j15 j16 j17 j18 j19 j20 j21 j22 j23 j24 j25 j26 j27 j28 j29 j30 j31 j32 j33 j34 j35 j36 j37 j38 j39 j40 j41 j42 j43 j44 j45 j46 j47 j48 j49 j50 j51 j52 j53 j54 j55 j56 j57 j58 j59 j60 j61 j62 j63 j64 j65 j66 j67 j68 j69 j70 j71 j72 j73 j74 j75 j76 j77 j78 j79 j80 j81 j82 j83 j84 j85 j86 j87 j88 j89 j90 j91 j92 j93 j94 j95 j96 j97 j98 j99 j100 j101 j102 j103 j104 j105 j106 j107 j108 j109 j110 j111 j112 j113 j114 j115 j116 j117 j118 j119 j120 j121 j122 j123 j124 j125 j126 j127 j128 j129 j130 j131 j132 j133 j134 j135 j136 j137 j138 : Value) (w : World), KnS K W w →
    GoW Try.prog K (hd T) (A k (hd T) v) m (G ((base 47).at ⟨#[.pointer (some ⟨K.Mu, 0, none⟩), j1, .int .i64 wst, .bool T.sv, .bool T.aw, .int .i64 (T.it : Int), .int .i32 T.old.num, j7, j8, j9, j10, j11, j12, j13, j14, j15, j16, j17, j18, j19, j20, j21, j22, j23, j24, j25, j26, j27, j28, j29, j30, j31, j32, j33, j34, j35, j36, j37, j38, j39, j40, j41, j42, j43, j44, j45, j46, j47, j48, j49, j50, j51, j52, j53, j54, j55, j56, j57, j58, j59, j60, j61, j62, j63, j64, j65, j66, j67, j68, j69, j70, j71, j72, j73, j74, j75, j76, j77, j78, j79, j80, j81, j82, j83, j84, j85, j86, j87, j88, j89, j90, j91, j92, j93, j94, j95, j96, j97, j98, j99, j100, j101, j102, j103, j104, j105, j106, j107, j108, j109, j110, j111, j112, j113, j114, j115, j116, j117, j118, j119, j120, j121, j122, j123, j124, j125, j126, j127, j128, j129, j130, j131, j132, j133, j134, j135, j136, j137, j138], []⟩ [.code LL47, .inLoop LL47, .inBlock 0, .code REST47]) (b₁.at a₁ (.inRegion ops₁ (i₁ :: rest₁) :: k₁) :: cs₁)) w
/-- .. BEHIND THE SPIN, at 'new := old'. -/
def RestAt (A : Nat → Th → Array Value → Goroutine → World → Prop) (K : Band) (W : Snap) (b₁ : Frame) (a₁ : Act) (ops₁ : Array Oper) (i₁ : Nat) (rest₁ : List Nat) (k₁ : List Item) (cs₁ : List Frame) (v : Array Value) (k : Nat) (T : Th) (wst : Int) : Prop :=
  ∃ m, ∀ (j1 j7 j8 j9 j10 j11 j12 j13 j14 j15 j16 j17 j18 j19 j20 j21 j22 j23 j24 j25 j26 j27 j28 j29 j30 j31 j32 j33 j34 j35 j36 j37 j38 j39 j40 j41 j42 j43 j44 j45 j46 j47 j48 j49 j50 j51 j52 j53 j54 j55 j56 j57 j58 j59 j60 j61 j62 j63 j64 j65 j66 j67 j68 j69 j70 j71 j72 j73 j74 j75 j76 j77 j78 j79 j80 j81 j82 j83 j84 j85 j86 j87 j88 j89 j90 j91 j92 j93 j94 j95 j96 j97 j98 j99 j100 j101 j102 j103 j104 j105 j106 j107 j108 j109 j110 j111 j112 j113 j114 j115 j116 j117 j118 j119 j120 j121 j122 j123 j124 j125 j126 j127 j128 j129 j130 j131 j132 j133 j134 j135 j136 j137 j138 : Value) (w : World), KnS K W w →
    GoW Try.prog K T (A k T v) m (G ((base 47).at ⟨#[.pointer (some ⟨K.Mu, 0, none⟩), j1, .int .i64 wst, .bool T.sv, .bool T.aw, .int .i64 (T.it : Int), .int .i32 T.old.num, j7, j8, j9, j10, j11, j12, j13, j14, j15, j16, j17, j18, j19, j20, j21, j22, j23, j24, j25, j26, j27, j28, j29, j30, j31, j32, j33, j34, j35, j36, j37, j38, j39, j40, j41, j42, j43, j44, j45, j46, j47, j48, j49, j50, j51, j52, j53, j54, j55, j56, j57, j58, j59, j60, j61, j62, j63, j64, j65, j66, j67, j68, j69, j70, j71, j72, j73, j74, j75, j76, j77, j78, j79, j80, j81, j82, j83, j84, j85, j86, j87, j88, j89, j90, j91, j92, j93, j94, j95, j96, j97, j98, j99, j100, j101, j102, j103, j104, j105, j106, j107, j108, j109, j110, j111, j112, j113, j114, j115, j116, j117, j118, j119, j120, j121, j122, j123, j124, j125, j126, j127, j128, j129, j130, j131, j132, j133, j134, j135, j136, j137, j138], []⟩ [.code RESTB47, .inBlock 1, .inLoop LL47, .inBlock 0, .code REST47]) (b₁.at a₁ (.inRegion ops₁ (i₁ :: rest₁) :: k₁) :: cs₁)) w
section
variable {A : Nat → Th → Array Value → Goroutine → World → Prop} {K : Band} [Fam K A] {W : Snap} {b₁ : Frame} {a₁ : Act} {ops₁ : Array Oper} {i₁ : Nat} {rest₁ : List Nat} {k₁ : List Item} {cs₁ : List Frame} {job : Nat} {blk : List Nat} [Own W blk]
set_option maxRecDepth 100000 in
set_option maxHeartbeats 8000000 in
theorem tailGo (hT : LockK A K W b₁ a₁ ops₁ i₁ rest₁ k₁ cs₁ job blk) (v : Array Value) (k : Nat) (old : Mx) (aw sv : Bool) (it : Nat) :
    ∃ m, ∀ (j1 j2 j3 j4 j5 j6 j7 j8 j9 j10 j11 j12 j13 j14 j15 j16 j17 j18 j19 j20 j21 j22 j23 j24 j25 j26 j27 j28 j29 j30 j31 j32 j33 j34 j35 j36 j37 j38 j39 j40 j41 j42 j43 j44 j45 j46 j47 j48 j49 j50 j51 j52 j53 j54 j55 j56 j57 j58 j59 j60 j61 j62 j63 j64 j65 j66 j67 j68 j69 j70 j71 j72 j73 j74 j75 j76 j77 j78 j79 j80 j81 j82 j83 j84 j85 j86 j87 j88 j89 j90 j91 j92 j93 j94 j95 j96 j97 j98 j99 j100 j101 j102 j103 j104 j105 j106 j107 j108 j109 j110 j111 j112 j113 j114 j115 j116 j117 j118 j119 j120 j121 j122 j123 j124 j125 j126 j127 j128 j129 j130 j131 j132 j133 j134 j135 j136 j137 j138 : Value) (w : World), KnS K W w → GoW Try.prog K { pc := .le, old := old, aw := aw, sv := sv, it := it, job := job, blk := blk } (A k { pc := .le, old := old, aw := aw, sv := sv, it := it, job := job, blk := blk } v) m (G ((base 47).at ⟨#[.pointer (some ⟨K.Mu, 0, none⟩), j1, j2, j3, j4, j5, j6, j7, j8, j9, j10, j11, j12, j13, j14, j15, j16, j17, j18, j19, j20, j21, j22, j23, j24, j25, j26, j27, j28, j29, j30, j31, j32, j33, j34, j35, j36, j37, j38, j39, j40, j41, j42, j43, j44, j45, j46, j47, j48, j49, j50, j51, j52, j53, j54, j55, j56, j57, j58, j59, j60, j61, j62, j63, j64, j65, j66, j67, j68, j69, j70, j71, j72, j73, j74, j75, j76, j77, j78, j79, j80, j81, j82, j83, j84, j85, j86, j87, j88, j89, j90, j91, j92, j93, j94, j95, j96, j97, j98, j99, j100, j101, j102, j103, j104, j105, j106, j107, j108, j109, j110, j111, j112, j113, j114, j115, j116, j117, j118, j119, j120, j121, j122, j123, j124, j125, j126, j127, j128, j129, j130, j131, j132, j133, j134, j135, j136, j137, j138], []⟩ [.code REST47]) (b₁.at a₁ (.inRegion ops₁ (i₁ :: rest₁) :: k₁) :: cs₁)) w := by
  refine ⟨60 + 200, fun j1 j2 j3 j4 j5 j6 j7 j8 j9 j10 j11 j12 j13 j14 j15 j16 j17 j18 j19 j20 j21 j22 j23 j24 j25 j26 j27 j28 j29 j30 j31 j32 j33 j34 j35 j36 j37 j38 j39 j40 j41 j42 j43 j44 j45 j46 j47 j48 j49 j50 j51 j52 j53 j54 j55 j56 j57 j58 j59 j60 j61 j62 j63 j64 j65 j66 j67 j68 j69 j70 j71 j72 j73 j74 j75 j76 j77 j78 j79 j80 j81 j82 j83 j84 j85 j86 j87 j88 j89 j90 j91 j92 j93 j94 j95 j96 j97 j98 j99 j100 j101 j102 j103 j104 j105 j106 j107 j108 j109 j110 j111 j112 j113 j114 j115 j116 j117 j118 j119 j120 j121 j122 j123 j124 j125 j126 j127 j128 j129 j130 j131 j132 j133 j134 j135 j136 j137 j138 w hF => goW0 (n := 60) (m := 200) ?_⟩
  generalize hX : REST47 = X
  simp only [REST47, body47, behindBlock, Try.f47, Option.getD_some] at hX
  subst hX
  repeat w_go KnS.rely
  -- STOP le
  refine Goes.stop (fun _ r₁ => ?_)
  replace hF := KnS.rely hF r₁
  clear r₁
  refine Goes.stop (fun _ r₁ => ?_)
  replace hF := KnS.rely hF r₁
  clear r₁
  rcases k with _ | k
  · exact Fam.zero (K := K) _ _ _ _
  refine Fam.succ (K := K) (A := A) ?_
  refine ⟨rfl, rfl, by simp, by simp, by simp, by simp, fun _ s hs hfit _ cs hcs => ⟨_, s, .mu (.le rfl), _, _, _, stepG_mark0 .enable (by simp) rfl rfl (by k_ne) rfl Try.func30 x30_n x30_b x30_x x30_f, hs, EffB.of (Eff.refl _), evw_book (by simp) (by simp) (by simp) (by simp) rfl rfl (book_en 0), ?_⟩⟩
  refine afterW_go (by simp) (by simp) (30 + 200) ?_
  refine goW0 (n := 30) (m := 200) ?_
  walk_nrm
  repeat w_go KnS.rely
  m_convG Try.prog u64_ u78 z48 hF.mu.choose_spec KnS.rely hF
  -- STOP la: IT OWNS
  refine Goes.stop (fun _ r₁ => ?_)
  replace hF := KnS.rely hF r₁
  clear r₁
  refine Goes.stop (fun _ r₁ => ?_)
  replace hF := KnS.rely hF r₁
  clear r₁
  rcases k with _ | k
  · exact Fam.zero (K := K) _ _ _ _
  refine Fam.succ (K := K) (A := A) ?_
  refine ⟨rfl, rfl, by simp, by simp, by simp, by simp, fun _ s hs hfit _ cs hcs => ⟨_, s, .mu (.la rfl), _, _, _, stepG_markAt .acquire (by simp) rfl rfl (by k_ne) rfl Try.func41 x41_n x41_b x41_x x41_f (by simp [Act.eval, muA]), hs, EffB.of (Eff.refl _), rfl, ?_⟩⟩
  obtain ⟨hc1, hc2⟩ := hcs rfl
  replace hF := And.intro hF hc1
  rw [if_pos rfl]
  unfold AfterW
  rw [if_neg (by simp)]
  obtain ⟨mT, hT'⟩ := hT k { pc := .ur, old := old, aw := aw, sv := sv, it := it, job := job, blk := blk } cs rfl rfl rfl hc2
  refine ⟨20 + mT, goW0 (n := 20) (m := mT) ?_⟩
  walk_nrm
  show Goes Try.prog false (RB K true blk) _ _ _ _ _
  repeat w_go koS_rely
  u_leave0 Try.func47 koS_rely hF
  repeat w_go koS_rely
  refine Goes.stop (fun _ r₁ => ?_)
  replace hF := koS_rely hF r₁
  clear r₁
  exact hT' _ hF.1 hF.2
end
end Go.Proofs.Ytapjmifhhbpikaa

/- Gangs within gangs: The gang: the walks' ground: the library's entries; what a goroutine knows; the mutex's word, reckoned. -/
import Derived.Test.YtapjmifhhbpikaaVc
import Derived.Test.YtapjmifhhbpikaaChecked
import Derived.Conc.MuWords
set_option linter.unusedVariables false
set_option linter.unusedSimpArgs false
namespace Go.Proofs.Ytapjmifhhbpikaa
open Go.Conc Go.ConcN Go.ConcM Go.RowKit Go.Conc.Lib Go.ConcR.Gen
open Go.ConcR (KK wgBlock WgAt stA smA rd wr mk)
instance : Go.ConcR.Payload := ⟨3⟩
theorem nm9 : (Try.f9.name == "runtime.NumGoroutine") = false := by kernel_rfl
theorem nm10 : (Try.f10.name == "runtime.NumGoroutine") = false := by kernel_rfl
theorem nm11 : (Try.f11.name == "runtime.NumGoroutine") = false := by kernel_rfl
theorem nm12 : (Try.f12.name == "runtime.NumGoroutine") = false := by kernel_rfl
theorem nm13 : (Try.f13.name == "runtime.NumGoroutine") = false := by kernel_rfl
theorem nm14 : (Try.f14.name == "runtime.NumGoroutine") = false := by kernel_rfl
theorem nm16 : (Try.f16.name == "runtime.NumGoroutine") = false := by kernel_rfl
theorem nm17 : (Try.f17.name == "runtime.NumGoroutine") = false := by kernel_rfl
theorem nm18 : (Try.f18.name == "runtime.NumGoroutine") = false := by kernel_rfl
theorem nm19 : (Try.f19.name == "runtime.NumGoroutine") = false := by kernel_rfl
theorem nm20 : (Try.f20.name == "runtime.NumGoroutine") = false := by kernel_rfl
theorem nm21 : (Try.f21.name == "runtime.NumGoroutine") = false := by kernel_rfl
theorem nm22 : (Try.f22.name == "runtime.NumGoroutine") = false := by kernel_rfl
theorem nm23 : (Try.f23.name == "runtime.NumGoroutine") = false := by kernel_rfl
theorem nm24 : (Try.f24.name == "runtime.NumGoroutine") = false := by kernel_rfl
theorem nm25 : (Try.f25.name == "runtime.NumGoroutine") = false := by kernel_rfl
theorem nm26 : (Try.f26.name == "runtime.NumGoroutine") = false := by kernel_rfl
theorem nm27 : (Try.f27.name == "runtime.NumGoroutine") = false := by kernel_rfl
theorem nm34 : (Try.f34.name == "runtime.NumGoroutine") = false := by kernel_rfl
theorem nm35 : (Try.f35.name == "runtime.NumGoroutine") = false := by kernel_rfl
theorem nm37 : (Try.f37.name == "runtime.NumGoroutine") = false := by kernel_rfl
theorem nm38 : (Try.f38.name == "runtime.NumGoroutine") = false := by kernel_rfl
theorem nm43 : (Try.f43.name == "runtime.NumGoroutine") = false := by kernel_rfl
theorem nm47 : (Try.f47.name == "runtime.NumGoroutine") = false := by kernel_rfl
theorem nm49 : (Try.f49.name == "runtime.NumGoroutine") = false := by kernel_rfl
theorem x28_n : (Try.f28.name == "runtime.NumGoroutine") = false := by kernel_rfl
theorem x28_b : Try.f28.body.isNone = true := by kernel_rfl
theorem x28_x : Extern.findNext Try.f28 = none := by kernel_rfl
theorem x28_f : Extern.find Try.f28 = some (Extern.Race.marked .releaseMerge) := by kernel_rfl
theorem x29_n : (Try.f29.name == "runtime.NumGoroutine") = false := by kernel_rfl
theorem x29_b : Try.f29.body.isNone = true := by kernel_rfl
theorem x29_x : Extern.findNext Try.f29 = none := by kernel_rfl
theorem x29_f : Extern.find Try.f29 = some ((fun _ => do mark .disable; pure Extern.Race.none_)) := by kernel_rfl
theorem x30_n : (Try.f30.name == "runtime.NumGoroutine") = false := by kernel_rfl
theorem x30_b : Try.f30.body.isNone = true := by kernel_rfl
theorem x30_x : Extern.findNext Try.f30 = none := by kernel_rfl
theorem x30_f : Extern.find Try.f30 = some ((fun _ => do mark .enable; pure Extern.Race.none_)) := by kernel_rfl
theorem x31_n : (Try.f31.name == "runtime.NumGoroutine") = false := by kernel_rfl
theorem x31_b : Try.f31.body.isNone = true := by kernel_rfl
theorem x31_x : Extern.findNext Try.f31 = none := by kernel_rfl
theorem x31_f : Extern.find Try.f31 = some ((fun _ => pure (.bool false))) := by kernel_rfl
theorem x36_n : (Try.f36.name == "runtime.NumGoroutine") = false := by kernel_rfl
theorem x36_b : Try.f36.body.isNone = true := by kernel_rfl
theorem x36_x : Extern.findNext Try.f36 = none := by kernel_rfl
theorem x36_f : Extern.find Try.f36 = some ((Extern.Race.marked .read)) := by kernel_rfl
theorem x40_n : (Try.f40.name == "runtime.NumGoroutine") = false := by kernel_rfl
theorem x40_b : Try.f40.body.isNone = true := by kernel_rfl
theorem x40_x : Extern.findNext Try.f40 = none := by kernel_rfl
theorem x40_f : Extern.find Try.f40 = some (Extern.Sync.semrelease) := by kernel_rfl
theorem x41_n : (Try.f41.name == "runtime.NumGoroutine") = false := by kernel_rfl
theorem x41_b : Try.f41.body.isNone = true := by kernel_rfl
theorem x41_x : Extern.findNext Try.f41 = none := by kernel_rfl
theorem x41_f : Extern.find Try.f41 = some ((Extern.Race.marked .acquire)) := by kernel_rfl
theorem x44_n : (Try.f44.name == "runtime.NumGoroutine") = false := by kernel_rfl
theorem x44_b : Try.f44.body.isNone = true := by kernel_rfl
theorem x44_x : Extern.findNext Try.f44 = none := by kernel_rfl
theorem x44_f : Extern.find Try.f44 = some ((Extern.Race.marked .write)) := by kernel_rfl
theorem x45_n : (Try.f45.name == "runtime.NumGoroutine") = false := by kernel_rfl
theorem x45_b : Try.f45.body.isNone = true := by kernel_rfl
theorem x45_x : Extern.findNext Try.f45 = none := by kernel_rfl
theorem x45_f : Extern.find Try.f45 = some (Extern.Sync.semacquire) := by kernel_rfl
theorem x46_n : (Try.f46.name == "runtime.NumGoroutine") = false := by kernel_rfl
theorem x46_b : Try.f46.body.isNone = true := by kernel_rfl
theorem x46_x : Extern.findNext Try.f46 = none := by kernel_rfl
theorem x46_f : Extern.find Try.f46 = some ((Extern.Atomic.casT (.int .i32))) := by kernel_rfl
theorem x48_n : (Try.f48.name == "runtime.NumGoroutine") = false := by kernel_rfl
theorem x48_b : Try.f48.body.isNone = true := by kernel_rfl
theorem x48_x : Extern.findNext Try.f48 = none := by kernel_rfl
theorem x48_f : Extern.find Try.f48 = some ((Extern.Atomic.update (Op.intArith .add) .i32 true)) := by kernel_rfl
theorem x51_n : (Try.f51.name == "runtime.NumGoroutine") = false := by kernel_rfl
theorem x51_b : Try.f51.body.isNone = true := by kernel_rfl
theorem x51_x : Extern.findNext Try.f51 = none := by kernel_rfl
theorem x51_f : Extern.find Try.f51 = some ((Extern.Atomic.update (Op.intArith .add) .u64 true)) := by kernel_rfl
theorem x52_n : (Try.f52.name == "runtime.NumGoroutine") = false := by kernel_rfl
theorem x52_b : Try.f52.body.isNone = true := by kernel_rfl
theorem x52_x : Extern.findNext Try.f52 = none := by kernel_rfl
theorem x52_f : Extern.find Try.f52 = some ((Extern.Atomic.loadT (.int .u64))) := by kernel_rfl
theorem x53_n : (Try.f53.name == "runtime.NumGoroutine") = false := by kernel_rfl
theorem x53_b : Try.f53.body.isNone = true := by kernel_rfl
theorem x53_x : Extern.findNext Try.f53 = none := by kernel_rfl
theorem x53_f : Extern.find Try.f53 = some (Extern.Atomic.storeT) := by kernel_rfl
theorem x54_n : (Try.f54.name == "runtime.NumGoroutine") = false := by kernel_rfl
theorem x54_b : Try.f54.body.isNone = true := by kernel_rfl
theorem x54_x : Extern.findNext Try.f54 = none := by kernel_rfl
theorem x54_f : Extern.find Try.f54 = some ((Extern.Atomic.casT (.int .u64))) := by kernel_rfl
theorem x55_n : (Try.f55.name == "runtime.NumGoroutine") = false := by kernel_rfl
theorem x55_b : Try.f55.body.isNone = true := by kernel_rfl
theorem x55_x : Extern.findNext Try.f55 = none := by kernel_rfl
theorem x55_f : Extern.find Try.f55 = some (Extern.Sync.canSpin) := by kernel_rfl
theorem x56_n : (Try.f56.name == "runtime.NumGoroutine") = false := by kernel_rfl
theorem x56_b : Try.f56.body.isNone = true := by kernel_rfl
theorem x56_x : Extern.findNext Try.f56 = none := by kernel_rfl
theorem x56_f : Extern.find Try.f56 = some ((fun _ => pure (.tuple #[]))) := by kernel_rfl
theorem x58_n : (Try.f58.name == "runtime.NumGoroutine") = false := by kernel_rfl
theorem x58_b : Try.f58.body.isNone = true := by kernel_rfl
theorem x58_x : Extern.findNext Try.f58 = none := by kernel_rfl
theorem x58_f : Extern.find Try.f58 = some (Extern.OsHooks.nano) := by kernel_rfl
theorem x59_n : (Try.f59.name == "runtime.NumGoroutine") = false := by kernel_rfl
theorem x59_b : Try.f59.body.isNone = true := by kernel_rfl
theorem x59_x : Extern.findNext Try.f59 = none := by kernel_rfl
theorem x59_f : Extern.find Try.f59 = some (Extern.Sync.semacquire) := by kernel_rfl
theorem x61_n : (Try.f61.name == "runtime.NumGoroutine") = false := by kernel_rfl
theorem x61_b : Try.f61.body.isNone = true := by kernel_rfl
theorem x61_x : Extern.findNext Try.f61 = none := by kernel_rfl
theorem x61_f : Extern.find Try.f61 = some (Extern.Sync.semrelease) := by kernel_rfl
theorem x58_q : Try.f58.norace = true := by kernel_rfl
theorem u64_ : Try.prog.underlying 64 = some .unsafePointer := Try.underlying64
theorem u78 : Try.prog.underlying 78 = some (.pointer 48) := Try.underlying78
theorem u62 : Try.prog.underlying 62 = some (.pointer 60) := Try.underlying62
theorem z48 : (Try.prog.info? 48).map (fun i => decide (i.size = 0)) = some false := by kernel_rfl
theorem z60 : (Try.prog.info? 60).map (fun i => decide (i.size = 0)) = some false := by kernel_rfl
theorem z46 : (Try.prog.info? 46).map (fun i => decide (i.size = 0)) = some false := by kernel_rfl
theorem q26 : (Try.prog.funcs[(base 26).fn]?).any (·.norace) = true := by kernel_rfl
theorem q27 : (Try.prog.funcs[(base 27).fn]?).any (·.norace) = true := by kernel_rfl
theorem q27D : (Try.prog.funcs[(baseD 27).fn]?).any (·.norace) = true := by kernel_rfl
theorem q47 : (Try.prog.funcs[(base 47).fn]?).any (·.norace) = true := by kernel_rfl
theorem q49 : (Try.prog.funcs[(base 49).fn]?).any (·.norace) = true := by kernel_rfl
section
variable {main : Bool} {b : Frame} {a : Act} {kk : List Item} {cs : List Frame} {w : World} {ops : Array Oper} {i : Nat} {rest : List Nat} {o : Oper}
/-- A PLAIN LOAD OF AN int32 IN A FUNCTION THAT IS 'norace': nothing reaches the trace. -/
theorem stepG_loadQ {x : Operand} (ho : ops[i]? = some o) (hw : Region.wanted o (yielded ops a.tmps) = true) (hk : b.kind ≠ .early) (hop : o.op = .load 21 x)
    {ad : Addr} {v : Int} (hx : a.eval x = .pointer (some ad)) (hc : w.cell? ad = some (.int .i32 v)) (hq : (Try.prog.funcs[b.fn]?).any (·.norace) = true) :
    stepG Try.prog main (G (b.at a (.inRegion ops (i :: rest) :: kk)) cs) w = .go (G (b.at (a.put o.dst (.int .i32 v)) (.inRegion ops rest :: kk)) cs) w #[] := by
  have hr : (execOp a.eval o).run Try.prog w = .ok (.value (.int .i32 v)) w := by
    unfold execOp
    simp only [hop, hx]
    simp [go_sem, hc]
  have he : (execOp a.eval o).events Try.prog w #[] = #[⟨.cell ad, false, false⟩] := by
    unfold execOp
    simp only [hop, hx]
    simp [go_sem, hc]
  rw [stepG_value ho hw hk hr]
  unfold listed
  rw [he, seen_def, hq]
  simp [seenStep]
end
/-! ### the mutex's word, reckoned -/
theorem and_low (x c : Nat) (hc : c < 8) : x &&& c = (x % 8) &&& c := by
  have h7 : x &&& 7 = x % 8 := Nat.and_two_pow_sub_one_eq_mod x 3
  have hc7 : 7 &&& c = c := by
    rw [Nat.and_comm]
    have := Nat.and_two_pow_sub_one_eq_mod c 3
    rw [show (2 : Nat) ^ 3 - 1 = 7 from rfl] at this
    rw [this]; exact Nat.mod_eq_of_lt hc
  rw [← h7, Nat.and_assoc, hc7]
theorem or_low (k a c : Nat) (ha : a < 8) (hc : c < 8) : (a + 8 * k) ||| c = (a ||| c) + 8 * k := by
  have e1 : a + 8 * k = 8 * k ||| a := by
    have := Nat.two_pow_add_eq_or_of_lt (i := 3) (b := a) ha k
    rw [show (2 : Nat) ^ 3 = 8 from rfl] at this
    omega
  have hac : a ||| c < 2 ^ 3 := Nat.or_lt_two_pow ha hc
  have := Nat.two_pow_add_eq_or_of_lt (i := 3) (b := a ||| c) hac k
  rw [show (2 : Nat) ^ 3 = 8 from rfl] at this
  rw [e1, Nat.or_assoc, ← this]
  omega
def lowN (L W S : Bool) : Nat := L.toNat + 2 * W.toNat + 4 * S.toNat
theorem lowN_lt (L W S : Bool) : lowN L W S < 8 := by cases L <;> cases W <;> cases S <;> decide
theorem num_low (L W S : Bool) (k : Nat) : Mx.num ⟨L, W, S, k⟩ = ((lowN L W S + 8 * k : Nat) : Int) := rfl
theorem bn31 (a b : Nat) (ha : a < 2147483648) (hb : b < 2147483648) : bits .and .i32 a b = ((a &&& b : Nat) : Int) ∧ bits .or .i32 a b = ((a ||| b : Nat) : Int) := bits_nat .i32 31 (by decide) wraps_i32 a b ha hb
theorem num_and (L W S : Bool) (k c : Nat) (hk : k < 10000) (hc : c < 8) : bits .and .i32 (Mx.num ⟨L, W, S, k⟩) (c : Int) = ((lowN L W S &&& c : Nat) : Int) := by
  have h1 := lowN_lt L W S
  rw [num_low, (bn31 _ _ (by omega) (by omega)).1, and_low _ c hc]
  have : (lowN L W S + 8 * k) % 8 = lowN L W S := by omega
  rw [this]
theorem num_or (L W S : Bool) (k c : Nat) (hk : k < 10000) (hc : c < 8) : bits .or .i32 (Mx.num ⟨L, W, S, k⟩) (c : Int) = (((lowN L W S ||| c) + 8 * k : Nat) : Int) := by
  have h1 := lowN_lt L W S
  rw [num_low, (bn31 _ _ (by omega) (by omega)).2, or_low k _ c h1 hc]
theorem num_or1 (L W S : Bool) (k : Nat) (hk : k < 10000) : bits .or .i32 (Mx.num ⟨L, W, S, k⟩) 1 = Mx.num ⟨true, W, S, k⟩ := by
  rw [show (1 : Int) = ((1 : Nat) : Int) from rfl, num_or L W S k 1 hk (by decide), num_low]
  cases L <;> cases W <;> cases S <;> rfl
theorem num_or2 (L W S : Bool) (k : Nat) (hk : k < 10000) : bits .or .i32 (Mx.num ⟨L, W, S, k⟩) 2 = Mx.num ⟨L, true, S, k⟩ := by
  rw [show (2 : Int) = ((2 : Nat) : Int) from rfl, num_or L W S k 2 hk (by decide), num_low]
  cases L <;> cases W <;> cases S <;> rfl
theorem num_or4 (L W S : Bool) (k : Nat) (hk : k < 10000) : bits .or .i32 (Mx.num ⟨L, W, S, k⟩) 4 = Mx.num ⟨L, W, true, k⟩ := by
  rw [show (4 : Int) = ((4 : Nat) : Int) from rfl, num_or L W S k 4 hk (by decide), num_low]
  cases L <;> cases W <;> cases S <;> rfl
theorem num_add8 (L W S : Bool) (k : Nat) (hk : k < 10000) : IntKind.i32.wrap (Mx.num ⟨L, W, S, k⟩ + 8) = Mx.num ⟨L, W, S, k + 1⟩ := by
  have h1 := lowN_lt L W S
  rw [num_low, num_low, wraps_i32 _ (by omega) (by omega)]
  omega
theorem num_sub8 (L W S : Bool) (k : Nat) (hk : k < 10000) : IntKind.i32.wrap (Mx.num ⟨L, W, S, k + 1⟩ - 8) = Mx.num ⟨L, W, S, k⟩ := by
  have h1 := lowN_lt L W S
  rw [num_low, num_low, wraps_i32 _ (by omega) (by omega)]
  omega
theorem num_unl (W S : Bool) (k : Nat) (hk : k < 10000) : IntKind.i32.wrap (Mx.num ⟨true, W, S, k⟩ + -1) = Mx.num ⟨false, W, S, k⟩ := by
  have h1 := lowN_lt false W S
  have h2 : lowN true W S = lowN false W S + 1 := by cases W <;> cases S <;> rfl
  rw [num_low, num_low, h2, wraps_i32 _ (by omega) (by omega)]
  omega
theorem num_rel (W S : Bool) (k : Nat) (hk : k < 10000) : IntKind.i32.wrap (Mx.num ⟨false, W, S, k⟩ + 1) = Mx.num ⟨true, W, S, k⟩ := by
  have h1 := lowN_lt false W S
  have h2 : lowN true W S = lowN false W S + 1 := by cases W <;> cases S <;> rfl
  rw [num_low, num_low, h2, wraps_i32 _ (by omega) (by omega)]
  omega
theorem num_m7 (k : Nat) (hk : k < 10000) : IntKind.i32.wrap (Mx.num ⟨false, false, true, k + 1⟩ + -7) = Mx.num ⟨true, false, true, k⟩ := by
  rw [num_low, num_low, show lowN false false true = 4 from rfl, show lowN true false true = 5 from rfl, wraps_i32 _ (by omega) (by omega)]
  omega
theorem num_m11 (k : Nat) (hk : k < 10000) : IntKind.i32.wrap (Mx.num ⟨false, false, true, k + 1⟩ + -11) = Mx.num ⟨true, false, false, k⟩ := by
  rw [num_low, num_low, show lowN false false true = 4 from rfl, show lowN true false false = 1 from rfl, wraps_i32 _ (by omega) (by omega)]
  omega
theorem num_shr (L W S : Bool) (k : Nat) : Mx.num ⟨L, W, S, k⟩ / 8 = (k : Int) := by
  have h1 := lowN_lt L W S
  rw [num_low]; omega
theorem bv_keep (X b : BitVec 32) (h : X &&& b = 0#32) : X &&& ~~~b = X := by
  apply BitVec.eq_of_getElem_eq
  intro i hi
  have := congrArg (fun v : BitVec 32 => v[i]) h
  simp at this ⊢
  exact this
theorem bv_clr (X b : BitVec 32) (h : X &&& b = 0#32) : (X ||| b) &&& ~~~b = X := by
  apply BitVec.eq_of_getElem_eq
  intro i hi
  have := congrArg (fun v : BitVec 32 => v[i]) h
  simp at this ⊢
  revert this
  cases X[i] <;> cases b[i] <;> simp
theorem num_clr (L W S : Bool) (k : Nat) (hk : k < 10000) : bits .andNot .i32 (Mx.num ⟨L, W, S, k⟩) 2 = Mx.num ⟨L, false, S, k⟩ := by
  have h1 := lowN_lt L W S
  have h2 := lowN_lt L false S
  have key : (BitVec.ofNat 32 (lowN L W S + 8 * k) &&& ~~~(2#32)) = BitVec.ofNat 32 (lowN L false S + 8 * k) := by
    have hz : BitVec.ofNat 32 (lowN L false S + 8 * k) &&& 2#32 = 0#32 := by
      apply BitVec.eq_of_toNat_eq
      rw [BitVec.toNat_and, BitVec.toNat_ofNat, BitVec.toNat_ofNat, Nat.mod_eq_of_lt (by omega)]
      show (lowN L false S + 8 * k) &&& 2 = 0
      rw [and_low _ 2 (by decide), show (lowN L false S + 8 * k) % 8 = lowN L false S by omega]
      cases L <;> cases S <;> rfl
    cases W with
    | false => exact bv_keep _ _ hz
    | true =>
      have e : BitVec.ofNat 32 (lowN L true S + 8 * k) = BitVec.ofNat 32 (lowN L false S + 8 * k) ||| 2#32 := by
        apply BitVec.eq_of_toNat_eq
        rw [BitVec.toNat_or, BitVec.toNat_ofNat, BitVec.toNat_ofNat, Nat.mod_eq_of_lt (by omega), Nat.mod_eq_of_lt (by omega)]
        show _ = (lowN L false S + 8 * k) ||| 2
        rw [or_low k _ 2 h2 (by decide)]
        cases L <;> cases S <;> rfl
      rw [e]
      exact bv_clr _ _ hz
  show IntKind.i32.wrap ((BitVec.ofInt 32 (Mx.num ⟨L, W, S, k⟩) &&& ~~~(2#32)).toNat : Int) = _
  rw [num_low, num_low, BitVec.ofInt_natCast, key, BitVec.toNat_ofNat, Nat.mod_eq_of_lt (by omega)]
  exact wraps_i32 _ (by omega) (by omega)
theorem num_zero : Mx.num .zero = 0 := rfl
theorem num_ne {a b : Mx} (h : a ≠ b) : ¬ a.num = b.num := fun e => h (Mx.num_inj e)
end Go.Proofs.Ytapjmifhhbpikaa

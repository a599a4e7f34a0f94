/- The crew as plain Lean: its state, its steps. -/
import Derived.WalkKit
set_option linter.unusedVariables false
set_option linter.unusedSimpArgs false
namespace Go.Proofs.YtladmconpolneaaGreat.Cr
/-- Who did what, with which job. -/
structure Ev where
  actor : Nat
  what : Nat
  job : Int
deriving DecidableEq
structure St where
  jobs : Nat
  sent : Nat
  ch : List Nat
  closed : Bool
  ws : List (Nat × Int)
  locked : Int
  ev : List Ev
def St.tell (s : St) (a wh : Nat) (j : Int) : St := { s with ev := s.ev ++ [⟨a, wh, j⟩] }
def St.setW (s : St) (i n : Nat) (j : Int) : St := { s with ws := s.ws.set i (n, j) }
def St.w (s : St) (a : Nat) : Nat × Int := s.ws.getD (a - 1) (8, 0)
def St.ended (s : St) : Bool := s.ws.all fun w => w.1 == 8
def St.can (s : St) (a : Nat) : Bool :=
  if a = 0 then (if s.sent < s.jobs then decide (s.ch.length < s.ws.length) else !s.closed || s.ended)
  else if (s.w a).1 = 3 then s.closed || decide (0 < s.ch.length)
  else if (s.w a).1 = 5 then s.locked == -1
  else if (s.w a).1 = 8 then false else true
def St.send (s : St) : St := { (s.tell 0 0 s.sent) with ch := s.ch ++ [s.sent], sent := s.sent + 1 }
def St.close (s : St) : St := { (s.tell 0 1 (-1)) with closed := true }
def St.done (s : St) : St := s.tell 0 2 (-1)
def St.over (s : St) : Bool := !decide (s.sent < s.jobs) && s.closed
def St.lead (s : St) : St := if s.sent < s.jobs then s.send else if s.closed = false then s.close else s.done
def St.work (s : St) (a : Nat) : St :=
  if (s.w a).1 = 3 then
    match s.ch with
    | [] => (s.setW (a - 1) 8 (s.w a).2).tell a 8 (-1)
    | j :: r => { (s.setW (a - 1) 4 j).tell a 3 j with ch := r }
  else if (s.w a).1 = 4 then (s.setW (a - 1) 5 (s.w a).2).tell a 4 (s.w a).2
  else if (s.w a).1 = 5 then { (s.setW (a - 1) 6 (s.w a).2).tell a 5 (s.w a).2 with locked := a }
  else if (s.w a).1 = 6 then (s.setW (a - 1) 7 (s.w a).2).tell a 6 (s.w a).2
  else if (s.w a).1 = 7 then { (s.setW (a - 1) 3 (s.w a).2).tell a 7 (s.w a).2 with locked := -1 }
  else s
def St.step (s : St) (a : Nat) : St := if a = 0 then s.lead else s.work a
def St.able (s : St) : List Nat := (List.range (s.ws.length + 1)).filter s.can
/-- Which of so many a pick tells. -/
def place (pick : Int) (n : Nat) : Nat := if pick = -9223372036854775808 then 0 else pick.natAbs % n
def pickAt (picks : List Int) (step n : Nat) : Nat := if step < picks.length then place (picks.getD step 0) n else 0
def St.next (s : St) (picks : List Int) : Nat := s.able.getD (pickAt picks s.ev.length s.able.length) 0
def start (jobs workers : Nat) : St := ⟨jobs, 0, [], false, List.replicate workers (3, -1), -1, []⟩
end Go.Proofs.YtladmconpolneaaGreat.Cr

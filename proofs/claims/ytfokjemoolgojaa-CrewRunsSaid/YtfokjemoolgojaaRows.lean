/-
  No cell of these rows narrows 'for every input' (looked for: loops, veiled, ifaces, maps, wideKeys, modest, calm, conditions, laid).
  DERIVED. THE GIVEN ROWS OF THIS SEAT. 6 by the template 'for every input the law returns true; each argument reads behind the call as it read before'; 0 by the template 'total and deterministic' (their statements: YtfokjemoolgojaaTotals.lean).
  GIVEN WITH THE SEED: the statements are not yours to turn. If you find one false, say at which input.
  Laid BY PROGRAM, IN A SANDBOX (cutbox-rows.mjs): the forced cells as the released guide's own fill.sh prints them over the translation 847af63a62e27425… (all of the seat's roots in one cut). By AI agents, Wed Nov 11 2026. No macro, syntax, notation, axiom, sorry.
-/
import Derived.Test.YtfokjemoolgojaaChecked
import GoSem.Claim
import GoSem.ClaimJoined
import GoSem.ClaimMapViews
import Derived.JoinedTies
import Derived.KernelRfl
namespace Go.Proofs.Ytfokjemoolgojaa
/- THE CELL 'sum', in the pinned program and in every row, IS THE sha256 OF THE DUMP (.gsa) THAT YtfokjemoolgojaaProg.lean LOADS. Nothing in Lean hashes anything: it is a label: what it is worth is what the hold of that sum in a sandbox is worth. -/
noncomputable def Try.pinned : Pinned := { name := "ytfokjemoolgojaa", sum := "847af63a62e27425e2a6dd1b1c27a67a32058e8421ba8d6a2d71b468f3e6fa18", checked := Try.checked }
namespace Rows
def none {H : Type} : Left H := { results := [], args := [] }

/-- 'shelterbeltlaw18.CrewRuns': WHATEVER THE INPUT: true; the input reads as it did. -/
def crewRunsSpec : ChangeSpec := { name := "crewRuns", fn := fun _ => fun
  | [d1, d2, d3] => { results := [.lit (.bool true)], args := [d1, d2, d3] }
  | _ => none }
def crewRunsRow : OpenClaim := { program := "ytfokjemoolgojaa", sum := "847af63a62e27425e2a6dd1b1c27a67a32058e8421ba8d6a2d71b468f3e6fa18", func := "shelterbelt/shelterbeltlaw18.CrewRuns", spec := "crewRuns", unfollowed := true, recurses := true, apart := false }
def CrewRunsSaid : Prop := crewRunsRow.holds Try.pinned (OpenSpec.ofChange crewRunsSpec)

/-- ITS FALSE NEIGHBOUR: 'it returns false'. Refute it at one input. -/
def crewRunsWrong : ChangeSpec := { name := "crewRuns", fn := fun _ => fun
  | [d1, d2, d3] => { results := [.lit (.bool false)], args := [d1, d2, d3] }
  | _ => none }
def CrewRunsWrongFalsely : Prop := crewRunsRow.holds Try.pinned (OpenSpec.ofChange crewRunsWrong)

/-- 'shelterbeltlaw18.CrewEnds': WHATEVER THE INPUT: true; the input reads as it did. -/
def crewEndsSpec : ChangeSpec := { name := "crewEnds", fn := fun _ => fun
  | [d1, d2, d3] => { results := [.lit (.bool true)], args := [d1, d2, d3] }
  | _ => none }
def crewEndsRow : OpenClaim := { program := "ytfokjemoolgojaa", sum := "847af63a62e27425e2a6dd1b1c27a67a32058e8421ba8d6a2d71b468f3e6fa18", func := "shelterbelt/shelterbeltlaw18.CrewEnds", spec := "crewEnds", unfollowed := true, recurses := true, apart := false }
def CrewEndsSaid : Prop := crewEndsRow.holds Try.pinned (OpenSpec.ofChange crewEndsSpec)

/-- ITS FALSE NEIGHBOUR: 'it returns false'. Refute it at one input. -/
def crewEndsWrong : ChangeSpec := { name := "crewEnds", fn := fun _ => fun
  | [d1, d2, d3] => { results := [.lit (.bool false)], args := [d1, d2, d3] }
  | _ => none }
def CrewEndsWrongFalsely : Prop := crewEndsRow.holds Try.pinned (OpenSpec.ofChange crewEndsWrong)

/-- 'shelterbeltlaw18.CrewLocks': WHATEVER THE INPUT: true; the input reads as it did. -/
def crewLocksSpec : ChangeSpec := { name := "crewLocks", fn := fun _ => fun
  | [d1, d2, d3] => { results := [.lit (.bool true)], args := [d1, d2, d3] }
  | _ => none }
def crewLocksRow : OpenClaim := { program := "ytfokjemoolgojaa", sum := "847af63a62e27425e2a6dd1b1c27a67a32058e8421ba8d6a2d71b468f3e6fa18", func := "shelterbelt/shelterbeltlaw18.CrewLocks", spec := "crewLocks", unfollowed := true, recurses := true, apart := false }
def CrewLocksSaid : Prop := crewLocksRow.holds Try.pinned (OpenSpec.ofChange crewLocksSpec)

/-- ITS FALSE NEIGHBOUR: 'it returns false'. Refute it at one input. -/
def crewLocksWrong : ChangeSpec := { name := "crewLocks", fn := fun _ => fun
  | [d1, d2, d3] => { results := [.lit (.bool false)], args := [d1, d2, d3] }
  | _ => none }
def CrewLocksWrongFalsely : Prop := crewLocksRow.holds Try.pinned (OpenSpec.ofChange crewLocksWrong)

/-- 'shelterbeltlaw18.CrewOrders': WHATEVER THE INPUT: true; the input reads as it did. -/
def crewOrdersSpec : ChangeSpec := { name := "crewOrders", fn := fun _ => fun
  | [d1, d2, d3] => { results := [.lit (.bool true)], args := [d1, d2, d3] }
  | _ => none }
def crewOrdersRow : OpenClaim := { program := "ytfokjemoolgojaa", sum := "847af63a62e27425e2a6dd1b1c27a67a32058e8421ba8d6a2d71b468f3e6fa18", func := "shelterbelt/shelterbeltlaw18.CrewOrders", spec := "crewOrders", unfollowed := true, recurses := true, apart := false }
def CrewOrdersSaid : Prop := crewOrdersRow.holds Try.pinned (OpenSpec.ofChange crewOrdersSpec)

/-- ITS FALSE NEIGHBOUR: 'it returns false'. Refute it at one input. -/
def crewOrdersWrong : ChangeSpec := { name := "crewOrders", fn := fun _ => fun
  | [d1, d2, d3] => { results := [.lit (.bool false)], args := [d1, d2, d3] }
  | _ => none }
def CrewOrdersWrongFalsely : Prop := crewOrdersRow.holds Try.pinned (OpenSpec.ofChange crewOrdersWrong)

/-- 'shelterbeltlaw18.CrewAlone': WHATEVER THE INPUT: true; the input reads as it did. -/
def crewAloneSpec : ChangeSpec := { name := "crewAlone", fn := fun _ => fun
  | [d1, d2, d3] => { results := [.lit (.bool true)], args := [d1, d2, d3] }
  | _ => none }
def crewAloneRow : OpenClaim := { program := "ytfokjemoolgojaa", sum := "847af63a62e27425e2a6dd1b1c27a67a32058e8421ba8d6a2d71b468f3e6fa18", func := "shelterbelt/shelterbeltlaw18.CrewAlone", spec := "crewAlone", unfollowed := true, recurses := true, apart := false }
def CrewAloneSaid : Prop := crewAloneRow.holds Try.pinned (OpenSpec.ofChange crewAloneSpec)

/-- ITS FALSE NEIGHBOUR: 'it returns false'. Refute it at one input. -/
def crewAloneWrong : ChangeSpec := { name := "crewAlone", fn := fun _ => fun
  | [d1, d2, d3] => { results := [.lit (.bool false)], args := [d1, d2, d3] }
  | _ => none }
def CrewAloneWrongFalsely : Prop := crewAloneRow.holds Try.pinned (OpenSpec.ofChange crewAloneWrong)

/-- 'shelterbeltlaw18.CrewPicks': WHATEVER THE INPUT: true; the input reads as it did. -/
def crewPicksSpec : ChangeSpec := { name := "crewPicks", fn := fun _ => fun
  | [d1, d2, d3, d4] => { results := [.lit (.bool true)], args := [d1, d2, d3, d4] }
  | _ => none }
def crewPicksRow : OpenClaim := { program := "ytfokjemoolgojaa", sum := "847af63a62e27425e2a6dd1b1c27a67a32058e8421ba8d6a2d71b468f3e6fa18", func := "shelterbelt/shelterbeltlaw18.CrewPicks", spec := "crewPicks", unfollowed := true, recurses := true, apart := false }
def CrewPicksSaid : Prop := crewPicksRow.holds Try.pinned (OpenSpec.ofChange crewPicksSpec)

/-- ITS FALSE NEIGHBOUR: 'it returns false'. Refute it at one input. -/
def crewPicksWrong : ChangeSpec := { name := "crewPicks", fn := fun _ => fun
  | [d1, d2, d3, d4] => { results := [.lit (.bool false)], args := [d1, d2, d3, d4] }
  | _ => none }
def CrewPicksWrongFalsely : Prop := crewPicksRow.holds Try.pinned (OpenSpec.ofChange crewPicksWrong)

/- THE SECOND FORM. 'bulk': how many values and letters a reading holds, each counted each time it is reached (what is shared counts as often as it is met; a slice's spare places count too). A statement '..UptoSaid' is the law's where the arguments, and the package variables that the reading takes, are together of bulk at most 1048576: NARROWER than '..Said'. Prove '..Said' where nothing that the law and all that it calls make is longer than what came in: it says more and counts as full. Else prove '..UptoSaid'. A law counts once. -/
mutual
def uptoBulk {H : Type} : DataW H → Nat
  | .lit (.string bytes) => bytes.length + 1
  | .lit _ => 1
  | .nil => 1
  | .ptr d => uptoBulk d + 1
  | .slice elems spare => uptoBulkAll elems + uptoBulkAll spare + 1
  | .agg parts => uptoBulkAll parts + 1
  | .iface _ d => uptoBulk d + 1
  | .map entries => uptoBulkEntries entries + 1
  | .held _ => 1
def uptoBulkAll {H : Type} : List (DataW H) → Nat
  | [] => 0
  | d :: r => uptoBulk d + uptoBulkAll r
def uptoBulkEntries {H : Type} : List (Lit × DataW H) → Nat
  | [] => 0
  | x :: r => uptoBulkEntry x + uptoBulkEntries r
def uptoBulkEntry {H : Type} : Lit × DataW H → Nat
  | (.string bytes, d) => bytes.length + uptoBulk d + 1
  | (_, d) => uptoBulk d + 1
 end
def uptoSmall : (H : Type) → List (DataW H) → Bool := fun _ ds => decide (uptoBulkAll ds ≤ 1048576)
def OpenSpec.upto (s : _root_.Go.ChangeSpec) : _root_.Go.OpenSpec := { _root_.Go.OpenSpec.ofChange s with cond := some uptoSmall }

/-- 'shelterbeltlaw18.CrewRuns', WHERE WHAT IT READS IS OF BULK AT MOST 1048576: true; the input reads as it did. -/
def crewRunsUptoRow : OpenClaim := { program := "ytfokjemoolgojaa", sum := "847af63a62e27425e2a6dd1b1c27a67a32058e8421ba8d6a2d71b468f3e6fa18", func := "shelterbelt/shelterbeltlaw18.CrewRuns", spec := "crewRuns", unfollowed := true, recurses := true, apart := false, narrowed := true }
def CrewRunsUptoSaid : Prop := crewRunsUptoRow.holds Try.pinned (OpenSpec.upto crewRunsSpec)

/-- 'shelterbeltlaw18.CrewEnds', WHERE WHAT IT READS IS OF BULK AT MOST 1048576: true; the input reads as it did. -/
def crewEndsUptoRow : OpenClaim := { program := "ytfokjemoolgojaa", sum := "847af63a62e27425e2a6dd1b1c27a67a32058e8421ba8d6a2d71b468f3e6fa18", func := "shelterbelt/shelterbeltlaw18.CrewEnds", spec := "crewEnds", unfollowed := true, recurses := true, apart := false, narrowed := true }
def CrewEndsUptoSaid : Prop := crewEndsUptoRow.holds Try.pinned (OpenSpec.upto crewEndsSpec)

/-- 'shelterbeltlaw18.CrewLocks', WHERE WHAT IT READS IS OF BULK AT MOST 1048576: true; the input reads as it did. -/
def crewLocksUptoRow : OpenClaim := { program := "ytfokjemoolgojaa", sum := "847af63a62e27425e2a6dd1b1c27a67a32058e8421ba8d6a2d71b468f3e6fa18", func := "shelterbelt/shelterbeltlaw18.CrewLocks", spec := "crewLocks", unfollowed := true, recurses := true, apart := false, narrowed := true }
def CrewLocksUptoSaid : Prop := crewLocksUptoRow.holds Try.pinned (OpenSpec.upto crewLocksSpec)

/-- 'shelterbeltlaw18.CrewOrders', WHERE WHAT IT READS IS OF BULK AT MOST 1048576: true; the input reads as it did. -/
def crewOrdersUptoRow : OpenClaim := { program := "ytfokjemoolgojaa", sum := "847af63a62e27425e2a6dd1b1c27a67a32058e8421ba8d6a2d71b468f3e6fa18", func := "shelterbelt/shelterbeltlaw18.CrewOrders", spec := "crewOrders", unfollowed := true, recurses := true, apart := false, narrowed := true }
def CrewOrdersUptoSaid : Prop := crewOrdersUptoRow.holds Try.pinned (OpenSpec.upto crewOrdersSpec)

/-- 'shelterbeltlaw18.CrewAlone', WHERE WHAT IT READS IS OF BULK AT MOST 1048576: true; the input reads as it did. -/
def crewAloneUptoRow : OpenClaim := { program := "ytfokjemoolgojaa", sum := "847af63a62e27425e2a6dd1b1c27a67a32058e8421ba8d6a2d71b468f3e6fa18", func := "shelterbelt/shelterbeltlaw18.CrewAlone", spec := "crewAlone", unfollowed := true, recurses := true, apart := false, narrowed := true }
def CrewAloneUptoSaid : Prop := crewAloneUptoRow.holds Try.pinned (OpenSpec.upto crewAloneSpec)

/-- 'shelterbeltlaw18.CrewPicks', WHERE WHAT IT READS IS OF BULK AT MOST 1048576: true; the input reads as it did. -/
def crewPicksUptoRow : OpenClaim := { program := "ytfokjemoolgojaa", sum := "847af63a62e27425e2a6dd1b1c27a67a32058e8421ba8d6a2d71b468f3e6fa18", func := "shelterbelt/shelterbeltlaw18.CrewPicks", spec := "crewPicks", unfollowed := true, recurses := true, apart := false, narrowed := true }
def CrewPicksUptoSaid : Prop := crewPicksUptoRow.holds Try.pinned (OpenSpec.upto crewPicksSpec)

end Rows
end Go.Proofs.Ytfokjemoolgojaa

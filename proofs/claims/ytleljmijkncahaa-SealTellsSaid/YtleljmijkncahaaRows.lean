/-
  No cell of these rows narrows 'for every input' (looked for: loops, veiled, ifaces, maps, wideKeys, modest, calm, conditions, laid).
  DERIVED. THE GIVEN ROWS OF THIS SEAT. 13 by the template 'for every input the law returns true; each argument reads behind the call as it read before'; 0 by the template 'total and deterministic' (their statements: YtleljmijkncahaaTotals.lean).
  GIVEN WITH THE SEED: the statements are not yours to turn. If you find one false, say at which input.
  Laid BY PROGRAM, IN A SANDBOX (cutbox-rows.mjs): the forced cells as the released guide's own fill.sh prints them over the translation 3b0e131f1b4eed22… (all of the seat's roots in one cut). By AI agents, Wed Nov 11 2026. No macro, syntax, notation, axiom, sorry.
-/
import Derived.Test.YtleljmijkncahaaChecked
import GoSem.Claim
import GoSem.ClaimJoined
import GoSem.ClaimMapViews
import Derived.JoinedTies
import Derived.KernelRfl
namespace Go.Proofs.Ytleljmijkncahaa
/- THE CELL 'sum', in the pinned program and in every row, IS THE sha256 OF THE DUMP (.gsa) THAT YtleljmijkncahaaProg.lean LOADS. Nothing in Lean hashes anything: it is a label: what it is worth is what the hold of that sum in a sandbox is worth. -/
noncomputable def Try.pinned : Pinned := { name := "ytleljmijkncahaa", sum := "3b0e131f1b4eed22ed143e508f9f4684542ee25fed0773965319a678013f8b03", checked := Try.checked }
namespace Rows
def none {H : Type} : Left H := { results := [], args := [] }

/-- 'shelterbeltlaw01.FieldBack': WHATEVER THE INPUT: true; the input reads as it did. -/
def fieldBackSpec : ChangeSpec := { name := "fieldBack", fn := fun _ => fun
  | [d1, d2, d3, d4] => { results := [.lit (.bool true)], args := [d1, d2, d3, d4] }
  | _ => none }
def fieldBackRow : OpenClaim := { program := "ytleljmijkncahaa", sum := "3b0e131f1b4eed22ed143e508f9f4684542ee25fed0773965319a678013f8b03", func := "shelterbelt/shelterbeltlaw01.FieldBack", spec := "fieldBack", unfollowed := true, recurses := true, apart := false }
def FieldBackSaid : Prop := fieldBackRow.holds Try.pinned (OpenSpec.ofChange fieldBackSpec)

/-- ITS FALSE NEIGHBOUR: 'it returns false'. Refute it at one input. -/
def fieldBackWrong : ChangeSpec := { name := "fieldBack", fn := fun _ => fun
  | [d1, d2, d3, d4] => { results := [.lit (.bool false)], args := [d1, d2, d3, d4] }
  | _ => none }
def FieldBackWrongFalsely : Prop := fieldBackRow.holds Try.pinned (OpenSpec.ofChange fieldBackWrong)

/-- 'shelterbeltlaw01.FieldCuts': WHATEVER THE INPUT: true; the input reads as it did. -/
def fieldCutsSpec : ChangeSpec := { name := "fieldCuts", fn := fun _ => fun
  | [d1, d2] => { results := [.lit (.bool true)], args := [d1, d2] }
  | _ => none }
def fieldCutsRow : OpenClaim := { program := "ytleljmijkncahaa", sum := "3b0e131f1b4eed22ed143e508f9f4684542ee25fed0773965319a678013f8b03", func := "shelterbelt/shelterbeltlaw01.FieldCuts", spec := "fieldCuts", unfollowed := true, recurses := true, apart := false }
def FieldCutsSaid : Prop := fieldCutsRow.holds Try.pinned (OpenSpec.ofChange fieldCutsSpec)

/-- ITS FALSE NEIGHBOUR: 'it returns false'. Refute it at one input. -/
def fieldCutsWrong : ChangeSpec := { name := "fieldCuts", fn := fun _ => fun
  | [d1, d2] => { results := [.lit (.bool false)], args := [d1, d2] }
  | _ => none }
def FieldCutsWrongFalsely : Prop := fieldCutsRow.holds Try.pinned (OpenSpec.ofChange fieldCutsWrong)

/-- 'shelterbeltlaw01.FieldFits': WHATEVER THE INPUT: true; the input reads as it did. -/
def fieldFitsSpec : ChangeSpec := { name := "fieldFits", fn := fun _ => fun
  | [d1, d2] => { results := [.lit (.bool true)], args := [d1, d2] }
  | _ => none }
def fieldFitsRow : OpenClaim := { program := "ytleljmijkncahaa", sum := "3b0e131f1b4eed22ed143e508f9f4684542ee25fed0773965319a678013f8b03", func := "shelterbelt/shelterbeltlaw01.FieldFits", spec := "fieldFits", unfollowed := true, recurses := true, apart := false }
def FieldFitsSaid : Prop := fieldFitsRow.holds Try.pinned (OpenSpec.ofChange fieldFitsSpec)

/-- ITS FALSE NEIGHBOUR: 'it returns false'. Refute it at one input. -/
def fieldFitsWrong : ChangeSpec := { name := "fieldFits", fn := fun _ => fun
  | [d1, d2] => { results := [.lit (.bool false)], args := [d1, d2] }
  | _ => none }
def FieldFitsWrongFalsely : Prop := fieldFitsRow.holds Try.pinned (OpenSpec.ofChange fieldFitsWrong)

/-- 'shelterbeltlaw01.FieldParts': WHATEVER THE INPUT: true; the input reads as it did. -/
def fieldPartsSpec : ChangeSpec := { name := "fieldParts", fn := fun _ => fun
  | [d1, d2] => { results := [.lit (.bool true)], args := [d1, d2] }
  | _ => none }
def fieldPartsRow : OpenClaim := { program := "ytleljmijkncahaa", sum := "3b0e131f1b4eed22ed143e508f9f4684542ee25fed0773965319a678013f8b03", func := "shelterbelt/shelterbeltlaw01.FieldParts", spec := "fieldParts", unfollowed := true, recurses := true, apart := false }
def FieldPartsSaid : Prop := fieldPartsRow.holds Try.pinned (OpenSpec.ofChange fieldPartsSpec)

/-- ITS FALSE NEIGHBOUR: 'it returns false'. Refute it at one input. -/
def fieldPartsWrong : ChangeSpec := { name := "fieldParts", fn := fun _ => fun
  | [d1, d2] => { results := [.lit (.bool false)], args := [d1, d2] }
  | _ => none }
def FieldPartsWrongFalsely : Prop := fieldPartsRow.holds Try.pinned (OpenSpec.ofChange fieldPartsWrong)

/-- 'shelterbeltlaw01.FieldRows': WHATEVER THE INPUT: true; the input reads as it did. -/
def fieldRowsSpec : ChangeSpec := { name := "fieldRows", fn := fun _ => fun
  | [d1, d2] => { results := [.lit (.bool true)], args := [d1, d2] }
  | _ => none }
def fieldRowsRow : OpenClaim := { program := "ytleljmijkncahaa", sum := "3b0e131f1b4eed22ed143e508f9f4684542ee25fed0773965319a678013f8b03", func := "shelterbelt/shelterbeltlaw01.FieldRows", spec := "fieldRows", unfollowed := true, recurses := true, apart := false }
def FieldRowsSaid : Prop := fieldRowsRow.holds Try.pinned (OpenSpec.ofChange fieldRowsSpec)

/-- ITS FALSE NEIGHBOUR: 'it returns false'. Refute it at one input. -/
def fieldRowsWrong : ChangeSpec := { name := "fieldRows", fn := fun _ => fun
  | [d1, d2] => { results := [.lit (.bool false)], args := [d1, d2] }
  | _ => none }
def FieldRowsWrongFalsely : Prop := fieldRowsRow.holds Try.pinned (OpenSpec.ofChange fieldRowsWrong)

/-- 'shelterbeltlaw01.FieldSigned': WHATEVER THE INPUT: true; the input reads as it did. -/
def fieldSignedSpec : ChangeSpec := { name := "fieldSigned", fn := fun _ => fun
  | [d1, d2] => { results := [.lit (.bool true)], args := [d1, d2] }
  | _ => none }
def fieldSignedRow : OpenClaim := { program := "ytleljmijkncahaa", sum := "3b0e131f1b4eed22ed143e508f9f4684542ee25fed0773965319a678013f8b03", func := "shelterbelt/shelterbeltlaw01.FieldSigned", spec := "fieldSigned", unfollowed := true, recurses := true, apart := false }
def FieldSignedSaid : Prop := fieldSignedRow.holds Try.pinned (OpenSpec.ofChange fieldSignedSpec)

/-- ITS FALSE NEIGHBOUR: 'it returns false'. Refute it at one input. -/
def fieldSignedWrong : ChangeSpec := { name := "fieldSigned", fn := fun _ => fun
  | [d1, d2] => { results := [.lit (.bool false)], args := [d1, d2] }
  | _ => none }
def FieldSignedWrongFalsely : Prop := fieldSignedRow.holds Try.pinned (OpenSpec.ofChange fieldSignedWrong)

/-- 'shelterbeltlaw01.FieldTells': WHATEVER THE INPUT: true; the input reads as it did. -/
def fieldTellsSpec : ChangeSpec := { name := "fieldTells", fn := fun _ => fun
  | [d1, d2, d3, d4, d5] => { results := [.lit (.bool true)], args := [d1, d2, d3, d4, d5] }
  | _ => none }
def fieldTellsRow : OpenClaim := { program := "ytleljmijkncahaa", sum := "3b0e131f1b4eed22ed143e508f9f4684542ee25fed0773965319a678013f8b03", func := "shelterbelt/shelterbeltlaw01.FieldTells", spec := "fieldTells", unfollowed := true, recurses := true, apart := false }
def FieldTellsSaid : Prop := fieldTellsRow.holds Try.pinned (OpenSpec.ofChange fieldTellsSpec)

/-- ITS FALSE NEIGHBOUR: 'it returns false'. Refute it at one input. -/
def fieldTellsWrong : ChangeSpec := { name := "fieldTells", fn := fun _ => fun
  | [d1, d2, d3, d4, d5] => { results := [.lit (.bool false)], args := [d1, d2, d3, d4, d5] }
  | _ => none }
def FieldTellsWrongFalsely : Prop := fieldTellsRow.holds Try.pinned (OpenSpec.ofChange fieldTellsWrong)

/-- 'shelterbeltlaw02.SealBack': WHATEVER THE INPUT: true; the input reads as it did. -/
def sealBackSpec : ChangeSpec := { name := "sealBack", fn := fun _ => fun
  | [d1, d2] => { results := [.lit (.bool true)], args := [d1, d2] }
  | _ => none }
def sealBackRow : OpenClaim := { program := "ytleljmijkncahaa", sum := "3b0e131f1b4eed22ed143e508f9f4684542ee25fed0773965319a678013f8b03", func := "shelterbelt/shelterbeltlaw02.SealBack", spec := "sealBack", unfollowed := true, recurses := true, apart := false }
def SealBackSaid : Prop := sealBackRow.holds Try.pinned (OpenSpec.ofChange sealBackSpec)

/-- ITS FALSE NEIGHBOUR: 'it returns false'. Refute it at one input. -/
def sealBackWrong : ChangeSpec := { name := "sealBack", fn := fun _ => fun
  | [d1, d2] => { results := [.lit (.bool false)], args := [d1, d2] }
  | _ => none }
def SealBackWrongFalsely : Prop := sealBackRow.holds Try.pinned (OpenSpec.ofChange sealBackWrong)

/-- 'shelterbeltlaw02.SealBits': WHATEVER THE INPUT: true; the input reads as it did. -/
def sealBitsSpec : ChangeSpec := { name := "sealBits", fn := fun _ => fun
  | [d1, d2, d3, d4] => { results := [.lit (.bool true)], args := [d1, d2, d3, d4] }
  | _ => none }
def sealBitsRow : OpenClaim := { program := "ytleljmijkncahaa", sum := "3b0e131f1b4eed22ed143e508f9f4684542ee25fed0773965319a678013f8b03", func := "shelterbelt/shelterbeltlaw02.SealBits", spec := "sealBits", unfollowed := true, recurses := true, apart := false }
def SealBitsSaid : Prop := sealBitsRow.holds Try.pinned (OpenSpec.ofChange sealBitsSpec)

/-- ITS FALSE NEIGHBOUR: 'it returns false'. Refute it at one input. -/
def sealBitsWrong : ChangeSpec := { name := "sealBits", fn := fun _ => fun
  | [d1, d2, d3, d4] => { results := [.lit (.bool false)], args := [d1, d2, d3, d4] }
  | _ => none }
def SealBitsWrongFalsely : Prop := sealBitsRow.holds Try.pinned (OpenSpec.ofChange sealBitsWrong)

/-- 'shelterbeltlaw02.SealBursts': WHATEVER THE INPUT: true; the input reads as it did. -/
def sealBurstsSpec : ChangeSpec := { name := "sealBursts", fn := fun _ => fun
  | [d1, d2, d3] => { results := [.lit (.bool true)], args := [d1, d2, d3] }
  | _ => none }
def sealBurstsRow : OpenClaim := { program := "ytleljmijkncahaa", sum := "3b0e131f1b4eed22ed143e508f9f4684542ee25fed0773965319a678013f8b03", func := "shelterbelt/shelterbeltlaw02.SealBursts", spec := "sealBursts", unfollowed := true, recurses := true, apart := false }
def SealBurstsSaid : Prop := sealBurstsRow.holds Try.pinned (OpenSpec.ofChange sealBurstsSpec)

/-- ITS FALSE NEIGHBOUR: 'it returns false'. Refute it at one input. -/
def sealBurstsWrong : ChangeSpec := { name := "sealBursts", fn := fun _ => fun
  | [d1, d2, d3] => { results := [.lit (.bool false)], args := [d1, d2, d3] }
  | _ => none }
def SealBurstsWrongFalsely : Prop := sealBurstsRow.holds Try.pinned (OpenSpec.ofChange sealBurstsWrong)

/-- 'shelterbeltlaw02.SealJoins': WHATEVER THE INPUT: true; the input reads as it did. -/
def sealJoinsSpec : ChangeSpec := { name := "sealJoins", fn := fun _ => fun
  | [d1, d2, d3] => { results := [.lit (.bool true)], args := [d1, d2, d3] }
  | _ => none }
def sealJoinsRow : OpenClaim := { program := "ytleljmijkncahaa", sum := "3b0e131f1b4eed22ed143e508f9f4684542ee25fed0773965319a678013f8b03", func := "shelterbelt/shelterbeltlaw02.SealJoins", spec := "sealJoins", apart := false }
def SealJoinsSaid : Prop := sealJoinsRow.holds Try.pinned (OpenSpec.ofChange sealJoinsSpec)

/-- ITS FALSE NEIGHBOUR: 'it returns false'. Refute it at one input. -/
def sealJoinsWrong : ChangeSpec := { name := "sealJoins", fn := fun _ => fun
  | [d1, d2, d3] => { results := [.lit (.bool false)], args := [d1, d2, d3] }
  | _ => none }
def SealJoinsWrongFalsely : Prop := sealJoinsRow.holds Try.pinned (OpenSpec.ofChange sealJoinsWrong)

/-- 'shelterbeltlaw02.SealTells': WHATEVER THE INPUT: true; the input reads as it did. -/
def sealTellsSpec : ChangeSpec := { name := "sealTells", fn := fun _ => fun
  | [d1, d2, d3] => { results := [.lit (.bool true)], args := [d1, d2, d3] }
  | _ => none }
def sealTellsRow : OpenClaim := { program := "ytleljmijkncahaa", sum := "3b0e131f1b4eed22ed143e508f9f4684542ee25fed0773965319a678013f8b03", func := "shelterbelt/shelterbeltlaw02.SealTells", spec := "sealTells", unfollowed := true, recurses := true, apart := false }
def SealTellsSaid : Prop := sealTellsRow.holds Try.pinned (OpenSpec.ofChange sealTellsSpec)

/-- ITS FALSE NEIGHBOUR: 'it returns false'. Refute it at one input. -/
def sealTellsWrong : ChangeSpec := { name := "sealTells", fn := fun _ => fun
  | [d1, d2, d3] => { results := [.lit (.bool false)], args := [d1, d2, d3] }
  | _ => none }
def SealTellsWrongFalsely : Prop := sealTellsRow.holds Try.pinned (OpenSpec.ofChange sealTellsWrong)

/-- 'shelterbeltlaw02.SealTurns': WHATEVER THE INPUT: true; the input reads as it did. -/
def sealTurnsSpec : ChangeSpec := { name := "sealTurns", fn := fun _ => fun
  | [d1, d2, d3] => { results := [.lit (.bool true)], args := [d1, d2, d3] }
  | _ => none }
def sealTurnsRow : OpenClaim := { program := "ytleljmijkncahaa", sum := "3b0e131f1b4eed22ed143e508f9f4684542ee25fed0773965319a678013f8b03", func := "shelterbelt/shelterbeltlaw02.SealTurns", spec := "sealTurns", apart := false }
def SealTurnsSaid : Prop := sealTurnsRow.holds Try.pinned (OpenSpec.ofChange sealTurnsSpec)

/-- ITS FALSE NEIGHBOUR: 'it returns false'. Refute it at one input. -/
def sealTurnsWrong : ChangeSpec := { name := "sealTurns", fn := fun _ => fun
  | [d1, d2, d3] => { results := [.lit (.bool false)], args := [d1, d2, d3] }
  | _ => none }
def SealTurnsWrongFalsely : Prop := sealTurnsRow.holds Try.pinned (OpenSpec.ofChange sealTurnsWrong)

/- THE SECOND FORM. 'bulk': how many values and letters a reading holds, each counted each time it is reached (what is shared counts as often as it is met; a slice's spare places count too). A statement '..UptoSaid' is the law's where the arguments, and the package variables that the reading takes, are together of bulk at most 1048576: NARROWER than '..Said'. Prove '..Said' where nothing that the law and all that it calls make is longer than what came in: it says more and counts as full. Else prove '..UptoSaid'. A law counts once. -/
mutual
def uptoBulk {H : Type} : DataW H → Nat
  | .lit (.string bytes) => bytes.length + 1
  | .lit _ => 1
  | .nil => 1
  | .ptr d => uptoBulk d + 1
  | .slice elems spare => uptoBulkAll elems + uptoBulkAll spare + 1
  | .agg parts => uptoBulkAll parts + 1
  | .iface _ d => uptoBulk d + 1
  | .map entries => uptoBulkEntries entries + 1
  | .held _ => 1
def uptoBulkAll {H : Type} : List (DataW H) → Nat
  | [] => 0
  | d :: r => uptoBulk d + uptoBulkAll r
def uptoBulkEntries {H : Type} : List (Lit × DataW H) → Nat
  | [] => 0
  | x :: r => uptoBulkEntry x + uptoBulkEntries r
def uptoBulkEntry {H : Type} : Lit × DataW H → Nat
  | (.string bytes, d) => bytes.length + uptoBulk d + 1
  | (_, d) => uptoBulk d + 1
 end
def uptoSmall : (H : Type) → List (DataW H) → Bool := fun _ ds => decide (uptoBulkAll ds ≤ 1048576)
def OpenSpec.upto (s : _root_.Go.ChangeSpec) : _root_.Go.OpenSpec := { _root_.Go.OpenSpec.ofChange s with cond := some uptoSmall }

/-- 'shelterbeltlaw01.FieldBack', WHERE WHAT IT READS IS OF BULK AT MOST 1048576: true; the input reads as it did. -/
def fieldBackUptoRow : OpenClaim := { program := "ytleljmijkncahaa", sum := "3b0e131f1b4eed22ed143e508f9f4684542ee25fed0773965319a678013f8b03", func := "shelterbelt/shelterbeltlaw01.FieldBack", spec := "fieldBack", unfollowed := true, recurses := true, apart := false, narrowed := true }
def FieldBackUptoSaid : Prop := fieldBackUptoRow.holds Try.pinned (OpenSpec.upto fieldBackSpec)

/-- 'shelterbeltlaw01.FieldCuts', WHERE WHAT IT READS IS OF BULK AT MOST 1048576: true; the input reads as it did. -/
def fieldCutsUptoRow : OpenClaim := { program := "ytleljmijkncahaa", sum := "3b0e131f1b4eed22ed143e508f9f4684542ee25fed0773965319a678013f8b03", func := "shelterbelt/shelterbeltlaw01.FieldCuts", spec := "fieldCuts", unfollowed := true, recurses := true, apart := false, narrowed := true }
def FieldCutsUptoSaid : Prop := fieldCutsUptoRow.holds Try.pinned (OpenSpec.upto fieldCutsSpec)

/-- 'shelterbeltlaw01.FieldFits', WHERE WHAT IT READS IS OF BULK AT MOST 1048576: true; the input reads as it did. -/
def fieldFitsUptoRow : OpenClaim := { program := "ytleljmijkncahaa", sum := "3b0e131f1b4eed22ed143e508f9f4684542ee25fed0773965319a678013f8b03", func := "shelterbelt/shelterbeltlaw01.FieldFits", spec := "fieldFits", unfollowed := true, recurses := true, apart := false, narrowed := true }
def FieldFitsUptoSaid : Prop := fieldFitsUptoRow.holds Try.pinned (OpenSpec.upto fieldFitsSpec)

/-- 'shelterbeltlaw01.FieldParts', WHERE WHAT IT READS IS OF BULK AT MOST 1048576: true; the input reads as it did. -/
def fieldPartsUptoRow : OpenClaim := { program := "ytleljmijkncahaa", sum := "3b0e131f1b4eed22ed143e508f9f4684542ee25fed0773965319a678013f8b03", func := "shelterbelt/shelterbeltlaw01.FieldParts", spec := "fieldParts", unfollowed := true, recurses := true, apart := false, narrowed := true }
def FieldPartsUptoSaid : Prop := fieldPartsUptoRow.holds Try.pinned (OpenSpec.upto fieldPartsSpec)

/-- 'shelterbeltlaw01.FieldRows', WHERE WHAT IT READS IS OF BULK AT MOST 1048576: true; the input reads as it did. -/
def fieldRowsUptoRow : OpenClaim := { program := "ytleljmijkncahaa", sum := "3b0e131f1b4eed22ed143e508f9f4684542ee25fed0773965319a678013f8b03", func := "shelterbelt/shelterbeltlaw01.FieldRows", spec := "fieldRows", unfollowed := true, recurses := true, apart := false, narrowed := true }
def FieldRowsUptoSaid : Prop := fieldRowsUptoRow.holds Try.pinned (OpenSpec.upto fieldRowsSpec)

/-- 'shelterbeltlaw01.FieldSigned', WHERE WHAT IT READS IS OF BULK AT MOST 1048576: true; the input reads as it did. -/
def fieldSignedUptoRow : OpenClaim := { program := "ytleljmijkncahaa", sum := "3b0e131f1b4eed22ed143e508f9f4684542ee25fed0773965319a678013f8b03", func := "shelterbelt/shelterbeltlaw01.FieldSigned", spec := "fieldSigned", unfollowed := true, recurses := true, apart := false, narrowed := true }
def FieldSignedUptoSaid : Prop := fieldSignedUptoRow.holds Try.pinned (OpenSpec.upto fieldSignedSpec)

/-- 'shelterbeltlaw01.FieldTells', WHERE WHAT IT READS IS OF BULK AT MOST 1048576: true; the input reads as it did. -/
def fieldTellsUptoRow : OpenClaim := { program := "ytleljmijkncahaa", sum := "3b0e131f1b4eed22ed143e508f9f4684542ee25fed0773965319a678013f8b03", func := "shelterbelt/shelterbeltlaw01.FieldTells", spec := "fieldTells", unfollowed := true, recurses := true, apart := false, narrowed := true }
def FieldTellsUptoSaid : Prop := fieldTellsUptoRow.holds Try.pinned (OpenSpec.upto fieldTellsSpec)

/-- 'shelterbeltlaw02.SealBack', WHERE WHAT IT READS IS OF BULK AT MOST 1048576: true; the input reads as it did. -/
def sealBackUptoRow : OpenClaim := { program := "ytleljmijkncahaa", sum := "3b0e131f1b4eed22ed143e508f9f4684542ee25fed0773965319a678013f8b03", func := "shelterbelt/shelterbeltlaw02.SealBack", spec := "sealBack", unfollowed := true, recurses := true, apart := false, narrowed := true }
def SealBackUptoSaid : Prop := sealBackUptoRow.holds Try.pinned (OpenSpec.upto sealBackSpec)

/-- 'shelterbeltlaw02.SealBits', WHERE WHAT IT READS IS OF BULK AT MOST 1048576: true; the input reads as it did. -/
def sealBitsUptoRow : OpenClaim := { program := "ytleljmijkncahaa", sum := "3b0e131f1b4eed22ed143e508f9f4684542ee25fed0773965319a678013f8b03", func := "shelterbelt/shelterbeltlaw02.SealBits", spec := "sealBits", unfollowed := true, recurses := true, apart := false, narrowed := true }
def SealBitsUptoSaid : Prop := sealBitsUptoRow.holds Try.pinned (OpenSpec.upto sealBitsSpec)

/-- 'shelterbeltlaw02.SealBursts', WHERE WHAT IT READS IS OF BULK AT MOST 1048576: true; the input reads as it did. -/
def sealBurstsUptoRow : OpenClaim := { program := "ytleljmijkncahaa", sum := "3b0e131f1b4eed22ed143e508f9f4684542ee25fed0773965319a678013f8b03", func := "shelterbelt/shelterbeltlaw02.SealBursts", spec := "sealBursts", unfollowed := true, recurses := true, apart := false, narrowed := true }
def SealBurstsUptoSaid : Prop := sealBurstsUptoRow.holds Try.pinned (OpenSpec.upto sealBurstsSpec)

/-- 'shelterbeltlaw02.SealJoins', WHERE WHAT IT READS IS OF BULK AT MOST 1048576: true; the input reads as it did. -/
def sealJoinsUptoRow : OpenClaim := { program := "ytleljmijkncahaa", sum := "3b0e131f1b4eed22ed143e508f9f4684542ee25fed0773965319a678013f8b03", func := "shelterbelt/shelterbeltlaw02.SealJoins", spec := "sealJoins", apart := false, narrowed := true }
def SealJoinsUptoSaid : Prop := sealJoinsUptoRow.holds Try.pinned (OpenSpec.upto sealJoinsSpec)

/-- 'shelterbeltlaw02.SealTells', WHERE WHAT IT READS IS OF BULK AT MOST 1048576: true; the input reads as it did. -/
def sealTellsUptoRow : OpenClaim := { program := "ytleljmijkncahaa", sum := "3b0e131f1b4eed22ed143e508f9f4684542ee25fed0773965319a678013f8b03", func := "shelterbelt/shelterbeltlaw02.SealTells", spec := "sealTells", unfollowed := true, recurses := true, apart := false, narrowed := true }
def SealTellsUptoSaid : Prop := sealTellsUptoRow.holds Try.pinned (OpenSpec.upto sealTellsSpec)

/-- 'shelterbeltlaw02.SealTurns', WHERE WHAT IT READS IS OF BULK AT MOST 1048576: true; the input reads as it did. -/
def sealTurnsUptoRow : OpenClaim := { program := "ytleljmijkncahaa", sum := "3b0e131f1b4eed22ed143e508f9f4684542ee25fed0773965319a678013f8b03", func := "shelterbelt/shelterbeltlaw02.SealTurns", spec := "sealTurns", apart := false, narrowed := true }
def SealTurnsUptoSaid : Prop := sealTurnsUptoRow.holds Try.pinned (OpenSpec.upto sealTurnsSpec)

end Rows
end Go.Proofs.Ytleljmijkncahaa

/-
  No cell of these rows narrows 'for every input' (looked for: loops, veiled, ifaces, maps, wideKeys, modest, calm, conditions, laid).
  DERIVED. THE GIVEN ROWS OF THIS SEAT. 18 by the template 'for every input the law returns true; each argument reads behind the call as it read before'; 0 by the template 'total and deterministic' (their statements: YtpfhohfcohkhnaaTotals.lean).
  GIVEN WITH THE SEED: the statements are not yours to turn. If you find one false, say at which input.
  Laid BY PROGRAM, IN A SANDBOX (cutbox-rows.mjs): the forced cells as the released guide's own fill.sh prints them over the translation d6c1ee32af6e94c1… (all of the seat's roots in one cut). By AI agents, Wed Nov 11 2026. No macro, syntax, notation, axiom, sorry.
-/
import Derived.Test.YtpfhohfcohkhnaaChecked
import GoSem.Claim
import GoSem.ClaimJoined
import GoSem.ClaimMapViews
import Derived.JoinedTies
import Derived.KernelRfl
namespace Go.Proofs.Ytpfhohfcohkhnaa
/- THE CELL 'sum', in the pinned program and in every row, IS THE sha256 OF THE DUMP (.gsa) THAT YtpfhohfcohkhnaaProg.lean LOADS. Nothing in Lean hashes anything: it is a label: what it is worth is what the hold of that sum in a sandbox is worth. -/
noncomputable def Try.pinned : Pinned := { name := "ytpfhohfcohkhnaa", sum := "d6c1ee32af6e94c15593c2cc24d4ebe95dd0187f3969f550964b465b813627bd", checked := Try.checked }
namespace Rows
def none {H : Type} : Left H := { results := [], args := [] }

/-- 'codewrightlaw46.SemiringBooleans': WHATEVER THE INPUT: true; the input reads as it did. -/
def semiringBooleansSpec : ChangeSpec := { name := "semiringBooleans", fn := fun _ => fun
  | [d1, d2, d3] => { results := [.lit (.bool true)], args := [d1, d2, d3] }
  | _ => none }
def semiringBooleansRow : OpenClaim := { program := "ytpfhohfcohkhnaa", sum := "d6c1ee32af6e94c15593c2cc24d4ebe95dd0187f3969f550964b465b813627bd", func := "codewright/codewrightlaw46.SemiringBooleans", spec := "semiringBooleans", apart := false }
def SemiringBooleansSaid : Prop := semiringBooleansRow.holds Try.pinned (OpenSpec.ofChange semiringBooleansSpec)

/-- ITS FALSE NEIGHBOUR: 'it returns false'. Refute it at one input. -/
def semiringBooleansWrong : ChangeSpec := { name := "semiringBooleans", fn := fun _ => fun
  | [d1, d2, d3] => { results := [.lit (.bool false)], args := [d1, d2, d3] }
  | _ => none }
def SemiringBooleansWrongFalsely : Prop := semiringBooleansRow.holds Try.pinned (OpenSpec.ofChange semiringBooleansWrong)

/-- 'codewrightlaw46.SemiringCosts': WHATEVER THE INPUT: true; the input reads as it did. -/
def semiringCostsSpec : ChangeSpec := { name := "semiringCosts", fn := fun _ => fun
  | [d1, d2, d3] => { results := [.lit (.bool true)], args := [d1, d2, d3] }
  | _ => none }
def semiringCostsRow : OpenClaim := { program := "ytpfhohfcohkhnaa", sum := "d6c1ee32af6e94c15593c2cc24d4ebe95dd0187f3969f550964b465b813627bd", func := "codewright/codewrightlaw46.SemiringCosts", spec := "semiringCosts", apart := false }
def SemiringCostsSaid : Prop := semiringCostsRow.holds Try.pinned (OpenSpec.ofChange semiringCostsSpec)

/-- ITS FALSE NEIGHBOUR: 'it returns false'. Refute it at one input. -/
def semiringCostsWrong : ChangeSpec := { name := "semiringCosts", fn := fun _ => fun
  | [d1, d2, d3] => { results := [.lit (.bool false)], args := [d1, d2, d3] }
  | _ => none }
def SemiringCostsWrongFalsely : Prop := semiringCostsRow.holds Try.pinned (OpenSpec.ofChange semiringCostsWrong)

/-- 'codewrightlaw46.SemiringGains': WHATEVER THE INPUT: true; the input reads as it did. -/
def semiringGainsSpec : ChangeSpec := { name := "semiringGains", fn := fun _ => fun
  | [d1, d2, d3] => { results := [.lit (.bool true)], args := [d1, d2, d3] }
  | _ => none }
def semiringGainsRow : OpenClaim := { program := "ytpfhohfcohkhnaa", sum := "d6c1ee32af6e94c15593c2cc24d4ebe95dd0187f3969f550964b465b813627bd", func := "codewright/codewrightlaw46.SemiringGains", spec := "semiringGains", apart := false }
def SemiringGainsSaid : Prop := semiringGainsRow.holds Try.pinned (OpenSpec.ofChange semiringGainsSpec)

/-- ITS FALSE NEIGHBOUR: 'it returns false'. Refute it at one input. -/
def semiringGainsWrong : ChangeSpec := { name := "semiringGains", fn := fun _ => fun
  | [d1, d2, d3] => { results := [.lit (.bool false)], args := [d1, d2, d3] }
  | _ => none }
def SemiringGainsWrongFalsely : Prop := semiringGainsRow.holds Try.pinned (OpenSpec.ofChange semiringGainsWrong)

/-- 'codewrightlaw46.SemiringShapes': WHATEVER THE INPUT: true; the input reads as it did. -/
def semiringShapesSpec : ChangeSpec := { name := "semiringShapes", fn := fun _ => fun
  | [d] => { results := [.lit (.bool true)], args := [d] }
  | _ => none }
def semiringShapesRow : OpenClaim := { program := "ytpfhohfcohkhnaa", sum := "d6c1ee32af6e94c15593c2cc24d4ebe95dd0187f3969f550964b465b813627bd", func := "codewright/codewrightlaw46.SemiringShapes", spec := "semiringShapes", apart := false }
def SemiringShapesSaid : Prop := semiringShapesRow.holds Try.pinned (OpenSpec.ofChange semiringShapesSpec)

/-- ITS FALSE NEIGHBOUR: 'it returns false'. Refute it at one input. -/
def semiringShapesWrong : ChangeSpec := { name := "semiringShapes", fn := fun _ => fun
  | [d] => { results := [.lit (.bool false)], args := [d] }
  | _ => none }
def SemiringShapesWrongFalsely : Prop := semiringShapesRow.holds Try.pinned (OpenSpec.ofChange semiringShapesWrong)

/-- 'codewrightlaw01.NatForms': WHATEVER THE INPUT: true; the input reads as it did. -/
def natFormsSpec : ChangeSpec := { name := "natForms", fn := fun _ => fun
  | [d1, d2] => { results := [.lit (.bool true)], args := [d1, d2] }
  | _ => none }
def natFormsRow : OpenClaim := { program := "ytpfhohfcohkhnaa", sum := "d6c1ee32af6e94c15593c2cc24d4ebe95dd0187f3969f550964b465b813627bd", func := "codewright/codewrightlaw01.NatForms", spec := "natForms", apart := false }
def NatFormsSaid : Prop := natFormsRow.holds Try.pinned (OpenSpec.ofChange natFormsSpec)

/-- ITS FALSE NEIGHBOUR: 'it returns false'. Refute it at one input. -/
def natFormsWrong : ChangeSpec := { name := "natForms", fn := fun _ => fun
  | [d1, d2] => { results := [.lit (.bool false)], args := [d1, d2] }
  | _ => none }
def NatFormsWrongFalsely : Prop := natFormsRow.holds Try.pinned (OpenSpec.ofChange natFormsWrong)

/-- 'codewrightlaw01.NatBinomials': WHATEVER THE INPUT: true; the input reads as it did. -/
def natBinomialsSpec : ChangeSpec := { name := "natBinomials", fn := fun _ => fun
  | [d1, d2] => { results := [.lit (.bool true)], args := [d1, d2] }
  | _ => none }
def natBinomialsRow : OpenClaim := { program := "ytpfhohfcohkhnaa", sum := "d6c1ee32af6e94c15593c2cc24d4ebe95dd0187f3969f550964b465b813627bd", func := "codewright/codewrightlaw01.NatBinomials", spec := "natBinomials", apart := false }
def NatBinomialsSaid : Prop := natBinomialsRow.holds Try.pinned (OpenSpec.ofChange natBinomialsSpec)

/-- ITS FALSE NEIGHBOUR: 'it returns false'. Refute it at one input. -/
def natBinomialsWrong : ChangeSpec := { name := "natBinomials", fn := fun _ => fun
  | [d1, d2] => { results := [.lit (.bool false)], args := [d1, d2] }
  | _ => none }
def NatBinomialsWrongFalsely : Prop := natBinomialsRow.holds Try.pinned (OpenSpec.ofChange natBinomialsWrong)

/-- 'codewrightlaw01.NatSums': WHATEVER THE INPUT: true; the input reads as it did. -/
def natSumsSpec : ChangeSpec := { name := "natSums", fn := fun _ => fun
  | [d1, d2] => { results := [.lit (.bool true)], args := [d1, d2] }
  | _ => none }
def natSumsRow : OpenClaim := { program := "ytpfhohfcohkhnaa", sum := "d6c1ee32af6e94c15593c2cc24d4ebe95dd0187f3969f550964b465b813627bd", func := "codewright/codewrightlaw01.NatSums", spec := "natSums", apart := false }
def NatSumsSaid : Prop := natSumsRow.holds Try.pinned (OpenSpec.ofChange natSumsSpec)

/-- ITS FALSE NEIGHBOUR: 'it returns false'. Refute it at one input. -/
def natSumsWrong : ChangeSpec := { name := "natSums", fn := fun _ => fun
  | [d1, d2] => { results := [.lit (.bool false)], args := [d1, d2] }
  | _ => none }
def NatSumsWrongFalsely : Prop := natSumsRow.holds Try.pinned (OpenSpec.ofChange natSumsWrong)

/-- 'codewrightlaw01.NatRing': WHATEVER THE INPUT: true; the input reads as it did. -/
def natRingSpec : ChangeSpec := { name := "natRing", fn := fun _ => fun
  | [d1, d2, d3] => { results := [.lit (.bool true)], args := [d1, d2, d3] }
  | _ => none }
def natRingRow : OpenClaim := { program := "ytpfhohfcohkhnaa", sum := "d6c1ee32af6e94c15593c2cc24d4ebe95dd0187f3969f550964b465b813627bd", func := "codewright/codewrightlaw01.NatRing", spec := "natRing", apart := false }
def NatRingSaid : Prop := natRingRow.holds Try.pinned (OpenSpec.ofChange natRingSpec)

/-- ITS FALSE NEIGHBOUR: 'it returns false'. Refute it at one input. -/
def natRingWrong : ChangeSpec := { name := "natRing", fn := fun _ => fun
  | [d1, d2, d3] => { results := [.lit (.bool false)], args := [d1, d2, d3] }
  | _ => none }
def NatRingWrongFalsely : Prop := natRingRow.holds Try.pinned (OpenSpec.ofChange natRingWrong)

/-- 'codewrightlaw01.NatOrders': WHATEVER THE INPUT: true; the input reads as it did. -/
def natOrdersSpec : ChangeSpec := { name := "natOrders", fn := fun _ => fun
  | [d1, d2, d3] => { results := [.lit (.bool true)], args := [d1, d2, d3] }
  | _ => none }
def natOrdersRow : OpenClaim := { program := "ytpfhohfcohkhnaa", sum := "d6c1ee32af6e94c15593c2cc24d4ebe95dd0187f3969f550964b465b813627bd", func := "codewright/codewrightlaw01.NatOrders", spec := "natOrders", apart := false }
def NatOrdersSaid : Prop := natOrdersRow.holds Try.pinned (OpenSpec.ofChange natOrdersSpec)

/-- ITS FALSE NEIGHBOUR: 'it returns false'. Refute it at one input. -/
def natOrdersWrong : ChangeSpec := { name := "natOrders", fn := fun _ => fun
  | [d1, d2, d3] => { results := [.lit (.bool false)], args := [d1, d2, d3] }
  | _ => none }
def NatOrdersWrongFalsely : Prop := natOrdersRow.holds Try.pinned (OpenSpec.ofChange natOrdersWrong)

/-- 'codewrightlaw01.NatPowers': WHATEVER THE INPUT: true; the input reads as it did. -/
def natPowersSpec : ChangeSpec := { name := "natPowers", fn := fun _ => fun
  | [d1, d2] => { results := [.lit (.bool true)], args := [d1, d2] }
  | _ => none }
def natPowersRow : OpenClaim := { program := "ytpfhohfcohkhnaa", sum := "d6c1ee32af6e94c15593c2cc24d4ebe95dd0187f3969f550964b465b813627bd", func := "codewright/codewrightlaw01.NatPowers", spec := "natPowers", apart := false }
def NatPowersSaid : Prop := natPowersRow.holds Try.pinned (OpenSpec.ofChange natPowersSpec)

/-- ITS FALSE NEIGHBOUR: 'it returns false'. Refute it at one input. -/
def natPowersWrong : ChangeSpec := { name := "natPowers", fn := fun _ => fun
  | [d1, d2] => { results := [.lit (.bool false)], args := [d1, d2] }
  | _ => none }
def NatPowersWrongFalsely : Prop := natPowersRow.holds Try.pinned (OpenSpec.ofChange natPowersWrong)

/-- 'codewrightlaw01.NatPascal': WHATEVER THE INPUT: true; the input reads as it did. -/
def natPascalSpec : ChangeSpec := { name := "natPascal", fn := fun _ => fun
  | [d1, d2] => { results := [.lit (.bool true)], args := [d1, d2] }
  | _ => none }
def natPascalRow : OpenClaim := { program := "ytpfhohfcohkhnaa", sum := "d6c1ee32af6e94c15593c2cc24d4ebe95dd0187f3969f550964b465b813627bd", func := "codewright/codewrightlaw01.NatPascal", spec := "natPascal", apart := false }
def NatPascalSaid : Prop := natPascalRow.holds Try.pinned (OpenSpec.ofChange natPascalSpec)

/-- ITS FALSE NEIGHBOUR: 'it returns false'. Refute it at one input. -/
def natPascalWrong : ChangeSpec := { name := "natPascal", fn := fun _ => fun
  | [d1, d2] => { results := [.lit (.bool false)], args := [d1, d2] }
  | _ => none }
def NatPascalWrongFalsely : Prop := natPascalRow.holds Try.pinned (OpenSpec.ofChange natPascalWrong)

/-- 'codewrightlaw01.NatExponents': WHATEVER THE INPUT: true; the input reads as it did. -/
def natExponentsSpec : ChangeSpec := { name := "natExponents", fn := fun _ => fun
  | [d1, d2, d3, d4] => { results := [.lit (.bool true)], args := [d1, d2, d3, d4] }
  | _ => none }
def natExponentsRow : OpenClaim := { program := "ytpfhohfcohkhnaa", sum := "d6c1ee32af6e94c15593c2cc24d4ebe95dd0187f3969f550964b465b813627bd", func := "codewright/codewrightlaw01.NatExponents", spec := "natExponents", apart := false }
def NatExponentsSaid : Prop := natExponentsRow.holds Try.pinned (OpenSpec.ofChange natExponentsSpec)

/-- ITS FALSE NEIGHBOUR: 'it returns false'. Refute it at one input. -/
def natExponentsWrong : ChangeSpec := { name := "natExponents", fn := fun _ => fun
  | [d1, d2, d3, d4] => { results := [.lit (.bool false)], args := [d1, d2, d3, d4] }
  | _ => none }
def NatExponentsWrongFalsely : Prop := natExponentsRow.holds Try.pinned (OpenSpec.ofChange natExponentsWrong)

/-- 'codewrightlaw01.NatVandermonde': WHATEVER THE INPUT: true; the input reads as it did. -/
def natVandermondeSpec : ChangeSpec := { name := "natVandermonde", fn := fun _ => fun
  | [d1, d2, d3] => { results := [.lit (.bool true)], args := [d1, d2, d3] }
  | _ => none }
def natVandermondeRow : OpenClaim := { program := "ytpfhohfcohkhnaa", sum := "d6c1ee32af6e94c15593c2cc24d4ebe95dd0187f3969f550964b465b813627bd", func := "codewright/codewrightlaw01.NatVandermonde", spec := "natVandermonde", apart := false }
def NatVandermondeSaid : Prop := natVandermondeRow.holds Try.pinned (OpenSpec.ofChange natVandermondeSpec)

/-- ITS FALSE NEIGHBOUR: 'it returns false'. Refute it at one input. -/
def natVandermondeWrong : ChangeSpec := { name := "natVandermonde", fn := fun _ => fun
  | [d1, d2, d3] => { results := [.lit (.bool false)], args := [d1, d2, d3] }
  | _ => none }
def NatVandermondeWrongFalsely : Prop := natVandermondeRow.holds Try.pinned (OpenSpec.ofChange natVandermondeWrong)

/-- 'codewrightlaw01.NatAdds': WHATEVER THE INPUT: true; the input reads as it did. -/
def natAddsSpec : ChangeSpec := { name := "natAdds", fn := fun _ => fun
  | [d1, d2] => { results := [.lit (.bool true)], args := [d1, d2] }
  | _ => none }
def natAddsRow : OpenClaim := { program := "ytpfhohfcohkhnaa", sum := "d6c1ee32af6e94c15593c2cc24d4ebe95dd0187f3969f550964b465b813627bd", func := "codewright/codewrightlaw01.NatAdds", spec := "natAdds", apart := false }
def NatAddsSaid : Prop := natAddsRow.holds Try.pinned (OpenSpec.ofChange natAddsSpec)

/-- ITS FALSE NEIGHBOUR: 'it returns false'. Refute it at one input. -/
def natAddsWrong : ChangeSpec := { name := "natAdds", fn := fun _ => fun
  | [d1, d2] => { results := [.lit (.bool false)], args := [d1, d2] }
  | _ => none }
def NatAddsWrongFalsely : Prop := natAddsRow.holds Try.pinned (OpenSpec.ofChange natAddsWrong)

/-- 'codewrightlaw46.SemiringCounts': WHATEVER THE INPUT: true; the input reads as it did. -/
def semiringCountsSpec : ChangeSpec := { name := "semiringCounts", fn := fun _ => fun
  | [d1, d2, d3] => { results := [.lit (.bool true)], args := [d1, d2, d3] }
  | _ => none }
def semiringCountsRow : OpenClaim := { program := "ytpfhohfcohkhnaa", sum := "d6c1ee32af6e94c15593c2cc24d4ebe95dd0187f3969f550964b465b813627bd", func := "codewright/codewrightlaw46.SemiringCounts", spec := "semiringCounts", apart := false }
def SemiringCountsSaid : Prop := semiringCountsRow.holds Try.pinned (OpenSpec.ofChange semiringCountsSpec)

/-- ITS FALSE NEIGHBOUR: 'it returns false'. Refute it at one input. -/
def semiringCountsWrong : ChangeSpec := { name := "semiringCounts", fn := fun _ => fun
  | [d1, d2, d3] => { results := [.lit (.bool false)], args := [d1, d2, d3] }
  | _ => none }
def SemiringCountsWrongFalsely : Prop := semiringCountsRow.holds Try.pinned (OpenSpec.ofChange semiringCountsWrong)

/-- 'codewrightlaw01.NatCommon': WHATEVER THE INPUT: true; the input reads as it did. -/
def natCommonSpec : ChangeSpec := { name := "natCommon", fn := fun _ => fun
  | [d1, d2, d3] => { results := [.lit (.bool true)], args := [d1, d2, d3] }
  | _ => none }
def natCommonRow : OpenClaim := { program := "ytpfhohfcohkhnaa", sum := "d6c1ee32af6e94c15593c2cc24d4ebe95dd0187f3969f550964b465b813627bd", func := "codewright/codewrightlaw01.NatCommon", spec := "natCommon", apart := false }
def NatCommonSaid : Prop := natCommonRow.holds Try.pinned (OpenSpec.ofChange natCommonSpec)

/-- ITS FALSE NEIGHBOUR: 'it returns false'. Refute it at one input. -/
def natCommonWrong : ChangeSpec := { name := "natCommon", fn := fun _ => fun
  | [d1, d2, d3] => { results := [.lit (.bool false)], args := [d1, d2, d3] }
  | _ => none }
def NatCommonWrongFalsely : Prop := natCommonRow.holds Try.pinned (OpenSpec.ofChange natCommonWrong)

/-- 'codewrightlaw01.NatGcds': WHATEVER THE INPUT: true; the input reads as it did. -/
def natGcdsSpec : ChangeSpec := { name := "natGcds", fn := fun _ => fun
  | [d1, d2, d3] => { results := [.lit (.bool true)], args := [d1, d2, d3] }
  | _ => none }
def natGcdsRow : OpenClaim := { program := "ytpfhohfcohkhnaa", sum := "d6c1ee32af6e94c15593c2cc24d4ebe95dd0187f3969f550964b465b813627bd", func := "codewright/codewrightlaw01.NatGcds", spec := "natGcds", apart := false }
def NatGcdsSaid : Prop := natGcdsRow.holds Try.pinned (OpenSpec.ofChange natGcdsSpec)

/-- ITS FALSE NEIGHBOUR: 'it returns false'. Refute it at one input. -/
def natGcdsWrong : ChangeSpec := { name := "natGcds", fn := fun _ => fun
  | [d1, d2, d3] => { results := [.lit (.bool false)], args := [d1, d2, d3] }
  | _ => none }
def NatGcdsWrongFalsely : Prop := natGcdsRow.holds Try.pinned (OpenSpec.ofChange natGcdsWrong)

/-- 'codewrightlaw01.NatDivisions': WHATEVER THE INPUT: true; the input reads as it did. -/
def natDivisionsSpec : ChangeSpec := { name := "natDivisions", fn := fun _ => fun
  | [d1, d2, d3] => { results := [.lit (.bool true)], args := [d1, d2, d3] }
  | _ => none }
def natDivisionsRow : OpenClaim := { program := "ytpfhohfcohkhnaa", sum := "d6c1ee32af6e94c15593c2cc24d4ebe95dd0187f3969f550964b465b813627bd", func := "codewright/codewrightlaw01.NatDivisions", spec := "natDivisions", apart := false }
def NatDivisionsSaid : Prop := natDivisionsRow.holds Try.pinned (OpenSpec.ofChange natDivisionsSpec)

/-- ITS FALSE NEIGHBOUR: 'it returns false'. Refute it at one input. -/
def natDivisionsWrong : ChangeSpec := { name := "natDivisions", fn := fun _ => fun
  | [d1, d2, d3] => { results := [.lit (.bool false)], args := [d1, d2, d3] }
  | _ => none }
def NatDivisionsWrongFalsely : Prop := natDivisionsRow.holds Try.pinned (OpenSpec.ofChange natDivisionsWrong)

/- THE SECOND FORM. 'bulk': how many values and letters a reading holds, each counted each time it is reached (what is shared counts as often as it is met; a slice's spare places count too). A statement '..UptoSaid' is the law's where the arguments, and the package variables that the reading takes, are together of bulk at most 1048576: NARROWER than '..Said'. Prove '..Said' where nothing that the law and all that it calls make is longer than what came in: it says more and counts as full. Else prove '..UptoSaid'. A law counts once. -/
mutual
def uptoBulk {H : Type} : DataW H → Nat
  | .lit (.string bytes) => bytes.length + 1
  | .lit _ => 1
  | .nil => 1
  | .ptr d => uptoBulk d + 1
  | .slice elems spare => uptoBulkAll elems + uptoBulkAll spare + 1
  | .agg parts => uptoBulkAll parts + 1
  | .iface _ d => uptoBulk d + 1
  | .map entries => uptoBulkEntries entries + 1
  | .held _ => 1
def uptoBulkAll {H : Type} : List (DataW H) → Nat
  | [] => 0
  | d :: r => uptoBulk d + uptoBulkAll r
def uptoBulkEntries {H : Type} : List (Lit × DataW H) → Nat
  | [] => 0
  | x :: r => uptoBulkEntry x + uptoBulkEntries r
def uptoBulkEntry {H : Type} : Lit × DataW H → Nat
  | (.string bytes, d) => bytes.length + uptoBulk d + 1
  | (_, d) => uptoBulk d + 1
 end
def uptoSmall : (H : Type) → List (DataW H) → Bool := fun _ ds => decide (uptoBulkAll ds ≤ 1048576)
def OpenSpec.upto (s : _root_.Go.ChangeSpec) : _root_.Go.OpenSpec := { _root_.Go.OpenSpec.ofChange s with cond := some uptoSmall }

/-- 'codewrightlaw46.SemiringBooleans', WHERE WHAT IT READS IS OF BULK AT MOST 1048576: true; the input reads as it did. -/
def semiringBooleansUptoRow : OpenClaim := { program := "ytpfhohfcohkhnaa", sum := "d6c1ee32af6e94c15593c2cc24d4ebe95dd0187f3969f550964b465b813627bd", func := "codewright/codewrightlaw46.SemiringBooleans", spec := "semiringBooleans", apart := false, narrowed := true }
def SemiringBooleansUptoSaid : Prop := semiringBooleansUptoRow.holds Try.pinned (OpenSpec.upto semiringBooleansSpec)

/-- 'codewrightlaw46.SemiringCosts', WHERE WHAT IT READS IS OF BULK AT MOST 1048576: true; the input reads as it did. -/
def semiringCostsUptoRow : OpenClaim := { program := "ytpfhohfcohkhnaa", sum := "d6c1ee32af6e94c15593c2cc24d4ebe95dd0187f3969f550964b465b813627bd", func := "codewright/codewrightlaw46.SemiringCosts", spec := "semiringCosts", apart := false, narrowed := true }
def SemiringCostsUptoSaid : Prop := semiringCostsUptoRow.holds Try.pinned (OpenSpec.upto semiringCostsSpec)

/-- 'codewrightlaw46.SemiringGains', WHERE WHAT IT READS IS OF BULK AT MOST 1048576: true; the input reads as it did. -/
def semiringGainsUptoRow : OpenClaim := { program := "ytpfhohfcohkhnaa", sum := "d6c1ee32af6e94c15593c2cc24d4ebe95dd0187f3969f550964b465b813627bd", func := "codewright/codewrightlaw46.SemiringGains", spec := "semiringGains", apart := false, narrowed := true }
def SemiringGainsUptoSaid : Prop := semiringGainsUptoRow.holds Try.pinned (OpenSpec.upto semiringGainsSpec)

/-- 'codewrightlaw46.SemiringShapes', WHERE WHAT IT READS IS OF BULK AT MOST 1048576: true; the input reads as it did. -/
def semiringShapesUptoRow : OpenClaim := { program := "ytpfhohfcohkhnaa", sum := "d6c1ee32af6e94c15593c2cc24d4ebe95dd0187f3969f550964b465b813627bd", func := "codewright/codewrightlaw46.SemiringShapes", spec := "semiringShapes", apart := false, narrowed := true }
def SemiringShapesUptoSaid : Prop := semiringShapesUptoRow.holds Try.pinned (OpenSpec.upto semiringShapesSpec)

/-- 'codewrightlaw01.NatForms', WHERE WHAT IT READS IS OF BULK AT MOST 1048576: true; the input reads as it did. -/
def natFormsUptoRow : OpenClaim := { program := "ytpfhohfcohkhnaa", sum := "d6c1ee32af6e94c15593c2cc24d4ebe95dd0187f3969f550964b465b813627bd", func := "codewright/codewrightlaw01.NatForms", spec := "natForms", apart := false, narrowed := true }
def NatFormsUptoSaid : Prop := natFormsUptoRow.holds Try.pinned (OpenSpec.upto natFormsSpec)

/-- 'codewrightlaw01.NatBinomials', WHERE WHAT IT READS IS OF BULK AT MOST 1048576: true; the input reads as it did. -/
def natBinomialsUptoRow : OpenClaim := { program := "ytpfhohfcohkhnaa", sum := "d6c1ee32af6e94c15593c2cc24d4ebe95dd0187f3969f550964b465b813627bd", func := "codewright/codewrightlaw01.NatBinomials", spec := "natBinomials", apart := false, narrowed := true }
def NatBinomialsUptoSaid : Prop := natBinomialsUptoRow.holds Try.pinned (OpenSpec.upto natBinomialsSpec)

/-- 'codewrightlaw01.NatSums', WHERE WHAT IT READS IS OF BULK AT MOST 1048576: true; the input reads as it did. -/
def natSumsUptoRow : OpenClaim := { program := "ytpfhohfcohkhnaa", sum := "d6c1ee32af6e94c15593c2cc24d4ebe95dd0187f3969f550964b465b813627bd", func := "codewright/codewrightlaw01.NatSums", spec := "natSums", apart := false, narrowed := true }
def NatSumsUptoSaid : Prop := natSumsUptoRow.holds Try.pinned (OpenSpec.upto natSumsSpec)

/-- 'codewrightlaw01.NatRing', WHERE WHAT IT READS IS OF BULK AT MOST 1048576: true; the input reads as it did. -/
def natRingUptoRow : OpenClaim := { program := "ytpfhohfcohkhnaa", sum := "d6c1ee32af6e94c15593c2cc24d4ebe95dd0187f3969f550964b465b813627bd", func := "codewright/codewrightlaw01.NatRing", spec := "natRing", apart := false, narrowed := true }
def NatRingUptoSaid : Prop := natRingUptoRow.holds Try.pinned (OpenSpec.upto natRingSpec)

/-- 'codewrightlaw01.NatOrders', WHERE WHAT IT READS IS OF BULK AT MOST 1048576: true; the input reads as it did. -/
def natOrdersUptoRow : OpenClaim := { program := "ytpfhohfcohkhnaa", sum := "d6c1ee32af6e94c15593c2cc24d4ebe95dd0187f3969f550964b465b813627bd", func := "codewright/codewrightlaw01.NatOrders", spec := "natOrders", apart := false, narrowed := true }
def NatOrdersUptoSaid : Prop := natOrdersUptoRow.holds Try.pinned (OpenSpec.upto natOrdersSpec)

/-- 'codewrightlaw01.NatPowers', WHERE WHAT IT READS IS OF BULK AT MOST 1048576: true; the input reads as it did. -/
def natPowersUptoRow : OpenClaim := { program := "ytpfhohfcohkhnaa", sum := "d6c1ee32af6e94c15593c2cc24d4ebe95dd0187f3969f550964b465b813627bd", func := "codewright/codewrightlaw01.NatPowers", spec := "natPowers", apart := false, narrowed := true }
def NatPowersUptoSaid : Prop := natPowersUptoRow.holds Try.pinned (OpenSpec.upto natPowersSpec)

/-- 'codewrightlaw01.NatPascal', WHERE WHAT IT READS IS OF BULK AT MOST 1048576: true; the input reads as it did. -/
def natPascalUptoRow : OpenClaim := { program := "ytpfhohfcohkhnaa", sum := "d6c1ee32af6e94c15593c2cc24d4ebe95dd0187f3969f550964b465b813627bd", func := "codewright/codewrightlaw01.NatPascal", spec := "natPascal", apart := false, narrowed := true }
def NatPascalUptoSaid : Prop := natPascalUptoRow.holds Try.pinned (OpenSpec.upto natPascalSpec)

/-- 'codewrightlaw01.NatExponents', WHERE WHAT IT READS IS OF BULK AT MOST 1048576: true; the input reads as it did. -/
def natExponentsUptoRow : OpenClaim := { program := "ytpfhohfcohkhnaa", sum := "d6c1ee32af6e94c15593c2cc24d4ebe95dd0187f3969f550964b465b813627bd", func := "codewright/codewrightlaw01.NatExponents", spec := "natExponents", apart := false, narrowed := true }
def NatExponentsUptoSaid : Prop := natExponentsUptoRow.holds Try.pinned (OpenSpec.upto natExponentsSpec)

/-- 'codewrightlaw01.NatVandermonde', WHERE WHAT IT READS IS OF BULK AT MOST 1048576: true; the input reads as it did. -/
def natVandermondeUptoRow : OpenClaim := { program := "ytpfhohfcohkhnaa", sum := "d6c1ee32af6e94c15593c2cc24d4ebe95dd0187f3969f550964b465b813627bd", func := "codewright/codewrightlaw01.NatVandermonde", spec := "natVandermonde", apart := false, narrowed := true }
def NatVandermondeUptoSaid : Prop := natVandermondeUptoRow.holds Try.pinned (OpenSpec.upto natVandermondeSpec)

/-- 'codewrightlaw01.NatAdds', WHERE WHAT IT READS IS OF BULK AT MOST 1048576: true; the input reads as it did. -/
def natAddsUptoRow : OpenClaim := { program := "ytpfhohfcohkhnaa", sum := "d6c1ee32af6e94c15593c2cc24d4ebe95dd0187f3969f550964b465b813627bd", func := "codewright/codewrightlaw01.NatAdds", spec := "natAdds", apart := false, narrowed := true }
def NatAddsUptoSaid : Prop := natAddsUptoRow.holds Try.pinned (OpenSpec.upto natAddsSpec)

/-- 'codewrightlaw46.SemiringCounts', WHERE WHAT IT READS IS OF BULK AT MOST 1048576: true; the input reads as it did. -/
def semiringCountsUptoRow : OpenClaim := { program := "ytpfhohfcohkhnaa", sum := "d6c1ee32af6e94c15593c2cc24d4ebe95dd0187f3969f550964b465b813627bd", func := "codewright/codewrightlaw46.SemiringCounts", spec := "semiringCounts", apart := false, narrowed := true }
def SemiringCountsUptoSaid : Prop := semiringCountsUptoRow.holds Try.pinned (OpenSpec.upto semiringCountsSpec)

/-- 'codewrightlaw01.NatCommon', WHERE WHAT IT READS IS OF BULK AT MOST 1048576: true; the input reads as it did. -/
def natCommonUptoRow : OpenClaim := { program := "ytpfhohfcohkhnaa", sum := "d6c1ee32af6e94c15593c2cc24d4ebe95dd0187f3969f550964b465b813627bd", func := "codewright/codewrightlaw01.NatCommon", spec := "natCommon", apart := false, narrowed := true }
def NatCommonUptoSaid : Prop := natCommonUptoRow.holds Try.pinned (OpenSpec.upto natCommonSpec)

/-- 'codewrightlaw01.NatGcds', WHERE WHAT IT READS IS OF BULK AT MOST 1048576: true; the input reads as it did. -/
def natGcdsUptoRow : OpenClaim := { program := "ytpfhohfcohkhnaa", sum := "d6c1ee32af6e94c15593c2cc24d4ebe95dd0187f3969f550964b465b813627bd", func := "codewright/codewrightlaw01.NatGcds", spec := "natGcds", apart := false, narrowed := true }
def NatGcdsUptoSaid : Prop := natGcdsUptoRow.holds Try.pinned (OpenSpec.upto natGcdsSpec)

/-- 'codewrightlaw01.NatDivisions', WHERE WHAT IT READS IS OF BULK AT MOST 1048576: true; the input reads as it did. -/
def natDivisionsUptoRow : OpenClaim := { program := "ytpfhohfcohkhnaa", sum := "d6c1ee32af6e94c15593c2cc24d4ebe95dd0187f3969f550964b465b813627bd", func := "codewright/codewrightlaw01.NatDivisions", spec := "natDivisions", apart := false, narrowed := true }
def NatDivisionsUptoSaid : Prop := natDivisionsUptoRow.holds Try.pinned (OpenSpec.upto natDivisionsSpec)

end Rows
end Go.Proofs.Ytpfhohfcohkhnaa

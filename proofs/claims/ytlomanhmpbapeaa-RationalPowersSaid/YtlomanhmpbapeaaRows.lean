/-
  No cell of these rows narrows 'for every input' (looked for: loops, veiled, ifaces, maps, wideKeys, modest, calm, conditions, laid).
  DERIVED. THE GIVEN ROWS OF THIS SEAT. 13 by the template 'for every input the law returns true; each argument reads behind the call as it read before'; 0 by the template 'total and deterministic' (their statements: YtlomanhmpbapeaaTotals.lean).
  GIVEN WITH THE SEED: the statements are not yours to turn. If you find one false, say at which input.
  Laid BY PROGRAM, IN A SANDBOX (cutbox-rows.mjs): the forced cells as the released guide's own fill.sh prints them over the translation e0c3514d7d8644d7… (all of the seat's roots in one cut). By AI agents, Wed Nov 11 2026. No macro, syntax, notation, axiom, sorry.
-/
import Derived.Test.YtlomanhmpbapeaaChecked
import GoSem.Claim
import GoSem.ClaimJoined
import GoSem.ClaimMapViews
import Derived.JoinedTies
import Derived.KernelRfl
namespace Go.Proofs.Ytlomanhmpbapeaa
/- THE CELL 'sum', in the pinned program and in every row, IS THE sha256 OF THE DUMP (.gsa) THAT YtlomanhmpbapeaaProg.lean LOADS. Nothing in Lean hashes anything: it is a label: what it is worth is what the hold of that sum in a sandbox is worth. -/
noncomputable def Try.pinned : Pinned := { name := "ytlomanhmpbapeaa", sum := "e0c3514d7d8644d720e5a086766a8c155eefa16ed77cba59884e193a06bdc9f0", checked := Try.checked }
namespace Rows
def none {H : Type} : Left H := { results := [], args := [] }

/-- 'codewrightlaw02.RationalRatios': WHATEVER THE INPUT: true; the input reads as it did. -/
def rationalRatiosSpec : ChangeSpec := { name := "rationalRatios", fn := fun _ => fun
  | [d1, d2] => { results := [.lit (.bool true)], args := [d1, d2] }
  | _ => none }
def rationalRatiosRow : OpenClaim := { program := "ytlomanhmpbapeaa", sum := "e0c3514d7d8644d720e5a086766a8c155eefa16ed77cba59884e193a06bdc9f0", func := "codewright/codewrightlaw02.RationalRatios", spec := "rationalRatios", apart := false }
def RationalRatiosSaid : Prop := rationalRatiosRow.holds Try.pinned (OpenSpec.ofChange rationalRatiosSpec)

/-- ITS FALSE NEIGHBOUR: 'it returns false'. Refute it at one input. -/
def rationalRatiosWrong : ChangeSpec := { name := "rationalRatios", fn := fun _ => fun
  | [d1, d2] => { results := [.lit (.bool false)], args := [d1, d2] }
  | _ => none }
def RationalRatiosWrongFalsely : Prop := rationalRatiosRow.holds Try.pinned (OpenSpec.ofChange rationalRatiosWrong)

/-- 'codewrightlaw02.RationalMakes': WHATEVER THE INPUT: true; the input reads as it did. -/
def rationalMakesSpec : ChangeSpec := { name := "rationalMakes", fn := fun _ => fun
  | [d1, d2] => { results := [.lit (.bool true)], args := [d1, d2] }
  | _ => none }
def rationalMakesRow : OpenClaim := { program := "ytlomanhmpbapeaa", sum := "e0c3514d7d8644d720e5a086766a8c155eefa16ed77cba59884e193a06bdc9f0", func := "codewright/codewrightlaw02.RationalMakes", spec := "rationalMakes", apart := false }
def RationalMakesSaid : Prop := rationalMakesRow.holds Try.pinned (OpenSpec.ofChange rationalMakesSpec)

/-- ITS FALSE NEIGHBOUR: 'it returns false'. Refute it at one input. -/
def rationalMakesWrong : ChangeSpec := { name := "rationalMakes", fn := fun _ => fun
  | [d1, d2] => { results := [.lit (.bool false)], args := [d1, d2] }
  | _ => none }
def RationalMakesWrongFalsely : Prop := rationalMakesRow.holds Try.pinned (OpenSpec.ofChange rationalMakesWrong)

/-- 'codewrightlaw02.RationalForms': WHATEVER THE INPUT: true; the input reads as it did. -/
def rationalFormsSpec : ChangeSpec := { name := "rationalForms", fn := fun _ => fun
  | [d] => { results := [.lit (.bool true)], args := [d] }
  | _ => none }
def rationalFormsRow : OpenClaim := { program := "ytlomanhmpbapeaa", sum := "e0c3514d7d8644d720e5a086766a8c155eefa16ed77cba59884e193a06bdc9f0", func := "codewright/codewrightlaw02.RationalForms", spec := "rationalForms", apart := false }
def RationalFormsSaid : Prop := rationalFormsRow.holds Try.pinned (OpenSpec.ofChange rationalFormsSpec)

/-- ITS FALSE NEIGHBOUR: 'it returns false'. Refute it at one input. -/
def rationalFormsWrong : ChangeSpec := { name := "rationalForms", fn := fun _ => fun
  | [d] => { results := [.lit (.bool false)], args := [d] }
  | _ => none }
def RationalFormsWrongFalsely : Prop := rationalFormsRow.holds Try.pinned (OpenSpec.ofChange rationalFormsWrong)

/-- 'codewrightlaw02.RationalDivides': WHATEVER THE INPUT: true; the input reads as it did. -/
def rationalDividesSpec : ChangeSpec := { name := "rationalDivides", fn := fun _ => fun
  | [d1, d2] => { results := [.lit (.bool true)], args := [d1, d2] }
  | _ => none }
def rationalDividesRow : OpenClaim := { program := "ytlomanhmpbapeaa", sum := "e0c3514d7d8644d720e5a086766a8c155eefa16ed77cba59884e193a06bdc9f0", func := "codewright/codewrightlaw02.RationalDivides", spec := "rationalDivides", apart := false }
def RationalDividesSaid : Prop := rationalDividesRow.holds Try.pinned (OpenSpec.ofChange rationalDividesSpec)

/-- ITS FALSE NEIGHBOUR: 'it returns false'. Refute it at one input. -/
def rationalDividesWrong : ChangeSpec := { name := "rationalDivides", fn := fun _ => fun
  | [d1, d2] => { results := [.lit (.bool false)], args := [d1, d2] }
  | _ => none }
def RationalDividesWrongFalsely : Prop := rationalDividesRow.holds Try.pinned (OpenSpec.ofChange rationalDividesWrong)

/-- 'codewrightlaw02.RationalPowers': WHATEVER THE INPUT: true; the input reads as it did. -/
def rationalPowersSpec : ChangeSpec := { name := "rationalPowers", fn := fun _ => fun
  | [d1, d2] => { results := [.lit (.bool true)], args := [d1, d2] }
  | _ => none }
def rationalPowersRow : OpenClaim := { program := "ytlomanhmpbapeaa", sum := "e0c3514d7d8644d720e5a086766a8c155eefa16ed77cba59884e193a06bdc9f0", func := "codewright/codewrightlaw02.RationalPowers", spec := "rationalPowers", apart := false }
def RationalPowersSaid : Prop := rationalPowersRow.holds Try.pinned (OpenSpec.ofChange rationalPowersSpec)

/-- ITS FALSE NEIGHBOUR: 'it returns false'. Refute it at one input. -/
def rationalPowersWrong : ChangeSpec := { name := "rationalPowers", fn := fun _ => fun
  | [d1, d2] => { results := [.lit (.bool false)], args := [d1, d2] }
  | _ => none }
def RationalPowersWrongFalsely : Prop := rationalPowersRow.holds Try.pinned (OpenSpec.ofChange rationalPowersWrong)

/-- 'codewrightlaw02.RationalLists': WHATEVER THE INPUT: true; the input reads as it did. -/
def rationalListsSpec : ChangeSpec := { name := "rationalLists", fn := fun _ => fun
  | [d1, d2] => { results := [.lit (.bool true)], args := [d1, d2] }
  | _ => none }
def rationalListsRow : OpenClaim := { program := "ytlomanhmpbapeaa", sum := "e0c3514d7d8644d720e5a086766a8c155eefa16ed77cba59884e193a06bdc9f0", func := "codewright/codewrightlaw02.RationalLists", spec := "rationalLists", apart := false }
def RationalListsSaid : Prop := rationalListsRow.holds Try.pinned (OpenSpec.ofChange rationalListsSpec)

/-- ITS FALSE NEIGHBOUR: 'it returns false'. Refute it at one input. -/
def rationalListsWrong : ChangeSpec := { name := "rationalLists", fn := fun _ => fun
  | [d1, d2] => { results := [.lit (.bool false)], args := [d1, d2] }
  | _ => none }
def RationalListsWrongFalsely : Prop := rationalListsRow.holds Try.pinned (OpenSpec.ofChange rationalListsWrong)

/-- 'codewrightlaw02.RationalDots': WHATEVER THE INPUT: true; the input reads as it did. -/
def rationalDotsSpec : ChangeSpec := { name := "rationalDots", fn := fun _ => fun
  | [d1, d2] => { results := [.lit (.bool true)], args := [d1, d2] }
  | _ => none }
def rationalDotsRow : OpenClaim := { program := "ytlomanhmpbapeaa", sum := "e0c3514d7d8644d720e5a086766a8c155eefa16ed77cba59884e193a06bdc9f0", func := "codewright/codewrightlaw02.RationalDots", spec := "rationalDots", apart := false }
def RationalDotsSaid : Prop := rationalDotsRow.holds Try.pinned (OpenSpec.ofChange rationalDotsSpec)

/-- ITS FALSE NEIGHBOUR: 'it returns false'. Refute it at one input. -/
def rationalDotsWrong : ChangeSpec := { name := "rationalDots", fn := fun _ => fun
  | [d1, d2] => { results := [.lit (.bool false)], args := [d1, d2] }
  | _ => none }
def RationalDotsWrongFalsely : Prop := rationalDotsRow.holds Try.pinned (OpenSpec.ofChange rationalDotsWrong)

/-- 'codewrightlaw02.RationalExponents': WHATEVER THE INPUT: true; the input reads as it did. -/
def rationalExponentsSpec : ChangeSpec := { name := "rationalExponents", fn := fun _ => fun
  | [d1, d2, d3] => { results := [.lit (.bool true)], args := [d1, d2, d3] }
  | _ => none }
def rationalExponentsRow : OpenClaim := { program := "ytlomanhmpbapeaa", sum := "e0c3514d7d8644d720e5a086766a8c155eefa16ed77cba59884e193a06bdc9f0", func := "codewright/codewrightlaw02.RationalExponents", spec := "rationalExponents", apart := false }
def RationalExponentsSaid : Prop := rationalExponentsRow.holds Try.pinned (OpenSpec.ofChange rationalExponentsSpec)

/-- ITS FALSE NEIGHBOUR: 'it returns false'. Refute it at one input. -/
def rationalExponentsWrong : ChangeSpec := { name := "rationalExponents", fn := fun _ => fun
  | [d1, d2, d3] => { results := [.lit (.bool false)], args := [d1, d2, d3] }
  | _ => none }
def RationalExponentsWrongFalsely : Prop := rationalExponentsRow.holds Try.pinned (OpenSpec.ofChange rationalExponentsWrong)

/-- 'codewrightlaw02.RationalOrders': WHATEVER THE INPUT: true; the input reads as it did. -/
def rationalOrdersSpec : ChangeSpec := { name := "rationalOrders", fn := fun _ => fun
  | [d1, d2, d3] => { results := [.lit (.bool true)], args := [d1, d2, d3] }
  | _ => none }
def rationalOrdersRow : OpenClaim := { program := "ytlomanhmpbapeaa", sum := "e0c3514d7d8644d720e5a086766a8c155eefa16ed77cba59884e193a06bdc9f0", func := "codewright/codewrightlaw02.RationalOrders", spec := "rationalOrders", apart := false }
def RationalOrdersSaid : Prop := rationalOrdersRow.holds Try.pinned (OpenSpec.ofChange rationalOrdersSpec)

/-- ITS FALSE NEIGHBOUR: 'it returns false'. Refute it at one input. -/
def rationalOrdersWrong : ChangeSpec := { name := "rationalOrders", fn := fun _ => fun
  | [d1, d2, d3] => { results := [.lit (.bool false)], args := [d1, d2, d3] }
  | _ => none }
def RationalOrdersWrongFalsely : Prop := rationalOrdersRow.holds Try.pinned (OpenSpec.ofChange rationalOrdersWrong)

/-- 'codewrightlaw02.RationalField': WHATEVER THE INPUT: true; the input reads as it did. -/
def rationalFieldSpec : ChangeSpec := { name := "rationalField", fn := fun _ => fun
  | [d1, d2, d3] => { results := [.lit (.bool true)], args := [d1, d2, d3] }
  | _ => none }
def rationalFieldRow : OpenClaim := { program := "ytlomanhmpbapeaa", sum := "e0c3514d7d8644d720e5a086766a8c155eefa16ed77cba59884e193a06bdc9f0", func := "codewright/codewrightlaw02.RationalField", spec := "rationalField", apart := false }
def RationalFieldSaid : Prop := rationalFieldRow.holds Try.pinned (OpenSpec.ofChange rationalFieldSpec)

/-- ITS FALSE NEIGHBOUR: 'it returns false'. Refute it at one input. -/
def rationalFieldWrong : ChangeSpec := { name := "rationalField", fn := fun _ => fun
  | [d1, d2, d3] => { results := [.lit (.bool false)], args := [d1, d2, d3] }
  | _ => none }
def RationalFieldWrongFalsely : Prop := rationalFieldRow.holds Try.pinned (OpenSpec.ofChange rationalFieldWrong)

/-- 'codewrightlaw02.RationalFloors': WHATEVER THE INPUT: true; the input reads as it did. -/
def rationalFloorsSpec : ChangeSpec := { name := "rationalFloors", fn := fun _ => fun
  | [d] => { results := [.lit (.bool true)], args := [d] }
  | _ => none }
def rationalFloorsRow : OpenClaim := { program := "ytlomanhmpbapeaa", sum := "e0c3514d7d8644d720e5a086766a8c155eefa16ed77cba59884e193a06bdc9f0", func := "codewright/codewrightlaw02.RationalFloors", spec := "rationalFloors", apart := false }
def RationalFloorsSaid : Prop := rationalFloorsRow.holds Try.pinned (OpenSpec.ofChange rationalFloorsSpec)

/-- ITS FALSE NEIGHBOUR: 'it returns false'. Refute it at one input. -/
def rationalFloorsWrong : ChangeSpec := { name := "rationalFloors", fn := fun _ => fun
  | [d] => { results := [.lit (.bool false)], args := [d] }
  | _ => none }
def RationalFloorsWrongFalsely : Prop := rationalFloorsRow.holds Try.pinned (OpenSpec.ofChange rationalFloorsWrong)

/-- 'codewrightlaw02.RationalSchwarz': WHATEVER THE INPUT: true; the input reads as it did. -/
def rationalSchwarzSpec : ChangeSpec := { name := "rationalSchwarz", fn := fun _ => fun
  | [d1, d2] => { results := [.lit (.bool true)], args := [d1, d2] }
  | _ => none }
def rationalSchwarzRow : OpenClaim := { program := "ytlomanhmpbapeaa", sum := "e0c3514d7d8644d720e5a086766a8c155eefa16ed77cba59884e193a06bdc9f0", func := "codewright/codewrightlaw02.RationalSchwarz", spec := "rationalSchwarz", apart := false }
def RationalSchwarzSaid : Prop := rationalSchwarzRow.holds Try.pinned (OpenSpec.ofChange rationalSchwarzSpec)

/-- ITS FALSE NEIGHBOUR: 'it returns false'. Refute it at one input. -/
def rationalSchwarzWrong : ChangeSpec := { name := "rationalSchwarz", fn := fun _ => fun
  | [d1, d2] => { results := [.lit (.bool false)], args := [d1, d2] }
  | _ => none }
def RationalSchwarzWrongFalsely : Prop := rationalSchwarzRow.holds Try.pinned (OpenSpec.ofChange rationalSchwarzWrong)

/-- 'codewrightlaw46.SemiringFractions': WHATEVER THE INPUT: true; the input reads as it did. -/
def semiringFractionsSpec : ChangeSpec := { name := "semiringFractions", fn := fun _ => fun
  | [d1, d2, d3] => { results := [.lit (.bool true)], args := [d1, d2, d3] }
  | _ => none }
def semiringFractionsRow : OpenClaim := { program := "ytlomanhmpbapeaa", sum := "e0c3514d7d8644d720e5a086766a8c155eefa16ed77cba59884e193a06bdc9f0", func := "codewright/codewrightlaw46.SemiringFractions", spec := "semiringFractions", apart := false }
def SemiringFractionsSaid : Prop := semiringFractionsRow.holds Try.pinned (OpenSpec.ofChange semiringFractionsSpec)

/-- ITS FALSE NEIGHBOUR: 'it returns false'. Refute it at one input. -/
def semiringFractionsWrong : ChangeSpec := { name := "semiringFractions", fn := fun _ => fun
  | [d1, d2, d3] => { results := [.lit (.bool false)], args := [d1, d2, d3] }
  | _ => none }
def SemiringFractionsWrongFalsely : Prop := semiringFractionsRow.holds Try.pinned (OpenSpec.ofChange semiringFractionsWrong)

/- THE SECOND FORM. 'bulk': how many values and letters a reading holds, each counted each time it is reached (what is shared counts as often as it is met; a slice's spare places count too). A statement '..UptoSaid' is the law's where the arguments, and the package variables that the reading takes, are together of bulk at most 1048576: NARROWER than '..Said'. Prove '..Said' where nothing that the law and all that it calls make is longer than what came in: it says more and counts as full. Else prove '..UptoSaid'. A law counts once. -/
mutual
def uptoBulk {H : Type} : DataW H → Nat
  | .lit (.string bytes) => bytes.length + 1
  | .lit _ => 1
  | .nil => 1
  | .ptr d => uptoBulk d + 1
  | .slice elems spare => uptoBulkAll elems + uptoBulkAll spare + 1
  | .agg parts => uptoBulkAll parts + 1
  | .iface _ d => uptoBulk d + 1
  | .map entries => uptoBulkEntries entries + 1
  | .held _ => 1
def uptoBulkAll {H : Type} : List (DataW H) → Nat
  | [] => 0
  | d :: r => uptoBulk d + uptoBulkAll r
def uptoBulkEntries {H : Type} : List (Lit × DataW H) → Nat
  | [] => 0
  | x :: r => uptoBulkEntry x + uptoBulkEntries r
def uptoBulkEntry {H : Type} : Lit × DataW H → Nat
  | (.string bytes, d) => bytes.length + uptoBulk d + 1
  | (_, d) => uptoBulk d + 1
 end
def uptoSmall : (H : Type) → List (DataW H) → Bool := fun _ ds => decide (uptoBulkAll ds ≤ 1048576)
def OpenSpec.upto (s : _root_.Go.ChangeSpec) : _root_.Go.OpenSpec := { _root_.Go.OpenSpec.ofChange s with cond := some uptoSmall }

/-- 'codewrightlaw02.RationalRatios', WHERE WHAT IT READS IS OF BULK AT MOST 1048576: true; the input reads as it did. -/
def rationalRatiosUptoRow : OpenClaim := { program := "ytlomanhmpbapeaa", sum := "e0c3514d7d8644d720e5a086766a8c155eefa16ed77cba59884e193a06bdc9f0", func := "codewright/codewrightlaw02.RationalRatios", spec := "rationalRatios", apart := false, narrowed := true }
def RationalRatiosUptoSaid : Prop := rationalRatiosUptoRow.holds Try.pinned (OpenSpec.upto rationalRatiosSpec)

/-- 'codewrightlaw02.RationalMakes', WHERE WHAT IT READS IS OF BULK AT MOST 1048576: true; the input reads as it did. -/
def rationalMakesUptoRow : OpenClaim := { program := "ytlomanhmpbapeaa", sum := "e0c3514d7d8644d720e5a086766a8c155eefa16ed77cba59884e193a06bdc9f0", func := "codewright/codewrightlaw02.RationalMakes", spec := "rationalMakes", apart := false, narrowed := true }
def RationalMakesUptoSaid : Prop := rationalMakesUptoRow.holds Try.pinned (OpenSpec.upto rationalMakesSpec)

/-- 'codewrightlaw02.RationalForms', WHERE WHAT IT READS IS OF BULK AT MOST 1048576: true; the input reads as it did. -/
def rationalFormsUptoRow : OpenClaim := { program := "ytlomanhmpbapeaa", sum := "e0c3514d7d8644d720e5a086766a8c155eefa16ed77cba59884e193a06bdc9f0", func := "codewright/codewrightlaw02.RationalForms", spec := "rationalForms", apart := false, narrowed := true }
def RationalFormsUptoSaid : Prop := rationalFormsUptoRow.holds Try.pinned (OpenSpec.upto rationalFormsSpec)

/-- 'codewrightlaw02.RationalDivides', WHERE WHAT IT READS IS OF BULK AT MOST 1048576: true; the input reads as it did. -/
def rationalDividesUptoRow : OpenClaim := { program := "ytlomanhmpbapeaa", sum := "e0c3514d7d8644d720e5a086766a8c155eefa16ed77cba59884e193a06bdc9f0", func := "codewright/codewrightlaw02.RationalDivides", spec := "rationalDivides", apart := false, narrowed := true }
def RationalDividesUptoSaid : Prop := rationalDividesUptoRow.holds Try.pinned (OpenSpec.upto rationalDividesSpec)

/-- 'codewrightlaw02.RationalPowers', WHERE WHAT IT READS IS OF BULK AT MOST 1048576: true; the input reads as it did. -/
def rationalPowersUptoRow : OpenClaim := { program := "ytlomanhmpbapeaa", sum := "e0c3514d7d8644d720e5a086766a8c155eefa16ed77cba59884e193a06bdc9f0", func := "codewright/codewrightlaw02.RationalPowers", spec := "rationalPowers", apart := false, narrowed := true }
def RationalPowersUptoSaid : Prop := rationalPowersUptoRow.holds Try.pinned (OpenSpec.upto rationalPowersSpec)

/-- 'codewrightlaw02.RationalLists', WHERE WHAT IT READS IS OF BULK AT MOST 1048576: true; the input reads as it did. -/
def rationalListsUptoRow : OpenClaim := { program := "ytlomanhmpbapeaa", sum := "e0c3514d7d8644d720e5a086766a8c155eefa16ed77cba59884e193a06bdc9f0", func := "codewright/codewrightlaw02.RationalLists", spec := "rationalLists", apart := false, narrowed := true }
def RationalListsUptoSaid : Prop := rationalListsUptoRow.holds Try.pinned (OpenSpec.upto rationalListsSpec)

/-- 'codewrightlaw02.RationalDots', WHERE WHAT IT READS IS OF BULK AT MOST 1048576: true; the input reads as it did. -/
def rationalDotsUptoRow : OpenClaim := { program := "ytlomanhmpbapeaa", sum := "e0c3514d7d8644d720e5a086766a8c155eefa16ed77cba59884e193a06bdc9f0", func := "codewright/codewrightlaw02.RationalDots", spec := "rationalDots", apart := false, narrowed := true }
def RationalDotsUptoSaid : Prop := rationalDotsUptoRow.holds Try.pinned (OpenSpec.upto rationalDotsSpec)

/-- 'codewrightlaw02.RationalExponents', WHERE WHAT IT READS IS OF BULK AT MOST 1048576: true; the input reads as it did. -/
def rationalExponentsUptoRow : OpenClaim := { program := "ytlomanhmpbapeaa", sum := "e0c3514d7d8644d720e5a086766a8c155eefa16ed77cba59884e193a06bdc9f0", func := "codewright/codewrightlaw02.RationalExponents", spec := "rationalExponents", apart := false, narrowed := true }
def RationalExponentsUptoSaid : Prop := rationalExponentsUptoRow.holds Try.pinned (OpenSpec.upto rationalExponentsSpec)

/-- 'codewrightlaw02.RationalOrders', WHERE WHAT IT READS IS OF BULK AT MOST 1048576: true; the input reads as it did. -/
def rationalOrdersUptoRow : OpenClaim := { program := "ytlomanhmpbapeaa", sum := "e0c3514d7d8644d720e5a086766a8c155eefa16ed77cba59884e193a06bdc9f0", func := "codewright/codewrightlaw02.RationalOrders", spec := "rationalOrders", apart := false, narrowed := true }
def RationalOrdersUptoSaid : Prop := rationalOrdersUptoRow.holds Try.pinned (OpenSpec.upto rationalOrdersSpec)

/-- 'codewrightlaw02.RationalField', WHERE WHAT IT READS IS OF BULK AT MOST 1048576: true; the input reads as it did. -/
def rationalFieldUptoRow : OpenClaim := { program := "ytlomanhmpbapeaa", sum := "e0c3514d7d8644d720e5a086766a8c155eefa16ed77cba59884e193a06bdc9f0", func := "codewright/codewrightlaw02.RationalField", spec := "rationalField", apart := false, narrowed := true }
def RationalFieldUptoSaid : Prop := rationalFieldUptoRow.holds Try.pinned (OpenSpec.upto rationalFieldSpec)

/-- 'codewrightlaw02.RationalFloors', WHERE WHAT IT READS IS OF BULK AT MOST 1048576: true; the input reads as it did. -/
def rationalFloorsUptoRow : OpenClaim := { program := "ytlomanhmpbapeaa", sum := "e0c3514d7d8644d720e5a086766a8c155eefa16ed77cba59884e193a06bdc9f0", func := "codewright/codewrightlaw02.RationalFloors", spec := "rationalFloors", apart := false, narrowed := true }
def RationalFloorsUptoSaid : Prop := rationalFloorsUptoRow.holds Try.pinned (OpenSpec.upto rationalFloorsSpec)

/-- 'codewrightlaw02.RationalSchwarz', WHERE WHAT IT READS IS OF BULK AT MOST 1048576: true; the input reads as it did. -/
def rationalSchwarzUptoRow : OpenClaim := { program := "ytlomanhmpbapeaa", sum := "e0c3514d7d8644d720e5a086766a8c155eefa16ed77cba59884e193a06bdc9f0", func := "codewright/codewrightlaw02.RationalSchwarz", spec := "rationalSchwarz", apart := false, narrowed := true }
def RationalSchwarzUptoSaid : Prop := rationalSchwarzUptoRow.holds Try.pinned (OpenSpec.upto rationalSchwarzSpec)

/-- 'codewrightlaw46.SemiringFractions', WHERE WHAT IT READS IS OF BULK AT MOST 1048576: true; the input reads as it did. -/
def semiringFractionsUptoRow : OpenClaim := { program := "ytlomanhmpbapeaa", sum := "e0c3514d7d8644d720e5a086766a8c155eefa16ed77cba59884e193a06bdc9f0", func := "codewright/codewrightlaw46.SemiringFractions", spec := "semiringFractions", apart := false, narrowed := true }
def SemiringFractionsUptoSaid : Prop := semiringFractionsUptoRow.holds Try.pinned (OpenSpec.upto semiringFractionsSpec)

end Rows
end Go.Proofs.Ytlomanhmpbapeaa

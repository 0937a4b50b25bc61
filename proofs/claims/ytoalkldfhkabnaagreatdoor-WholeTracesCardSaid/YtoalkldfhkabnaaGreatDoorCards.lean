/-
  DERIVED. GIVEN WITH THE SEED: THE CARDS: each row of YtoalkldfhkabnaaGreatDoorRows.lean that lists a variable, with what it lists TIED to the program's text (the seventh form; the later family's looks); each row that meets fmt, with fmt's text TOLD by the authors' own Lean function (tested against real Go, not proved from fmt's source: count such statements apart). THE CARD IS WHAT COUNTS. Prove the row's statement (the work); the ties are given (YtoalkldfhkabnaaGreatDoorTie.lean); close each card by the builder's one call (the guide's Derived/Test/ToyasCard.lean, 'card_holds'). Laid BY PROGRAM, IN A SANDBOX (cutbox-door.mjs). By AI agents, Wed Nov 11 2026. No macro, syntax, notation, axiom, sorry.
-/
import Derived.Test.YtoalkldfhkabnaaGreatDoorRows
import GoSem.ClaimSeven
namespace Go.Proofs.YtoalkldfhkabnaaGreatDoor
namespace Rows

/-- THE TIED CARD OF 'codewrighttop.WholeTraces'. -/
def wholeTracesCard : Claim7 := { stood := { row := wholeTracesRow, standIns := [], harness := (true, "983a01ec8e0f1987db3b84d1be7b86e568578fc39c3fa2e307e2dca2be9b004c"), looks := true }, kinds := [], alts := [], laidByText := true, laidKinds := [.data, .data, .data], laidTests := true, laidLooks := .later }
def WholeTracesCardSaid : Prop := Claim7.holds Tryz.pinned (.plain (OpenSpec.ofChange wholeTracesSpec)) wholeTracesCard

/-- THE TIED CARD OF 'codewrighttop.WholeTexts'. -/
def wholeTextsCard : Claim7 := { stood := { row := wholeTextsRow, standIns := [], harness := (true, "983a01ec8e0f1987db3b84d1be7b86e568578fc39c3fa2e307e2dca2be9b004c"), looks := true }, kinds := [], alts := [], laidByText := true, laidKinds := [.data, .data, .data], laidTests := true, laidLooks := .later }
def WholeTextsCardSaid : Prop := Claim7.holds Tryz.pinned (.plain (OpenSpec.ofChange wholeTextsSpec)) wholeTextsCard

/-- THE SECOND FORM's CARD OF 'codewrighttop.WholeTraces'. -/
def wholeTracesUptoCard : Claim7 := { stood := { row := wholeTracesUptoRow, standIns := [], harness := (true, "983a01ec8e0f1987db3b84d1be7b86e568578fc39c3fa2e307e2dca2be9b004c"), looks := true }, kinds := [], alts := [], laidByText := true, laidKinds := [.data, .data, .data], laidTests := true, laidLooks := .later }
def WholeTracesUptoCardSaid : Prop := Claim7.holds Tryz.pinned (.plain (OpenSpec.upto wholeTracesSpec)) wholeTracesUptoCard

/-- THE SECOND FORM's CARD OF 'codewrighttop.WholeTexts'. -/
def wholeTextsUptoCard : Claim7 := { stood := { row := wholeTextsUptoRow, standIns := [], harness := (true, "983a01ec8e0f1987db3b84d1be7b86e568578fc39c3fa2e307e2dca2be9b004c"), looks := true }, kinds := [], alts := [], laidByText := true, laidKinds := [.data, .data, .data], laidTests := true, laidLooks := .later }
def WholeTextsUptoCardSaid : Prop := Claim7.holds Tryz.pinned (.plain (OpenSpec.upto wholeTextsSpec)) wholeTextsUptoCard
end Rows
end Go.Proofs.YtoalkldfhkabnaaGreatDoor

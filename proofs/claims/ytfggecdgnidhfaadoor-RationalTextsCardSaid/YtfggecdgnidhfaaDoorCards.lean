/-
  DERIVED. GIVEN WITH THE SEED: THE CARDS: each row of YtfggecdgnidhfaaDoorRows.lean that lists a variable, with what it lists TIED to the program's text (the seventh form; the later family's looks); each row that meets fmt, with fmt's text TOLD by the authors' own Lean function (tested against real Go, not proved from fmt's source: count such statements apart). THE CARD IS WHAT COUNTS. Prove the row's statement (the work); the ties are given (YtfggecdgnidhfaaDoorTie.lean); close each card by the builder's one call (the guide's Derived/Test/ToyasCard.lean, 'card_holds'). Laid BY PROGRAM, IN A SANDBOX (cutbox-door.mjs). By AI agents, Wed Nov 11 2026. No macro, syntax, notation, axiom, sorry.
-/
import Derived.Test.YtfggecdgnidhfaaDoorRows
import GoSem.ClaimSeven
namespace Go.Proofs.YtfggecdgnidhfaaDoor
namespace Rows

/-- THE TIED CARD OF 'codewrightlaw01.NatTexts'. -/
def natTextsCard : Claim7 := { stood := { row := natTextsRow, standIns := [], harness := (true, "f82eb543ae828987b9b240dc8823ef7eb22b67606ceb52a587e3c16cecd11c38"), looks := false }, kinds := [], alts := [], laidByText := true, laidKinds := [.data, .pinned], laidTests := true, laidLooks := .later }
def NatTextsCardSaid : Prop := Claim7.holds Tryd.pinned (.plain (OpenSpec.ofChange natTextsSpec)) natTextsCard

/-- THE TIED CARD OF 'codewrightlaw01.NatParses'. -/
def natParsesCard : Claim7 := { stood := { row := natParsesRow, standIns := [], harness := (true, "f82eb543ae828987b9b240dc8823ef7eb22b67606ceb52a587e3c16cecd11c38"), looks := false }, kinds := [], alts := [], laidByText := true, laidKinds := [.data, .pinned], laidTests := true, laidLooks := .later }
def NatParsesCardSaid : Prop := Claim7.holds Tryd.pinned (.plain (OpenSpec.ofChange natParsesSpec)) natParsesCard

/-- THE TIED CARD OF 'codewrightlaw02.RationalTexts'. -/
def rationalTextsCard : Claim7 := { stood := { row := rationalTextsRow, standIns := [], harness := (true, "f82eb543ae828987b9b240dc8823ef7eb22b67606ceb52a587e3c16cecd11c38"), looks := false }, kinds := [], alts := [], laidByText := true, laidKinds := [.data, .pinned], laidTests := true, laidLooks := .later }
def RationalTextsCardSaid : Prop := Claim7.holds Tryd.pinned (.plain (OpenSpec.ofChange rationalTextsSpec)) rationalTextsCard

/-- THE TIED CARD OF 'codewrightlaw02.RationalParses'. -/
def rationalParsesCard : Claim7 := { stood := { row := rationalParsesRow, standIns := [], harness := (true, "f82eb543ae828987b9b240dc8823ef7eb22b67606ceb52a587e3c16cecd11c38"), looks := false }, kinds := [], alts := [], laidByText := true, laidKinds := [.data, .pinned], laidTests := true, laidLooks := .later }
def RationalParsesCardSaid : Prop := Claim7.holds Tryd.pinned (.plain (OpenSpec.ofChange rationalParsesSpec)) rationalParsesCard

/-- THE SECOND FORM's CARD OF 'codewrightlaw01.NatTexts'. -/
def natTextsUptoCard : Claim7 := { stood := { row := natTextsUptoRow, standIns := [], harness := (true, "f82eb543ae828987b9b240dc8823ef7eb22b67606ceb52a587e3c16cecd11c38"), looks := false }, kinds := [], alts := [], laidByText := true, laidKinds := [.data, .pinned], laidTests := true, laidLooks := .later }
def NatTextsUptoCardSaid : Prop := Claim7.holds Tryd.pinned (.plain (OpenSpec.upto natTextsSpec)) natTextsUptoCard

/-- THE SECOND FORM's CARD OF 'codewrightlaw01.NatParses'. -/
def natParsesUptoCard : Claim7 := { stood := { row := natParsesUptoRow, standIns := [], harness := (true, "f82eb543ae828987b9b240dc8823ef7eb22b67606ceb52a587e3c16cecd11c38"), looks := false }, kinds := [], alts := [], laidByText := true, laidKinds := [.data, .pinned], laidTests := true, laidLooks := .later }
def NatParsesUptoCardSaid : Prop := Claim7.holds Tryd.pinned (.plain (OpenSpec.upto natParsesSpec)) natParsesUptoCard

/-- THE SECOND FORM's CARD OF 'codewrightlaw02.RationalTexts'. -/
def rationalTextsUptoCard : Claim7 := { stood := { row := rationalTextsUptoRow, standIns := [], harness := (true, "f82eb543ae828987b9b240dc8823ef7eb22b67606ceb52a587e3c16cecd11c38"), looks := false }, kinds := [], alts := [], laidByText := true, laidKinds := [.data, .pinned], laidTests := true, laidLooks := .later }
def RationalTextsUptoCardSaid : Prop := Claim7.holds Tryd.pinned (.plain (OpenSpec.upto rationalTextsSpec)) rationalTextsUptoCard

/-- THE SECOND FORM's CARD OF 'codewrightlaw02.RationalParses'. -/
def rationalParsesUptoCard : Claim7 := { stood := { row := rationalParsesUptoRow, standIns := [], harness := (true, "f82eb543ae828987b9b240dc8823ef7eb22b67606ceb52a587e3c16cecd11c38"), looks := false }, kinds := [], alts := [], laidByText := true, laidKinds := [.data, .pinned], laidTests := true, laidLooks := .later }
def RationalParsesUptoCardSaid : Prop := Claim7.holds Tryd.pinned (.plain (OpenSpec.upto rationalParsesSpec)) rationalParsesUptoCard
end Rows
end Go.Proofs.YtfggecdgnidhfaaDoor

/-
  DERIVED. GIVEN WITH THE SEED: THE CARDS: each row of YtehkgiofchmpaaaDoorRows.lean that lists a variable, with what it lists TIED to the program's text (the seventh form; the later family's looks); each row that meets fmt, with fmt's text TOLD by the authors' own Lean function (tested against real Go, not proved from fmt's source: count such statements apart). THE CARD IS WHAT COUNTS. Prove the row's statement (the work); the ties are given (YtehkgiofchmpaaaDoorTie.lean); close each card by the builder's one call (the guide's Derived/Test/ToyasCard.lean, 'card_holds'). Laid BY PROGRAM, IN A SANDBOX (cutbox-door.mjs). By AI agents, Wed Nov 11 2026. No macro, syntax, notation, axiom, sorry.
-/
import Derived.Test.YtehkgiofchmpaaaDoorRows
import GoSem.ClaimSeven
namespace Go.Proofs.YtehkgiofchmpaaaDoor
namespace Rows

/-- THE TIED CARD OF 'pentaglotlaw22.FormulaValid'. -/
def formulaValidCard : Claim7 := { stood := { row := formulaValidRow, standIns := [], harness := (true, "13f974559db5eda8653df6a4f19d4e69cb125a51a7b418913fd68e577113c07c"), looks := true }, kinds := [], alts := [], laidByText := true, laidKinds := [.data, .data, .data], laidTests := true, laidLooks := .later }
def FormulaValidCardSaid : Prop := Claim7.holds Tryd.pinned (.plain (OpenSpec.ofChange formulaValidSpec)) formulaValidCard

/-- THE TIED CARD OF 'pentaglotlaw22.FormulaTexts'. -/
def formulaTextsCard : Claim7 := { stood := { row := formulaTextsRow, standIns := [], harness := (true, "13f974559db5eda8653df6a4f19d4e69cb125a51a7b418913fd68e577113c07c"), looks := true }, kinds := [], alts := [], laidByText := true, laidKinds := [.data, .data, .data], laidTests := true, laidLooks := .later }
def FormulaTextsCardSaid : Prop := Claim7.holds Tryd.pinned (.plain (OpenSpec.ofChange formulaTextsSpec)) formulaTextsCard

/-- THE TIED CARD OF 'pentaglotlaw22.FormulaParses'. -/
def formulaParsesCard : Claim7 := { stood := { row := formulaParsesRow, standIns := [], harness := (true, "13f974559db5eda8653df6a4f19d4e69cb125a51a7b418913fd68e577113c07c"), looks := true }, kinds := [], alts := [], laidByText := true, laidKinds := [.data, .data, .data], laidTests := true, laidLooks := .later }
def FormulaParsesCardSaid : Prop := Claim7.holds Tryd.pinned (.plain (OpenSpec.ofChange formulaParsesSpec)) formulaParsesCard

/-- THE TIED CARD OF 'pentaglotlaw22.FormulaOffsets'. -/
def formulaOffsetsCard : Claim7 := { stood := { row := formulaOffsetsRow, standIns := [], harness := (true, "13f974559db5eda8653df6a4f19d4e69cb125a51a7b418913fd68e577113c07c"), looks := true }, kinds := [], alts := [], laidByText := true, laidKinds := [.data, .data, .data], laidTests := true, laidLooks := .later }
def FormulaOffsetsCardSaid : Prop := Claim7.holds Tryd.pinned (.plain (OpenSpec.ofChange formulaOffsetsSpec)) formulaOffsetsCard

/-- THE TIED CARD OF 'pentaglotlaw22.FormulaShifts'. -/
def formulaShiftsCard : Claim7 := { stood := { row := formulaShiftsRow, standIns := [], harness := (true, "13f974559db5eda8653df6a4f19d4e69cb125a51a7b418913fd68e577113c07c"), looks := true }, kinds := [], alts := [], laidByText := true, laidKinds := [.data, .data, .data], laidTests := true, laidLooks := .later }
def FormulaShiftsCardSaid : Prop := Claim7.holds Tryd.pinned (.plain (OpenSpec.ofChange formulaShiftsSpec)) formulaShiftsCard

/-- THE TIED CARD OF 'pentaglotlaw22.FormulaSubstitutes'. -/
def formulaSubstitutesCard : Claim7 := { stood := { row := formulaSubstitutesRow, standIns := [], harness := (true, "13f974559db5eda8653df6a4f19d4e69cb125a51a7b418913fd68e577113c07c"), looks := true }, kinds := [], alts := [], laidByText := true, laidKinds := [.data, .data, .data], laidTests := true, laidLooks := .later }
def FormulaSubstitutesCardSaid : Prop := Claim7.holds Tryd.pinned (.plain (OpenSpec.ofChange formulaSubstitutesSpec)) formulaSubstitutesCard

/-- THE TIED CARD OF 'pentaglotlaw22.FormulaCloses'. -/
def formulaClosesCard : Claim7 := { stood := { row := formulaClosesRow, standIns := [], harness := (true, "13f974559db5eda8653df6a4f19d4e69cb125a51a7b418913fd68e577113c07c"), looks := true }, kinds := [], alts := [], laidByText := true, laidKinds := [.data, .data, .data], laidTests := true, laidLooks := .later }
def FormulaClosesCardSaid : Prop := Claim7.holds Tryd.pinned (.plain (OpenSpec.ofChange formulaClosesSpec)) formulaClosesCard

/-- THE TIED CARD OF 'pentaglotlaw22.FormulaCancels'. -/
def formulaCancelsCard : Claim7 := { stood := { row := formulaCancelsRow, standIns := [], harness := (true, "13f974559db5eda8653df6a4f19d4e69cb125a51a7b418913fd68e577113c07c"), looks := true }, kinds := [], alts := [], laidByText := true, laidKinds := [.data, .data, .data], laidTests := true, laidLooks := .later }
def FormulaCancelsCardSaid : Prop := Claim7.holds Tryd.pinned (.plain (OpenSpec.ofChange formulaCancelsSpec)) formulaCancelsCard

/-- THE TIED CARD OF 'pentaglotlaw22.FormulaWalks'. -/
def formulaWalksCard : Claim7 := { stood := { row := formulaWalksRow, standIns := [], harness := (true, "13f974559db5eda8653df6a4f19d4e69cb125a51a7b418913fd68e577113c07c"), looks := true }, kinds := [], alts := [], laidByText := true, laidKinds := [.data, .data, .data], laidTests := true, laidLooks := .later }
def FormulaWalksCardSaid : Prop := Claim7.holds Tryd.pinned (.plain (OpenSpec.ofChange formulaWalksSpec)) formulaWalksCard

/-- THE TIED CARD OF 'pentaglotlaw22.FormulaCompares'. -/
def formulaComparesCard : Claim7 := { stood := { row := formulaComparesRow, standIns := [], harness := (true, "13f974559db5eda8653df6a4f19d4e69cb125a51a7b418913fd68e577113c07c"), looks := true }, kinds := [], alts := [], laidByText := true, laidKinds := [.data, .data, .data], laidTests := true, laidLooks := .later }
def FormulaComparesCardSaid : Prop := Claim7.holds Tryd.pinned (.plain (OpenSpec.ofChange formulaComparesSpec)) formulaComparesCard

/-- THE SECOND FORM's CARD OF 'pentaglotlaw22.FormulaValid'. -/
def formulaValidUptoCard : Claim7 := { stood := { row := formulaValidUptoRow, standIns := [], harness := (true, "13f974559db5eda8653df6a4f19d4e69cb125a51a7b418913fd68e577113c07c"), looks := true }, kinds := [], alts := [], laidByText := true, laidKinds := [.data, .data, .data], laidTests := true, laidLooks := .later }
def FormulaValidUptoCardSaid : Prop := Claim7.holds Tryd.pinned (.plain (OpenSpec.upto formulaValidSpec)) formulaValidUptoCard

/-- THE SECOND FORM's CARD OF 'pentaglotlaw22.FormulaTexts'. -/
def formulaTextsUptoCard : Claim7 := { stood := { row := formulaTextsUptoRow, standIns := [], harness := (true, "13f974559db5eda8653df6a4f19d4e69cb125a51a7b418913fd68e577113c07c"), looks := true }, kinds := [], alts := [], laidByText := true, laidKinds := [.data, .data, .data], laidTests := true, laidLooks := .later }
def FormulaTextsUptoCardSaid : Prop := Claim7.holds Tryd.pinned (.plain (OpenSpec.upto formulaTextsSpec)) formulaTextsUptoCard

/-- THE SECOND FORM's CARD OF 'pentaglotlaw22.FormulaParses'. -/
def formulaParsesUptoCard : Claim7 := { stood := { row := formulaParsesUptoRow, standIns := [], harness := (true, "13f974559db5eda8653df6a4f19d4e69cb125a51a7b418913fd68e577113c07c"), looks := true }, kinds := [], alts := [], laidByText := true, laidKinds := [.data, .data, .data], laidTests := true, laidLooks := .later }
def FormulaParsesUptoCardSaid : Prop := Claim7.holds Tryd.pinned (.plain (OpenSpec.upto formulaParsesSpec)) formulaParsesUptoCard

/-- THE SECOND FORM's CARD OF 'pentaglotlaw22.FormulaOffsets'. -/
def formulaOffsetsUptoCard : Claim7 := { stood := { row := formulaOffsetsUptoRow, standIns := [], harness := (true, "13f974559db5eda8653df6a4f19d4e69cb125a51a7b418913fd68e577113c07c"), looks := true }, kinds := [], alts := [], laidByText := true, laidKinds := [.data, .data, .data], laidTests := true, laidLooks := .later }
def FormulaOffsetsUptoCardSaid : Prop := Claim7.holds Tryd.pinned (.plain (OpenSpec.upto formulaOffsetsSpec)) formulaOffsetsUptoCard

/-- THE SECOND FORM's CARD OF 'pentaglotlaw22.FormulaShifts'. -/
def formulaShiftsUptoCard : Claim7 := { stood := { row := formulaShiftsUptoRow, standIns := [], harness := (true, "13f974559db5eda8653df6a4f19d4e69cb125a51a7b418913fd68e577113c07c"), looks := true }, kinds := [], alts := [], laidByText := true, laidKinds := [.data, .data, .data], laidTests := true, laidLooks := .later }
def FormulaShiftsUptoCardSaid : Prop := Claim7.holds Tryd.pinned (.plain (OpenSpec.upto formulaShiftsSpec)) formulaShiftsUptoCard

/-- THE SECOND FORM's CARD OF 'pentaglotlaw22.FormulaSubstitutes'. -/
def formulaSubstitutesUptoCard : Claim7 := { stood := { row := formulaSubstitutesUptoRow, standIns := [], harness := (true, "13f974559db5eda8653df6a4f19d4e69cb125a51a7b418913fd68e577113c07c"), looks := true }, kinds := [], alts := [], laidByText := true, laidKinds := [.data, .data, .data], laidTests := true, laidLooks := .later }
def FormulaSubstitutesUptoCardSaid : Prop := Claim7.holds Tryd.pinned (.plain (OpenSpec.upto formulaSubstitutesSpec)) formulaSubstitutesUptoCard

/-- THE SECOND FORM's CARD OF 'pentaglotlaw22.FormulaCloses'. -/
def formulaClosesUptoCard : Claim7 := { stood := { row := formulaClosesUptoRow, standIns := [], harness := (true, "13f974559db5eda8653df6a4f19d4e69cb125a51a7b418913fd68e577113c07c"), looks := true }, kinds := [], alts := [], laidByText := true, laidKinds := [.data, .data, .data], laidTests := true, laidLooks := .later }
def FormulaClosesUptoCardSaid : Prop := Claim7.holds Tryd.pinned (.plain (OpenSpec.upto formulaClosesSpec)) formulaClosesUptoCard

/-- THE SECOND FORM's CARD OF 'pentaglotlaw22.FormulaCancels'. -/
def formulaCancelsUptoCard : Claim7 := { stood := { row := formulaCancelsUptoRow, standIns := [], harness := (true, "13f974559db5eda8653df6a4f19d4e69cb125a51a7b418913fd68e577113c07c"), looks := true }, kinds := [], alts := [], laidByText := true, laidKinds := [.data, .data, .data], laidTests := true, laidLooks := .later }
def FormulaCancelsUptoCardSaid : Prop := Claim7.holds Tryd.pinned (.plain (OpenSpec.upto formulaCancelsSpec)) formulaCancelsUptoCard

/-- THE SECOND FORM's CARD OF 'pentaglotlaw22.FormulaWalks'. -/
def formulaWalksUptoCard : Claim7 := { stood := { row := formulaWalksUptoRow, standIns := [], harness := (true, "13f974559db5eda8653df6a4f19d4e69cb125a51a7b418913fd68e577113c07c"), looks := true }, kinds := [], alts := [], laidByText := true, laidKinds := [.data, .data, .data], laidTests := true, laidLooks := .later }
def FormulaWalksUptoCardSaid : Prop := Claim7.holds Tryd.pinned (.plain (OpenSpec.upto formulaWalksSpec)) formulaWalksUptoCard

/-- THE SECOND FORM's CARD OF 'pentaglotlaw22.FormulaCompares'. -/
def formulaComparesUptoCard : Claim7 := { stood := { row := formulaComparesUptoRow, standIns := [], harness := (true, "13f974559db5eda8653df6a4f19d4e69cb125a51a7b418913fd68e577113c07c"), looks := true }, kinds := [], alts := [], laidByText := true, laidKinds := [.data, .data, .data], laidTests := true, laidLooks := .later }
def FormulaComparesUptoCardSaid : Prop := Claim7.holds Tryd.pinned (.plain (OpenSpec.upto formulaComparesSpec)) formulaComparesUptoCard
end Rows
end Go.Proofs.YtehkgiofchmpaaaDoor

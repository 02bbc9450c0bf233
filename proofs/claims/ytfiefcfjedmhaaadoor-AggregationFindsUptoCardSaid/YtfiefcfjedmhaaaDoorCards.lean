/-
  DERIVED. GIVEN WITH THE SEED: THE CARDS: each row of YtfiefcfjedmhaaaDoorRows.lean that lists a variable, with what it lists TIED to the program's text (the seventh form; the later family's looks); each row that meets fmt, with fmt's text TOLD by the authors' own Lean function (tested against real Go, not proved from fmt's source: count such statements apart). THE CARD IS WHAT COUNTS. Prove the row's statement (the work); the ties are given (YtfiefcfjedmhaaaDoorTie.lean); close each card by the builder's one call (the guide's Derived/Test/ToyasCard.lean, 'card_holds'). Laid BY PROGRAM, IN A SANDBOX (cutbox-door.mjs). By AI agents, Wed Nov 11 2026. No macro, syntax, notation, axiom, sorry.
-/
import Derived.Test.YtfiefcfjedmhaaaDoorRows
import GoSem.ClaimSeven
namespace Go.Proofs.YtfiefcfjedmhaaaDoor
namespace Rows

/-- THE TIED CARD OF 'pentaglotlaw41.AggregationMerge'. -/
def aggregationMergeCard : Claim7 := { stood := { row := aggregationMergeRow, standIns := [], harness := (true, "b1ff32e617e3363310d55e08baa5d836de26152ef5efb5bdc8879d704934d49f"), looks := false }, kinds := [], alts := [], laidByText := true, laidKinds := [.data, .data, .data], laidTests := true, laidLooks := .later }
def AggregationMergeCardSaid : Prop := Claim7.holds Tryd.pinned (.plain (OpenSpec.ofChange aggregationMergeSpec)) aggregationMergeCard

/-- THE TIED CARD OF 'pentaglotlaw41.AggregationMoves'. -/
def aggregationMovesCard : Claim7 := { stood := { row := aggregationMovesRow, standIns := [], harness := (true, "b1ff32e617e3363310d55e08baa5d836de26152ef5efb5bdc8879d704934d49f"), looks := false }, kinds := [], alts := [], laidByText := true, laidKinds := [.data, .data, .data], laidTests := true, laidLooks := .later }
def AggregationMovesCardSaid : Prop := Claim7.holds Tryd.pinned (.plain (OpenSpec.ofChange aggregationMovesSpec)) aggregationMovesCard

/-- THE TIED CARD OF 'pentaglotlaw41.AggregationShorter'. -/
def aggregationShorterCard : Claim7 := { stood := { row := aggregationShorterRow, standIns := [], harness := (true, "b1ff32e617e3363310d55e08baa5d836de26152ef5efb5bdc8879d704934d49f"), looks := false }, kinds := [], alts := [], laidByText := true, laidKinds := [.data, .data, .data], laidTests := true, laidLooks := .later }
def AggregationShorterCardSaid : Prop := Claim7.holds Tryd.pinned (.plain (OpenSpec.ofChange aggregationShorterSpec)) aggregationShorterCard

/-- THE TIED CARD OF 'pentaglotlaw41.AggregationFrame'. -/
def aggregationFrameCard : Claim7 := { stood := { row := aggregationFrameRow, standIns := [], harness := (true, "b1ff32e617e3363310d55e08baa5d836de26152ef5efb5bdc8879d704934d49f"), looks := false }, kinds := [], alts := [], laidByText := true, laidKinds := [.data, .data, .data], laidTests := true, laidLooks := .later }
def AggregationFrameCardSaid : Prop := Claim7.holds Tryd.pinned (.plain (OpenSpec.ofChange aggregationFrameSpec)) aggregationFrameCard

/-- THE TIED CARD OF 'pentaglotlaw41.AggregationSplit'. -/
def aggregationSplitCard : Claim7 := { stood := { row := aggregationSplitRow, standIns := [], harness := (true, "b1ff32e617e3363310d55e08baa5d836de26152ef5efb5bdc8879d704934d49f"), looks := false }, kinds := [], alts := [], laidByText := true, laidKinds := [.data, .data, .data], laidTests := true, laidLooks := .later }
def AggregationSplitCardSaid : Prop := Claim7.holds Tryd.pinned (.plain (OpenSpec.ofChange aggregationSplitSpec)) aggregationSplitCard

/-- THE TIED CARD OF 'pentaglotlaw41.AggregationParts'. -/
def aggregationPartsCard : Claim7 := { stood := { row := aggregationPartsRow, standIns := [], harness := (true, "b1ff32e617e3363310d55e08baa5d836de26152ef5efb5bdc8879d704934d49f"), looks := false }, kinds := [], alts := [], laidByText := true, laidKinds := [.data, .data, .data], laidTests := true, laidLooks := .later }
def AggregationPartsCardSaid : Prop := Claim7.holds Tryd.pinned (.plain (OpenSpec.ofChange aggregationPartsSpec)) aggregationPartsCard

/-- THE TIED CARD OF 'pentaglotlaw41.AggregationInverts'. -/
def aggregationInvertsCard : Claim7 := { stood := { row := aggregationInvertsRow, standIns := [], harness := (true, "b1ff32e617e3363310d55e08baa5d836de26152ef5efb5bdc8879d704934d49f"), looks := false }, kinds := [], alts := [], laidByText := true, laidKinds := [.data, .data, .data], laidTests := true, laidLooks := .later }
def AggregationInvertsCardSaid : Prop := Claim7.holds Tryd.pinned (.plain (OpenSpec.ofChange aggregationInvertsSpec)) aggregationInvertsCard

/-- THE TIED CARD OF 'pentaglotlaw41.AggregationFinds'. -/
def aggregationFindsCard : Claim7 := { stood := { row := aggregationFindsRow, standIns := [], harness := (true, "b1ff32e617e3363310d55e08baa5d836de26152ef5efb5bdc8879d704934d49f"), looks := false }, kinds := [], alts := [], laidByText := true, laidKinds := [.data, .data, .data], laidTests := true, laidLooks := .later }
def AggregationFindsCardSaid : Prop := Claim7.holds Tryd.pinned (.plain (OpenSpec.ofChange aggregationFindsSpec)) aggregationFindsCard

/-- THE SECOND FORM's CARD OF 'pentaglotlaw41.AggregationMerge'. -/
def aggregationMergeUptoCard : Claim7 := { stood := { row := aggregationMergeUptoRow, standIns := [], harness := (true, "b1ff32e617e3363310d55e08baa5d836de26152ef5efb5bdc8879d704934d49f"), looks := false }, kinds := [], alts := [], laidByText := true, laidKinds := [.data, .data, .data], laidTests := true, laidLooks := .later }
def AggregationMergeUptoCardSaid : Prop := Claim7.holds Tryd.pinned (.plain (OpenSpec.upto aggregationMergeSpec)) aggregationMergeUptoCard

/-- THE SECOND FORM's CARD OF 'pentaglotlaw41.AggregationMoves'. -/
def aggregationMovesUptoCard : Claim7 := { stood := { row := aggregationMovesUptoRow, standIns := [], harness := (true, "b1ff32e617e3363310d55e08baa5d836de26152ef5efb5bdc8879d704934d49f"), looks := false }, kinds := [], alts := [], laidByText := true, laidKinds := [.data, .data, .data], laidTests := true, laidLooks := .later }
def AggregationMovesUptoCardSaid : Prop := Claim7.holds Tryd.pinned (.plain (OpenSpec.upto aggregationMovesSpec)) aggregationMovesUptoCard

/-- THE SECOND FORM's CARD OF 'pentaglotlaw41.AggregationShorter'. -/
def aggregationShorterUptoCard : Claim7 := { stood := { row := aggregationShorterUptoRow, standIns := [], harness := (true, "b1ff32e617e3363310d55e08baa5d836de26152ef5efb5bdc8879d704934d49f"), looks := false }, kinds := [], alts := [], laidByText := true, laidKinds := [.data, .data, .data], laidTests := true, laidLooks := .later }
def AggregationShorterUptoCardSaid : Prop := Claim7.holds Tryd.pinned (.plain (OpenSpec.upto aggregationShorterSpec)) aggregationShorterUptoCard

/-- THE SECOND FORM's CARD OF 'pentaglotlaw41.AggregationFrame'. -/
def aggregationFrameUptoCard : Claim7 := { stood := { row := aggregationFrameUptoRow, standIns := [], harness := (true, "b1ff32e617e3363310d55e08baa5d836de26152ef5efb5bdc8879d704934d49f"), looks := false }, kinds := [], alts := [], laidByText := true, laidKinds := [.data, .data, .data], laidTests := true, laidLooks := .later }
def AggregationFrameUptoCardSaid : Prop := Claim7.holds Tryd.pinned (.plain (OpenSpec.upto aggregationFrameSpec)) aggregationFrameUptoCard

/-- THE SECOND FORM's CARD OF 'pentaglotlaw41.AggregationSplit'. -/
def aggregationSplitUptoCard : Claim7 := { stood := { row := aggregationSplitUptoRow, standIns := [], harness := (true, "b1ff32e617e3363310d55e08baa5d836de26152ef5efb5bdc8879d704934d49f"), looks := false }, kinds := [], alts := [], laidByText := true, laidKinds := [.data, .data, .data], laidTests := true, laidLooks := .later }
def AggregationSplitUptoCardSaid : Prop := Claim7.holds Tryd.pinned (.plain (OpenSpec.upto aggregationSplitSpec)) aggregationSplitUptoCard

/-- THE SECOND FORM's CARD OF 'pentaglotlaw41.AggregationParts'. -/
def aggregationPartsUptoCard : Claim7 := { stood := { row := aggregationPartsUptoRow, standIns := [], harness := (true, "b1ff32e617e3363310d55e08baa5d836de26152ef5efb5bdc8879d704934d49f"), looks := false }, kinds := [], alts := [], laidByText := true, laidKinds := [.data, .data, .data], laidTests := true, laidLooks := .later }
def AggregationPartsUptoCardSaid : Prop := Claim7.holds Tryd.pinned (.plain (OpenSpec.upto aggregationPartsSpec)) aggregationPartsUptoCard

/-- THE SECOND FORM's CARD OF 'pentaglotlaw41.AggregationInverts'. -/
def aggregationInvertsUptoCard : Claim7 := { stood := { row := aggregationInvertsUptoRow, standIns := [], harness := (true, "b1ff32e617e3363310d55e08baa5d836de26152ef5efb5bdc8879d704934d49f"), looks := false }, kinds := [], alts := [], laidByText := true, laidKinds := [.data, .data, .data], laidTests := true, laidLooks := .later }
def AggregationInvertsUptoCardSaid : Prop := Claim7.holds Tryd.pinned (.plain (OpenSpec.upto aggregationInvertsSpec)) aggregationInvertsUptoCard

/-- THE SECOND FORM's CARD OF 'pentaglotlaw41.AggregationFinds'. -/
def aggregationFindsUptoCard : Claim7 := { stood := { row := aggregationFindsUptoRow, standIns := [], harness := (true, "b1ff32e617e3363310d55e08baa5d836de26152ef5efb5bdc8879d704934d49f"), looks := false }, kinds := [], alts := [], laidByText := true, laidKinds := [.data, .data, .data], laidTests := true, laidLooks := .later }
def AggregationFindsUptoCardSaid : Prop := Claim7.holds Tryd.pinned (.plain (OpenSpec.upto aggregationFindsSpec)) aggregationFindsUptoCard
end Rows
end Go.Proofs.YtfiefcfjedmhaaaDoor

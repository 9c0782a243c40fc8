/-
  DERIVED. GIVEN WITH THE SEED: THE CARDS: each row of YtgkphfipielnhaaDoorRows.lean that lists a variable, with what it lists TIED to the program's text (the seventh form; the later family's looks); each row that meets fmt, with fmt's text TOLD by the authors' own Lean function (tested against real Go, not proved from fmt's source: count such statements apart). THE CARD IS WHAT COUNTS. Prove the row's statement (the work); the ties are given (YtgkphfipielnhaaDoorTie.lean); close each card by the builder's one call (the guide's Derived/Test/ToyasCard.lean, 'card_holds'). Laid BY PROGRAM, IN A SANDBOX (cutbox-door.mjs). By AI agents, Wed Nov 11 2026. No macro, syntax, notation, axiom, sorry.
-/
import Derived.Test.YtgkphfipielnhaaDoorRows
import GoSem.ClaimSeven
namespace Go.Proofs.YtgkphfipielnhaaDoor
namespace Rows

/-- THE TIED CARD OF 'engrosslaw28.ReportVolumes'. -/
def reportVolumesCard : Claim7 := { stood := { row := reportVolumesRow, standIns := [], harness := (true, "4da076db35c2bb1b48cfbcb3fb268102e9c7d2e4c5b5f05645e21fa6a270d04f"), looks := true }, kinds := [], alts := [], laidByText := true, laidKinds := [.data, .data, .data, .data], laidTests := true, laidLooks := .later }
def ReportVolumesCardSaid : Prop := Claim7.holds Tryd.pinned (.plain (OpenSpec.ofChange reportVolumesSpec)) reportVolumesCard

/-- THE TIED CARD OF 'engrosslaw28.ReportParts'. -/
def reportPartsCard : Claim7 := { stood := { row := reportPartsRow, standIns := [], harness := (true, "4da076db35c2bb1b48cfbcb3fb268102e9c7d2e4c5b5f05645e21fa6a270d04f"), looks := true }, kinds := [], alts := [], laidByText := true, laidKinds := [.data, .data, .data, .data], laidTests := true, laidLooks := .later }
def ReportPartsCardSaid : Prop := Claim7.holds Tryd.pinned (.plain (OpenSpec.ofChange reportPartsSpec)) reportPartsCard

/-- THE TIED CARD OF 'engrosslaw32.TextPrints'. -/
def textPrintsCard : Claim7 := { stood := { row := textPrintsRow, standIns := [], harness := (true, "4da076db35c2bb1b48cfbcb3fb268102e9c7d2e4c5b5f05645e21fa6a270d04f"), looks := true }, kinds := [], alts := [], laidByText := true, laidKinds := [.data, .data, .data, .data, .data, .sentinel, .sentinel, .pinned], laidTests := true, laidLooks := .later }
def TextPrintsCardSaid : Prop := Claim7.holds Tryd.pinned (.plain (OpenSpec.ofChange textPrintsSpec)) textPrintsCard

/-- THE TIED CARD OF 'engrosslaw32.TextParses'. -/
def textParsesCard : Claim7 := { stood := { row := textParsesRow, standIns := [], harness := (true, "4da076db35c2bb1b48cfbcb3fb268102e9c7d2e4c5b5f05645e21fa6a270d04f"), looks := true }, kinds := [], alts := [], laidByText := true, laidKinds := [.data, .data, .data, .data, .data, .sentinel, .sentinel, .pinned], laidTests := true, laidLooks := .later }
def TextParsesCardSaid : Prop := Claim7.holds Tryd.pinned (.plain (OpenSpec.ofChange textParsesSpec)) textParsesCard

/-- THE TIED CARD OF 'engrosslaw32.TextChanges'. -/
def textChangesCard : Claim7 := { stood := { row := textChangesRow, standIns := [], harness := (true, "4da076db35c2bb1b48cfbcb3fb268102e9c7d2e4c5b5f05645e21fa6a270d04f"), looks := true }, kinds := [], alts := [], laidByText := true, laidKinds := [.data, .data, .data, .data, .data, .sentinel, .sentinel, .data, .pinned], laidTests := true, laidLooks := .later }
def TextChangesCardSaid : Prop := Claim7.holds Tryd.pinned (.plain (OpenSpec.ofChange textChangesSpec)) textChangesCard

/-- THE TIED CARD OF 'engrosslaw32.TextAll'. -/
def textAllCard : Claim7 := { stood := { row := textAllRow, standIns := [], harness := (true, "4da076db35c2bb1b48cfbcb3fb268102e9c7d2e4c5b5f05645e21fa6a270d04f"), looks := true }, kinds := [], alts := [], laidByText := true, laidKinds := [.data, .data, .data, .data, .data, .sentinel, .sentinel, .pinned], laidTests := true, laidLooks := .later }
def TextAllCardSaid : Prop := Claim7.holds Tryd.pinned (.plain (OpenSpec.ofChange textAllSpec)) textAllCard

/-- THE TIED CARD OF 'engrosslaw21.ImageReads'. -/
def imageReadsCard : Claim7 := { stood := { row := imageReadsRow, standIns := [], harness := (true, "4da076db35c2bb1b48cfbcb3fb268102e9c7d2e4c5b5f05645e21fa6a270d04f"), looks := true }, kinds := [], alts := [], laidByText := true, laidKinds := [.data, .data, .data], laidTests := true, laidLooks := .later }
def ImageReadsCardSaid : Prop := Claim7.holds Tryd.pinned (.plain (OpenSpec.ofChange imageReadsSpec)) imageReadsCard

/-- THE SECOND FORM's CARD OF 'engrosslaw28.ReportVolumes'. -/
def reportVolumesUptoCard : Claim7 := { stood := { row := reportVolumesUptoRow, standIns := [], harness := (true, "4da076db35c2bb1b48cfbcb3fb268102e9c7d2e4c5b5f05645e21fa6a270d04f"), looks := true }, kinds := [], alts := [], laidByText := true, laidKinds := [.data, .data, .data, .data], laidTests := true, laidLooks := .later }
def ReportVolumesUptoCardSaid : Prop := Claim7.holds Tryd.pinned (.plain (OpenSpec.upto reportVolumesSpec)) reportVolumesUptoCard

/-- THE SECOND FORM's CARD OF 'engrosslaw28.ReportParts'. -/
def reportPartsUptoCard : Claim7 := { stood := { row := reportPartsUptoRow, standIns := [], harness := (true, "4da076db35c2bb1b48cfbcb3fb268102e9c7d2e4c5b5f05645e21fa6a270d04f"), looks := true }, kinds := [], alts := [], laidByText := true, laidKinds := [.data, .data, .data, .data], laidTests := true, laidLooks := .later }
def ReportPartsUptoCardSaid : Prop := Claim7.holds Tryd.pinned (.plain (OpenSpec.upto reportPartsSpec)) reportPartsUptoCard

/-- THE SECOND FORM's CARD OF 'engrosslaw32.TextPrints'. -/
def textPrintsUptoCard : Claim7 := { stood := { row := textPrintsUptoRow, standIns := [], harness := (true, "4da076db35c2bb1b48cfbcb3fb268102e9c7d2e4c5b5f05645e21fa6a270d04f"), looks := true }, kinds := [], alts := [], laidByText := true, laidKinds := [.data, .data, .data, .data, .data, .sentinel, .sentinel, .pinned], laidTests := true, laidLooks := .later }
def TextPrintsUptoCardSaid : Prop := Claim7.holds Tryd.pinned (.plain (OpenSpec.upto textPrintsSpec)) textPrintsUptoCard

/-- THE SECOND FORM's CARD OF 'engrosslaw32.TextParses'. -/
def textParsesUptoCard : Claim7 := { stood := { row := textParsesUptoRow, standIns := [], harness := (true, "4da076db35c2bb1b48cfbcb3fb268102e9c7d2e4c5b5f05645e21fa6a270d04f"), looks := true }, kinds := [], alts := [], laidByText := true, laidKinds := [.data, .data, .data, .data, .data, .sentinel, .sentinel, .pinned], laidTests := true, laidLooks := .later }
def TextParsesUptoCardSaid : Prop := Claim7.holds Tryd.pinned (.plain (OpenSpec.upto textParsesSpec)) textParsesUptoCard

/-- THE SECOND FORM's CARD OF 'engrosslaw32.TextChanges'. -/
def textChangesUptoCard : Claim7 := { stood := { row := textChangesUptoRow, standIns := [], harness := (true, "4da076db35c2bb1b48cfbcb3fb268102e9c7d2e4c5b5f05645e21fa6a270d04f"), looks := true }, kinds := [], alts := [], laidByText := true, laidKinds := [.data, .data, .data, .data, .data, .sentinel, .sentinel, .data, .pinned], laidTests := true, laidLooks := .later }
def TextChangesUptoCardSaid : Prop := Claim7.holds Tryd.pinned (.plain (OpenSpec.upto textChangesSpec)) textChangesUptoCard

/-- THE SECOND FORM's CARD OF 'engrosslaw32.TextAll'. -/
def textAllUptoCard : Claim7 := { stood := { row := textAllUptoRow, standIns := [], harness := (true, "4da076db35c2bb1b48cfbcb3fb268102e9c7d2e4c5b5f05645e21fa6a270d04f"), looks := true }, kinds := [], alts := [], laidByText := true, laidKinds := [.data, .data, .data, .data, .data, .sentinel, .sentinel, .pinned], laidTests := true, laidLooks := .later }
def TextAllUptoCardSaid : Prop := Claim7.holds Tryd.pinned (.plain (OpenSpec.upto textAllSpec)) textAllUptoCard

/-- THE SECOND FORM's CARD OF 'engrosslaw21.ImageReads'. -/
def imageReadsUptoCard : Claim7 := { stood := { row := imageReadsUptoRow, standIns := [], harness := (true, "4da076db35c2bb1b48cfbcb3fb268102e9c7d2e4c5b5f05645e21fa6a270d04f"), looks := true }, kinds := [], alts := [], laidByText := true, laidKinds := [.data, .data, .data], laidTests := true, laidLooks := .later }
def ImageReadsUptoCardSaid : Prop := Claim7.holds Tryd.pinned (.plain (OpenSpec.upto imageReadsSpec)) imageReadsUptoCard
end Rows
end Go.Proofs.YtgkphfipielnhaaDoor

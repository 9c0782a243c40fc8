/-
  DERIVED. GIVEN WITH THE SEED: THE CARDS: each row of YtkmlfggemhachaaGreatDoorRows.lean that lists a variable, with what it lists TIED to the program's text (the seventh form; the later family's looks); each row that meets fmt, with fmt's text TOLD by the authors' own Lean function (tested against real Go, not proved from fmt's source: count such statements apart). THE CARD IS WHAT COUNTS. Prove the row's statement (the work); the ties are given (YtkmlfggemhachaaGreatDoorTie.lean); close each card by the builder's one call (the guide's Derived/Test/ToyasCard.lean, 'card_holds'). Laid BY PROGRAM, IN A SANDBOX (cutbox-door.mjs). By AI agents, Wed Nov 11 2026. No macro, syntax, notation, axiom, sorry.
-/
import Derived.Test.YtkmlfggemhachaaGreatDoorRows
import GoSem.ClaimSeven
namespace Go.Proofs.YtkmlfggemhachaaGreatDoor
namespace Rows

/-- THE TIED CARD OF 'engrosslaw22.VerifyTells'. -/
def verifyTellsCard : Claim7 := { stood := { row := verifyTellsRow, standIns := [], harness := (true, "44b087aaf390cf154ca495bbd4350aa0295b62ec014edb1d69d31bd228cf1dff"), looks := false }, kinds := [], alts := [], laidByText := true, laidKinds := [.data, .data, .data, .data, .data], laidTests := true, laidLooks := .later }
def VerifyTellsCardSaid : Prop := Claim7.holds Tryz.pinned (.plain (OpenSpec.ofChange verifyTellsSpec)) verifyTellsCard

/-- THE TIED CARD OF 'engrosslaw22.VerifyRows'. -/
def verifyRowsCard : Claim7 := { stood := { row := verifyRowsRow, standIns := [], harness := (true, "44b087aaf390cf154ca495bbd4350aa0295b62ec014edb1d69d31bd228cf1dff"), looks := false }, kinds := [], alts := [], laidByText := true, laidKinds := [.data, .data, .data, .data, .data], laidTests := true, laidLooks := .later }
def VerifyRowsCardSaid : Prop := Claim7.holds Tryz.pinned (.plain (OpenSpec.ofChange verifyRowsSpec)) verifyRowsCard

/-- THE TIED CARD OF 'engrosslaw22.VerifyWhole'. -/
def verifyWholeCard : Claim7 := { stood := { row := verifyWholeRow, standIns := [], harness := (true, "44b087aaf390cf154ca495bbd4350aa0295b62ec014edb1d69d31bd228cf1dff"), looks := false }, kinds := [], alts := [], laidByText := true, laidKinds := [.data, .data, .data, .data, .data], laidTests := true, laidLooks := .later }
def VerifyWholeCardSaid : Prop := Claim7.holds Tryz.pinned (.plain (OpenSpec.ofChange verifyWholeSpec)) verifyWholeCard

/-- THE TIED CARD OF 'engrosslaw22.VerifyIncludes'. -/
def verifyIncludesCard : Claim7 := { stood := { row := verifyIncludesRow, standIns := [], harness := (true, "44b087aaf390cf154ca495bbd4350aa0295b62ec014edb1d69d31bd228cf1dff"), looks := false }, kinds := [], alts := [], laidByText := true, laidKinds := [.data, .data, .data, .data, .data], laidTests := true, laidLooks := .later }
def VerifyIncludesCardSaid : Prop := Claim7.holds Tryz.pinned (.plain (OpenSpec.ofChange verifyIncludesSpec)) verifyIncludesCard

/-- THE TIED CARD OF 'engrosslaw25.TwinsFind'. -/
def twinsFindCard : Claim7 := { stood := { row := twinsFindRow, standIns := [], harness := (true, "44b087aaf390cf154ca495bbd4350aa0295b62ec014edb1d69d31bd228cf1dff"), looks := false }, kinds := [], alts := [], laidByText := true, laidKinds := [.data, .data, .data, .data, .data], laidTests := true, laidLooks := .later }
def TwinsFindCardSaid : Prop := Claim7.holds Tryz.pinned (.plain (OpenSpec.ofChange twinsFindSpec)) twinsFindCard

/-- THE TIED CARD OF 'engrosslaw25.TwinsClash'. -/
def twinsClashCard : Claim7 := { stood := { row := twinsClashRow, standIns := [], harness := (true, "44b087aaf390cf154ca495bbd4350aa0295b62ec014edb1d69d31bd228cf1dff"), looks := false }, kinds := [], alts := [], laidByText := true, laidKinds := [.data, .data, .data, .data, .data], laidTests := true, laidLooks := .later }
def TwinsClashCardSaid : Prop := Claim7.holds Tryz.pinned (.plain (OpenSpec.ofChange twinsClashSpec)) twinsClashCard

/-- THE TIED CARD OF 'engrosslaw25.TwinsTrue'. -/
def twinsTrueCard : Claim7 := { stood := { row := twinsTrueRow, standIns := [], harness := (true, "44b087aaf390cf154ca495bbd4350aa0295b62ec014edb1d69d31bd228cf1dff"), looks := false }, kinds := [], alts := [], laidByText := true, laidKinds := [.data, .data, .data, .data, .data], laidTests := true, laidLooks := .later }
def TwinsTrueCardSaid : Prop := Claim7.holds Tryz.pinned (.plain (OpenSpec.ofChange twinsTrueSpec)) twinsTrueCard

/-- THE SECOND FORM's CARD OF 'engrosslaw22.VerifyTells'. -/
def verifyTellsUptoCard : Claim7 := { stood := { row := verifyTellsUptoRow, standIns := [], harness := (true, "44b087aaf390cf154ca495bbd4350aa0295b62ec014edb1d69d31bd228cf1dff"), looks := false }, kinds := [], alts := [], laidByText := true, laidKinds := [.data, .data, .data, .data, .data], laidTests := true, laidLooks := .later }
def VerifyTellsUptoCardSaid : Prop := Claim7.holds Tryz.pinned (.plain (OpenSpec.upto verifyTellsSpec)) verifyTellsUptoCard

/-- THE SECOND FORM's CARD OF 'engrosslaw22.VerifyRows'. -/
def verifyRowsUptoCard : Claim7 := { stood := { row := verifyRowsUptoRow, standIns := [], harness := (true, "44b087aaf390cf154ca495bbd4350aa0295b62ec014edb1d69d31bd228cf1dff"), looks := false }, kinds := [], alts := [], laidByText := true, laidKinds := [.data, .data, .data, .data, .data], laidTests := true, laidLooks := .later }
def VerifyRowsUptoCardSaid : Prop := Claim7.holds Tryz.pinned (.plain (OpenSpec.upto verifyRowsSpec)) verifyRowsUptoCard

/-- THE SECOND FORM's CARD OF 'engrosslaw22.VerifyWhole'. -/
def verifyWholeUptoCard : Claim7 := { stood := { row := verifyWholeUptoRow, standIns := [], harness := (true, "44b087aaf390cf154ca495bbd4350aa0295b62ec014edb1d69d31bd228cf1dff"), looks := false }, kinds := [], alts := [], laidByText := true, laidKinds := [.data, .data, .data, .data, .data], laidTests := true, laidLooks := .later }
def VerifyWholeUptoCardSaid : Prop := Claim7.holds Tryz.pinned (.plain (OpenSpec.upto verifyWholeSpec)) verifyWholeUptoCard

/-- THE SECOND FORM's CARD OF 'engrosslaw22.VerifyIncludes'. -/
def verifyIncludesUptoCard : Claim7 := { stood := { row := verifyIncludesUptoRow, standIns := [], harness := (true, "44b087aaf390cf154ca495bbd4350aa0295b62ec014edb1d69d31bd228cf1dff"), looks := false }, kinds := [], alts := [], laidByText := true, laidKinds := [.data, .data, .data, .data, .data], laidTests := true, laidLooks := .later }
def VerifyIncludesUptoCardSaid : Prop := Claim7.holds Tryz.pinned (.plain (OpenSpec.upto verifyIncludesSpec)) verifyIncludesUptoCard

/-- THE SECOND FORM's CARD OF 'engrosslaw25.TwinsFind'. -/
def twinsFindUptoCard : Claim7 := { stood := { row := twinsFindUptoRow, standIns := [], harness := (true, "44b087aaf390cf154ca495bbd4350aa0295b62ec014edb1d69d31bd228cf1dff"), looks := false }, kinds := [], alts := [], laidByText := true, laidKinds := [.data, .data, .data, .data, .data], laidTests := true, laidLooks := .later }
def TwinsFindUptoCardSaid : Prop := Claim7.holds Tryz.pinned (.plain (OpenSpec.upto twinsFindSpec)) twinsFindUptoCard

/-- THE SECOND FORM's CARD OF 'engrosslaw25.TwinsClash'. -/
def twinsClashUptoCard : Claim7 := { stood := { row := twinsClashUptoRow, standIns := [], harness := (true, "44b087aaf390cf154ca495bbd4350aa0295b62ec014edb1d69d31bd228cf1dff"), looks := false }, kinds := [], alts := [], laidByText := true, laidKinds := [.data, .data, .data, .data, .data], laidTests := true, laidLooks := .later }
def TwinsClashUptoCardSaid : Prop := Claim7.holds Tryz.pinned (.plain (OpenSpec.upto twinsClashSpec)) twinsClashUptoCard

/-- THE SECOND FORM's CARD OF 'engrosslaw25.TwinsTrue'. -/
def twinsTrueUptoCard : Claim7 := { stood := { row := twinsTrueUptoRow, standIns := [], harness := (true, "44b087aaf390cf154ca495bbd4350aa0295b62ec014edb1d69d31bd228cf1dff"), looks := false }, kinds := [], alts := [], laidByText := true, laidKinds := [.data, .data, .data, .data, .data], laidTests := true, laidLooks := .later }
def TwinsTrueUptoCardSaid : Prop := Claim7.holds Tryz.pinned (.plain (OpenSpec.upto twinsTrueSpec)) twinsTrueUptoCard
end Rows
end Go.Proofs.YtkmlfggemhachaaGreatDoor

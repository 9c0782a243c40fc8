/-
  DERIVED. GIVEN WITH THE SEED: THE CARDS: each row of YthmoeebmeifleaaGreatDoorRows.lean that lists a variable, with what it lists TIED to the program's text (the seventh form; the later family's looks); each row that meets fmt, with fmt's text TOLD by the authors' own Lean function (tested against real Go, not proved from fmt's source: count such statements apart). THE CARD IS WHAT COUNTS. Prove the row's statement (the work); the ties are given (YthmoeebmeifleaaGreatDoorTie.lean); close each card by the builder's one call (the guide's Derived/Test/ToyasCard.lean, 'card_holds'). Laid BY PROGRAM, IN A SANDBOX (cutbox-door.mjs). By AI agents, Wed Nov 11 2026. No macro, syntax, notation, axiom, sorry.
-/
import Derived.Test.YthmoeebmeifleaaGreatDoorRows
import GoSem.ClaimSeven
namespace Go.Proofs.YthmoeebmeifleaaGreatDoor
namespace Rows

/-- THE TIED CARD OF 'engrosslaw31.CurveBreaches'. -/
def curveBreachesCard : Claim7 := { stood := { row := curveBreachesRow, standIns := [], harness := (true, "246c426ae445b047b216aeb942f8c0e7733e7e7f13ed6e4148f300da9f3c9f04"), looks := false }, kinds := [], alts := [], laidByText := true, laidKinds := [.data, .funcs], laidTests := true, laidLooks := .later }
def CurveBreachesCardSaid : Prop := Claim7.holds Tryz.pinned (.plain (OpenSpec.ofChange curveBreachesSpec)) curveBreachesCard

/-- THE TIED CARD OF 'engrosslaw21.ImageSnapshots'. -/
def imageSnapshotsCard : Claim7 := { stood := { row := imageSnapshotsRow, standIns := [], harness := (true, "246c426ae445b047b216aeb942f8c0e7733e7e7f13ed6e4148f300da9f3c9f04"), looks := false }, kinds := [], alts := [], laidByText := true, laidKinds := [.data, .data, .data], laidTests := true, laidLooks := .later }
def ImageSnapshotsCardSaid : Prop := Claim7.holds Tryz.pinned (.plain (OpenSpec.ofChange imageSnapshotsSpec)) imageSnapshotsCard

/-- THE TIED CARD OF 'engrosslaw22.VerifyTells'. -/
def verifyTellsCard : Claim7 := { stood := { row := verifyTellsRow, standIns := [], harness := (true, "246c426ae445b047b216aeb942f8c0e7733e7e7f13ed6e4148f300da9f3c9f04"), looks := false }, kinds := [], alts := [], laidByText := true, laidKinds := [.data, .data, .data, .data, .data], laidTests := true, laidLooks := .later }
def VerifyTellsCardSaid : Prop := Claim7.holds Tryz.pinned (.plain (OpenSpec.ofChange verifyTellsSpec)) verifyTellsCard

/-- THE SECOND FORM's CARD OF 'engrosslaw31.CurveBreaches'. -/
def curveBreachesUptoCard : Claim7 := { stood := { row := curveBreachesUptoRow, standIns := [], harness := (true, "246c426ae445b047b216aeb942f8c0e7733e7e7f13ed6e4148f300da9f3c9f04"), looks := false }, kinds := [], alts := [], laidByText := true, laidKinds := [.data, .funcs], laidTests := true, laidLooks := .later }
def CurveBreachesUptoCardSaid : Prop := Claim7.holds Tryz.pinned (.plain (OpenSpec.upto curveBreachesSpec)) curveBreachesUptoCard

/-- THE SECOND FORM's CARD OF 'engrosslaw21.ImageSnapshots'. -/
def imageSnapshotsUptoCard : Claim7 := { stood := { row := imageSnapshotsUptoRow, standIns := [], harness := (true, "246c426ae445b047b216aeb942f8c0e7733e7e7f13ed6e4148f300da9f3c9f04"), looks := false }, kinds := [], alts := [], laidByText := true, laidKinds := [.data, .data, .data], laidTests := true, laidLooks := .later }
def ImageSnapshotsUptoCardSaid : Prop := Claim7.holds Tryz.pinned (.plain (OpenSpec.upto imageSnapshotsSpec)) imageSnapshotsUptoCard

/-- THE SECOND FORM's CARD OF 'engrosslaw22.VerifyTells'. -/
def verifyTellsUptoCard : Claim7 := { stood := { row := verifyTellsUptoRow, standIns := [], harness := (true, "246c426ae445b047b216aeb942f8c0e7733e7e7f13ed6e4148f300da9f3c9f04"), looks := false }, kinds := [], alts := [], laidByText := true, laidKinds := [.data, .data, .data, .data, .data], laidTests := true, laidLooks := .later }
def VerifyTellsUptoCardSaid : Prop := Claim7.holds Tryz.pinned (.plain (OpenSpec.upto verifyTellsSpec)) verifyTellsUptoCard
end Rows
end Go.Proofs.YthmoeebmeifleaaGreatDoor

/-
  DERIVED. GIVEN WITH THE SEED: THE CARDS: each row of YtacpcbobkeedbaaGreatDoorRows.lean that lists a variable, with what it lists TIED to the program's text (the seventh form; the later family's looks); each row that meets fmt, with fmt's text TOLD by the authors' own Lean function (tested against real Go, not proved from fmt's source: count such statements apart). THE CARD IS WHAT COUNTS. Prove the row's statement (the work); the ties are given (YtacpcbobkeedbaaGreatDoorTie.lean); close each card by the builder's one call (the guide's Derived/Test/ToyasCard.lean, 'card_holds'). Laid BY PROGRAM, IN A SANDBOX (cutbox-door.mjs). By AI agents, Wed Nov 11 2026. No macro, syntax, notation, axiom, sorry.
-/
import Derived.Test.YtacpcbobkeedbaaGreatDoorRows
import GoSem.ClaimSeven
namespace Go.Proofs.YtacpcbobkeedbaaGreatDoor
namespace Rows

/-- THE TIED CARD OF 'engrosslaw22.VerifyWhole'. -/
def verifyWholeCard : Claim7 := { stood := { row := verifyWholeRow, standIns := [], harness := (true, "4d4611d26fdc7a8732b0534a286b21240974a1c6c99b682942b8e5a4a2d0e2f7"), looks := false }, kinds := [], alts := [], laidByText := true, laidKinds := [.data, .data, .data, .data, .data], laidTests := true, laidLooks := .later }
def VerifyWholeCardSaid : Prop := Claim7.holds Tryz.pinned (.plain (OpenSpec.ofChange verifyWholeSpec)) verifyWholeCard

/-- THE TIED CARD OF 'engrosslaw19.LogHeader'. -/
def logHeaderCard : Claim7 := { stood := { row := logHeaderRow, standIns := [], harness := (true, "4d4611d26fdc7a8732b0534a286b21240974a1c6c99b682942b8e5a4a2d0e2f7"), looks := false }, kinds := [], alts := [], laidByText := true, laidKinds := [.data, .data, .data, .data, .data], laidTests := true, laidLooks := .later }
def LogHeaderCardSaid : Prop := Claim7.holds Tryz.pinned (.plain (OpenSpec.ofChange logHeaderSpec)) logHeaderCard

/-- THE TIED CARD OF 'engrosslaw19.LogTwice'. -/
def logTwiceCard : Claim7 := { stood := { row := logTwiceRow, standIns := [], harness := (true, "4d4611d26fdc7a8732b0534a286b21240974a1c6c99b682942b8e5a4a2d0e2f7"), looks := false }, kinds := [], alts := [], laidByText := true, laidKinds := [.data, .data, .data, .data, .data], laidTests := true, laidLooks := .later }
def LogTwiceCardSaid : Prop := Claim7.holds Tryz.pinned (.plain (OpenSpec.ofChange logTwiceSpec)) logTwiceCard

/-- THE TIED CARD OF 'engrosslaw19.LogCrash'. -/
def logCrashCard : Claim7 := { stood := { row := logCrashRow, standIns := [], harness := (true, "4d4611d26fdc7a8732b0534a286b21240974a1c6c99b682942b8e5a4a2d0e2f7"), looks := false }, kinds := [], alts := [], laidByText := true, laidKinds := [.data, .data, .data, .data, .data], laidTests := true, laidLooks := .later }
def LogCrashCardSaid : Prop := Claim7.holds Tryz.pinned (.plain (OpenSpec.ofChange logCrashSpec)) logCrashCard

/-- THE TIED CARD OF 'engrosslaw19.LogPlays'. -/
def logPlaysCard : Claim7 := { stood := { row := logPlaysRow, standIns := [], harness := (true, "4d4611d26fdc7a8732b0534a286b21240974a1c6c99b682942b8e5a4a2d0e2f7"), looks := false }, kinds := [], alts := [], laidByText := true, laidKinds := [.data, .data, .data, .data, .data], laidTests := true, laidLooks := .later }
def LogPlaysCardSaid : Prop := Claim7.holds Tryz.pinned (.plain (OpenSpec.ofChange logPlaysSpec)) logPlaysCard

/-- THE SECOND FORM's CARD OF 'engrosslaw22.VerifyWhole'. -/
def verifyWholeUptoCard : Claim7 := { stood := { row := verifyWholeUptoRow, standIns := [], harness := (true, "4d4611d26fdc7a8732b0534a286b21240974a1c6c99b682942b8e5a4a2d0e2f7"), looks := false }, kinds := [], alts := [], laidByText := true, laidKinds := [.data, .data, .data, .data, .data], laidTests := true, laidLooks := .later }
def VerifyWholeUptoCardSaid : Prop := Claim7.holds Tryz.pinned (.plain (OpenSpec.upto verifyWholeSpec)) verifyWholeUptoCard

/-- THE SECOND FORM's CARD OF 'engrosslaw19.LogHeader'. -/
def logHeaderUptoCard : Claim7 := { stood := { row := logHeaderUptoRow, standIns := [], harness := (true, "4d4611d26fdc7a8732b0534a286b21240974a1c6c99b682942b8e5a4a2d0e2f7"), looks := false }, kinds := [], alts := [], laidByText := true, laidKinds := [.data, .data, .data, .data, .data], laidTests := true, laidLooks := .later }
def LogHeaderUptoCardSaid : Prop := Claim7.holds Tryz.pinned (.plain (OpenSpec.upto logHeaderSpec)) logHeaderUptoCard

/-- THE SECOND FORM's CARD OF 'engrosslaw19.LogTwice'. -/
def logTwiceUptoCard : Claim7 := { stood := { row := logTwiceUptoRow, standIns := [], harness := (true, "4d4611d26fdc7a8732b0534a286b21240974a1c6c99b682942b8e5a4a2d0e2f7"), looks := false }, kinds := [], alts := [], laidByText := true, laidKinds := [.data, .data, .data, .data, .data], laidTests := true, laidLooks := .later }
def LogTwiceUptoCardSaid : Prop := Claim7.holds Tryz.pinned (.plain (OpenSpec.upto logTwiceSpec)) logTwiceUptoCard

/-- THE SECOND FORM's CARD OF 'engrosslaw19.LogCrash'. -/
def logCrashUptoCard : Claim7 := { stood := { row := logCrashUptoRow, standIns := [], harness := (true, "4d4611d26fdc7a8732b0534a286b21240974a1c6c99b682942b8e5a4a2d0e2f7"), looks := false }, kinds := [], alts := [], laidByText := true, laidKinds := [.data, .data, .data, .data, .data], laidTests := true, laidLooks := .later }
def LogCrashUptoCardSaid : Prop := Claim7.holds Tryz.pinned (.plain (OpenSpec.upto logCrashSpec)) logCrashUptoCard

/-- THE SECOND FORM's CARD OF 'engrosslaw19.LogPlays'. -/
def logPlaysUptoCard : Claim7 := { stood := { row := logPlaysUptoRow, standIns := [], harness := (true, "4d4611d26fdc7a8732b0534a286b21240974a1c6c99b682942b8e5a4a2d0e2f7"), looks := false }, kinds := [], alts := [], laidByText := true, laidKinds := [.data, .data, .data, .data, .data], laidTests := true, laidLooks := .later }
def LogPlaysUptoCardSaid : Prop := Claim7.holds Tryz.pinned (.plain (OpenSpec.upto logPlaysSpec)) logPlaysUptoCard
end Rows
end Go.Proofs.YtacpcbobkeedbaaGreatDoor

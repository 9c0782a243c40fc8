/-
  DERIVED. GIVEN WITH THE SEED: THE CARDS: each row of YtibdpdlghibijaaGreatDoorRows.lean that lists a variable, with what it lists TIED to the program's text (the seventh form; the later family's looks); each row that meets fmt, with fmt's text TOLD by the authors' own Lean function (tested against real Go, not proved from fmt's source: count such statements apart). THE CARD IS WHAT COUNTS. Prove the row's statement (the work); the ties are given (YtibdpdlghibijaaGreatDoorTie.lean); close each card by the builder's one call (the guide's Derived/Test/ToyasCard.lean, 'card_holds'). Laid BY PROGRAM, IN A SANDBOX (cutbox-door.mjs). By AI agents, Wed Nov 11 2026. No macro, syntax, notation, axiom, sorry.
-/
import Derived.Test.YtibdpdlghibijaaGreatDoorRows
import GoSem.ClaimSeven
namespace Go.Proofs.YtibdpdlghibijaaGreatDoor
namespace Rows

/-- THE TIED CARD OF 'engrosslaw19.LogHeader'. -/
def logHeaderCard : Claim7 := { stood := { row := logHeaderRow, standIns := [], harness := (true, "4c84ede0c04b58e8a5bf058dd01a137af82c8677d749da3838799b461ba38e10"), looks := false }, kinds := [], alts := [], laidByText := true, laidKinds := [.data, .data, .data, .data, .data], laidTests := true, laidLooks := .later }
def LogHeaderCardSaid : Prop := Claim7.holds Tryz.pinned (.plain (OpenSpec.ofChange logHeaderSpec)) logHeaderCard

/-- THE TIED CARD OF 'engrosslaw19.LogTwice'. -/
def logTwiceCard : Claim7 := { stood := { row := logTwiceRow, standIns := [], harness := (true, "4c84ede0c04b58e8a5bf058dd01a137af82c8677d749da3838799b461ba38e10"), looks := false }, kinds := [], alts := [], laidByText := true, laidKinds := [.data, .data, .data, .data, .data], laidTests := true, laidLooks := .later }
def LogTwiceCardSaid : Prop := Claim7.holds Tryz.pinned (.plain (OpenSpec.ofChange logTwiceSpec)) logTwiceCard

/-- THE TIED CARD OF 'engrosslaw19.LogCrash'. -/
def logCrashCard : Claim7 := { stood := { row := logCrashRow, standIns := [], harness := (true, "4c84ede0c04b58e8a5bf058dd01a137af82c8677d749da3838799b461ba38e10"), looks := false }, kinds := [], alts := [], laidByText := true, laidKinds := [.data, .data, .data, .data, .data], laidTests := true, laidLooks := .later }
def LogCrashCardSaid : Prop := Claim7.holds Tryz.pinned (.plain (OpenSpec.ofChange logCrashSpec)) logCrashCard

/-- THE TIED CARD OF 'engrosslaw19.LogPlays'. -/
def logPlaysCard : Claim7 := { stood := { row := logPlaysRow, standIns := [], harness := (true, "4c84ede0c04b58e8a5bf058dd01a137af82c8677d749da3838799b461ba38e10"), looks := false }, kinds := [], alts := [], laidByText := true, laidKinds := [.data, .data, .data, .data, .data], laidTests := true, laidLooks := .later }
def LogPlaysCardSaid : Prop := Claim7.holds Tryz.pinned (.plain (OpenSpec.ofChange logPlaysSpec)) logPlaysCard

/-- THE SECOND FORM's CARD OF 'engrosslaw19.LogHeader'. -/
def logHeaderUptoCard : Claim7 := { stood := { row := logHeaderUptoRow, standIns := [], harness := (true, "4c84ede0c04b58e8a5bf058dd01a137af82c8677d749da3838799b461ba38e10"), looks := false }, kinds := [], alts := [], laidByText := true, laidKinds := [.data, .data, .data, .data, .data], laidTests := true, laidLooks := .later }
def LogHeaderUptoCardSaid : Prop := Claim7.holds Tryz.pinned (.plain (OpenSpec.upto logHeaderSpec)) logHeaderUptoCard

/-- THE SECOND FORM's CARD OF 'engrosslaw19.LogTwice'. -/
def logTwiceUptoCard : Claim7 := { stood := { row := logTwiceUptoRow, standIns := [], harness := (true, "4c84ede0c04b58e8a5bf058dd01a137af82c8677d749da3838799b461ba38e10"), looks := false }, kinds := [], alts := [], laidByText := true, laidKinds := [.data, .data, .data, .data, .data], laidTests := true, laidLooks := .later }
def LogTwiceUptoCardSaid : Prop := Claim7.holds Tryz.pinned (.plain (OpenSpec.upto logTwiceSpec)) logTwiceUptoCard

/-- THE SECOND FORM's CARD OF 'engrosslaw19.LogCrash'. -/
def logCrashUptoCard : Claim7 := { stood := { row := logCrashUptoRow, standIns := [], harness := (true, "4c84ede0c04b58e8a5bf058dd01a137af82c8677d749da3838799b461ba38e10"), looks := false }, kinds := [], alts := [], laidByText := true, laidKinds := [.data, .data, .data, .data, .data], laidTests := true, laidLooks := .later }
def LogCrashUptoCardSaid : Prop := Claim7.holds Tryz.pinned (.plain (OpenSpec.upto logCrashSpec)) logCrashUptoCard

/-- THE SECOND FORM's CARD OF 'engrosslaw19.LogPlays'. -/
def logPlaysUptoCard : Claim7 := { stood := { row := logPlaysUptoRow, standIns := [], harness := (true, "4c84ede0c04b58e8a5bf058dd01a137af82c8677d749da3838799b461ba38e10"), looks := false }, kinds := [], alts := [], laidByText := true, laidKinds := [.data, .data, .data, .data, .data], laidTests := true, laidLooks := .later }
def LogPlaysUptoCardSaid : Prop := Claim7.holds Tryz.pinned (.plain (OpenSpec.upto logPlaysSpec)) logPlaysUptoCard
end Rows
end Go.Proofs.YtibdpdlghibijaaGreatDoor

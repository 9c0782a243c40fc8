/-
  DERIVED. GIVEN WITH THE SEED: THE CARDS: each row of YtfpoclhenokhhaaDoorRows.lean that lists a variable, with what it lists TIED to the program's text (the seventh form; the later family's looks); each row that meets fmt, with fmt's text TOLD by the authors' own Lean function (tested against real Go, not proved from fmt's source: count such statements apart). THE CARD IS WHAT COUNTS. Prove the row's statement (the work); the ties are given (YtfpoclhenokhhaaDoorTie.lean); close each card by the builder's one call (the guide's Derived/Test/ToyasCard.lean, 'card_holds'). Laid BY PROGRAM, IN A SANDBOX (cutbox-door.mjs). By AI agents, Wed Nov 11 2026. No macro, syntax, notation, axiom, sorry.
-/
import Derived.Test.YtfpoclhenokhhaaDoorRows
import GoSem.ClaimSeven
namespace Go.Proofs.YtfpoclhenokhhaaDoor
namespace Rows

/-- THE TIED CARD OF 'engrosslaw14.DiffBack'. -/
def diffBackCard : Claim7 := { stood := { row := diffBackRow, standIns := [], harness := (true, "90f2724e51ca4210b07926d13082a2326fc658023a6b57191cbc7c07bc1ee160"), looks := false }, kinds := [], alts := [], laidByText := true, laidKinds := [.data], laidTests := true, laidLooks := .later }
def DiffBackCardSaid : Prop := Claim7.holds Tryd.pinned (.plain (OpenSpec.ofChange diffBackSpec)) diffBackCard

/-- THE TIED CARD OF 'engrosslaw14.DiffPatches'. -/
def diffPatchesCard : Claim7 := { stood := { row := diffPatchesRow, standIns := [], harness := (true, "90f2724e51ca4210b07926d13082a2326fc658023a6b57191cbc7c07bc1ee160"), looks := false }, kinds := [], alts := [], laidByText := true, laidKinds := [.data], laidTests := true, laidLooks := .later }
def DiffPatchesCardSaid : Prop := Claim7.holds Tryd.pinned (.plain (OpenSpec.ofChange diffPatchesSpec)) diffPatchesCard

/-- THE SECOND FORM's CARD OF 'engrosslaw14.DiffBack'. -/
def diffBackUptoCard : Claim7 := { stood := { row := diffBackUptoRow, standIns := [], harness := (true, "90f2724e51ca4210b07926d13082a2326fc658023a6b57191cbc7c07bc1ee160"), looks := false }, kinds := [], alts := [], laidByText := true, laidKinds := [.data], laidTests := true, laidLooks := .later }
def DiffBackUptoCardSaid : Prop := Claim7.holds Tryd.pinned (.plain (OpenSpec.upto diffBackSpec)) diffBackUptoCard

/-- THE SECOND FORM's CARD OF 'engrosslaw14.DiffPatches'. -/
def diffPatchesUptoCard : Claim7 := { stood := { row := diffPatchesUptoRow, standIns := [], harness := (true, "90f2724e51ca4210b07926d13082a2326fc658023a6b57191cbc7c07bc1ee160"), looks := false }, kinds := [], alts := [], laidByText := true, laidKinds := [.data], laidTests := true, laidLooks := .later }
def DiffPatchesUptoCardSaid : Prop := Claim7.holds Tryd.pinned (.plain (OpenSpec.upto diffPatchesSpec)) diffPatchesUptoCard
end Rows
end Go.Proofs.YtfpoclhenokhhaaDoor

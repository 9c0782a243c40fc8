/-
  NARROWER THAN 'FOR EVERY INPUT', by the rows' own cells (each row's printed sentence says how): DiffBack: laid · DiffPatches: laid.
  DERIVED. THE GIVEN ROWS OF THIS SEAT. 2 by the template 'for every input the law returns true; each argument reads behind the call as it read before'; 0 by the template 'total and deterministic' (their statements: YtfpoclhenokhhaaDoorTotals.lean).
  GIVEN WITH THE SEED: the statements are not yours to turn. If you find one false, say at which input.
  Laid BY PROGRAM, IN A SANDBOX (cutbox-rows.mjs): the forced cells as the released guide's own fill.sh prints them over the translation bf44df82a8a1d6f0… (all of the seat's roots in one cut). By AI agents, Wed Nov 11 2026. No macro, syntax, notation, axiom, sorry.
-/
import Derived.Test.YtfpoclhenokhhaaDoorChecked
import GoSem.Claim
import GoSem.ClaimJoined
import GoSem.ClaimMapViews
import Derived.JoinedTies
import Derived.KernelRfl
namespace Go.Proofs.YtfpoclhenokhhaaDoor
/- THE CELL 'sum', in the pinned program and in every row, IS THE sha256 OF THE DUMP (.gsa) THAT YtfpoclhenokhhaaDoorProg.lean LOADS. Nothing in Lean hashes anything: it is a label: what it is worth is what the hold of that sum in a sandbox is worth. -/
noncomputable def Tryd.pinned : Pinned := { name := "ytfpoclhenokhhaadoor", sum := "bf44df82a8a1d6f0dea1845ec2af033399810d890365db3c7c05edcb48544949", checked := Tryd.checked }
namespace Rows
def none {H : Type} : Left H := { results := [], args := [] }

/- WHAT THE LISTED PACKAGE-LEVEL VARIABLES READ AS WHEN THE CALL BEGINS. Each datum BY PROGRAM (the guide's laid-datum.mjs) off the statement by which the dump's own 'gosem.cut.vars' lays the variable. In a bare row this is a premise. The card (YtfpoclhenokhhaaDoorCards.lean) ties it to the program's text. -/
def laid_engross_diff_width {H : Type} : DataW H := .agg [.lit (.int .i64 0), .lit (.int .i64 3), .lit (.int .i64 1), .lit (.int .i64 5), .lit (.int .i64 1), .lit (.int .i64 1)]

/-- 'engrosslaw14.DiffBack': WHATEVER THE INPUT: true; the input reads as it did. -/
def diffBackSpec : ChangeSpec := { name := "diffBack", fn := fun _ => fun
  | [d1, d2] => { results := [.lit (.bool true)], args := [d1, d2] }
  | _ => none }
def diffBackRow : OpenClaim := { program := "ytfpoclhenokhhaadoor", sum := "bf44df82a8a1d6f0dea1845ec2af033399810d890365db3c7c05edcb48544949", func := "engross/engrosslaw14.DiffBack", spec := "diffBack", unfollowed := true, recurses := true, named := ["engross/diff.width"], plainKeys := false, apart := false, laid := [("engross/diff.width", laid_engross_diff_width)] }
def DiffBackSaid : Prop := diffBackRow.holds Tryd.pinned (OpenSpec.ofChange diffBackSpec)

/-- ITS FALSE NEIGHBOUR: 'it returns false'. Refute it at one input. -/
def diffBackWrong : ChangeSpec := { name := "diffBack", fn := fun _ => fun
  | [d1, d2] => { results := [.lit (.bool false)], args := [d1, d2] }
  | _ => none }
def DiffBackWrongFalsely : Prop := diffBackRow.holds Tryd.pinned (OpenSpec.ofChange diffBackWrong)

/-- 'engrosslaw14.DiffPatches': WHATEVER THE INPUT: true; the input reads as it did. -/
def diffPatchesSpec : ChangeSpec := { name := "diffPatches", fn := fun _ => fun
  | [d1, d2, d3] => { results := [.lit (.bool true)], args := [d1, d2, d3] }
  | _ => none }
def diffPatchesRow : OpenClaim := { program := "ytfpoclhenokhhaadoor", sum := "bf44df82a8a1d6f0dea1845ec2af033399810d890365db3c7c05edcb48544949", func := "engross/engrosslaw14.DiffPatches", spec := "diffPatches", unfollowed := true, recurses := true, named := ["engross/diff.width"], plainKeys := false, apart := false, laid := [("engross/diff.width", laid_engross_diff_width)] }
def DiffPatchesSaid : Prop := diffPatchesRow.holds Tryd.pinned (OpenSpec.ofChange diffPatchesSpec)

/-- ITS FALSE NEIGHBOUR: 'it returns false'. Refute it at one input. -/
def diffPatchesWrong : ChangeSpec := { name := "diffPatches", fn := fun _ => fun
  | [d1, d2, d3] => { results := [.lit (.bool false)], args := [d1, d2, d3] }
  | _ => none }
def DiffPatchesWrongFalsely : Prop := diffPatchesRow.holds Tryd.pinned (OpenSpec.ofChange diffPatchesWrong)

/- THE SECOND FORM. 'bulk': how many values and letters a reading holds, each counted each time it is reached (what is shared counts as often as it is met; a slice's spare places count too). A statement '..UptoSaid' is the law's where the arguments, and the package variables that the reading takes, are together of bulk at most 1048576: NARROWER than '..Said'. Prove '..Said' where nothing that the law and all that it calls make is longer than what came in: it says more and counts as full. Else prove '..UptoSaid'. A law counts once. -/
mutual
def uptoBulk {H : Type} : DataW H → Nat
  | .lit (.string bytes) => bytes.length + 1
  | .lit _ => 1
  | .nil => 1
  | .ptr d => uptoBulk d + 1
  | .slice elems spare => uptoBulkAll elems + uptoBulkAll spare + 1
  | .agg parts => uptoBulkAll parts + 1
  | .iface _ d => uptoBulk d + 1
  | .map entries => uptoBulkEntries entries + 1
  | .held _ => 1
def uptoBulkAll {H : Type} : List (DataW H) → Nat
  | [] => 0
  | d :: r => uptoBulk d + uptoBulkAll r
def uptoBulkEntries {H : Type} : List (Lit × DataW H) → Nat
  | [] => 0
  | x :: r => uptoBulkEntry x + uptoBulkEntries r
def uptoBulkEntry {H : Type} : Lit × DataW H → Nat
  | (.string bytes, d) => bytes.length + uptoBulk d + 1
  | (_, d) => uptoBulk d + 1
 end
def uptoSmall : (H : Type) → List (DataW H) → Bool := fun _ ds => decide (uptoBulkAll ds ≤ 1048576)
def OpenSpec.upto (s : _root_.Go.ChangeSpec) : _root_.Go.OpenSpec := { _root_.Go.OpenSpec.ofChange s with cond := some uptoSmall }

/-- 'engrosslaw14.DiffBack', WHERE WHAT IT READS IS OF BULK AT MOST 1048576: true; the input reads as it did. -/
def diffBackUptoRow : OpenClaim := { program := "ytfpoclhenokhhaadoor", sum := "bf44df82a8a1d6f0dea1845ec2af033399810d890365db3c7c05edcb48544949", func := "engross/engrosslaw14.DiffBack", spec := "diffBack", unfollowed := true, recurses := true, named := ["engross/diff.width"], plainKeys := false, apart := false, laid := [("engross/diff.width", laid_engross_diff_width)], narrowed := true }
def DiffBackUptoSaid : Prop := diffBackUptoRow.holds Tryd.pinned (OpenSpec.upto diffBackSpec)

/-- 'engrosslaw14.DiffPatches', WHERE WHAT IT READS IS OF BULK AT MOST 1048576: true; the input reads as it did. -/
def diffPatchesUptoRow : OpenClaim := { program := "ytfpoclhenokhhaadoor", sum := "bf44df82a8a1d6f0dea1845ec2af033399810d890365db3c7c05edcb48544949", func := "engross/engrosslaw14.DiffPatches", spec := "diffPatches", unfollowed := true, recurses := true, named := ["engross/diff.width"], plainKeys := false, apart := false, laid := [("engross/diff.width", laid_engross_diff_width)], narrowed := true }
def DiffPatchesUptoSaid : Prop := diffPatchesUptoRow.holds Tryd.pinned (OpenSpec.upto diffPatchesSpec)

end Rows
end Go.Proofs.YtfpoclhenokhhaaDoor

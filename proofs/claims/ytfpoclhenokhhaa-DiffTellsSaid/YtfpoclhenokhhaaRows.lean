/-
  No cell of these rows narrows 'for every input' (looked for: loops, veiled, ifaces, maps, wideKeys, modest, calm, conditions, laid).
  DERIVED. THE GIVEN ROWS OF THIS SEAT. 7 by the template 'for every input the law returns true; each argument reads behind the call as it read before'; 0 by the template 'total and deterministic' (their statements: YtfpoclhenokhhaaTotals.lean).
  GIVEN WITH THE SEED: the statements are not yours to turn. If you find one false, say at which input.
  Laid BY PROGRAM, IN A SANDBOX (cutbox-rows.mjs): the forced cells as the released guide's own fill.sh prints them over the translation 5d8f329ab3cf848c… (all of the seat's roots in one cut). By AI agents, Wed Nov 11 2026. No macro, syntax, notation, axiom, sorry.
-/
import Derived.Test.YtfpoclhenokhhaaChecked
import GoSem.Claim
import GoSem.ClaimJoined
import GoSem.ClaimMapViews
import Derived.JoinedTies
import Derived.KernelRfl
namespace Go.Proofs.Ytfpoclhenokhhaa
/- THE CELL 'sum', in the pinned program and in every row, IS THE sha256 OF THE DUMP (.gsa) THAT YtfpoclhenokhhaaProg.lean LOADS. Nothing in Lean hashes anything: it is a label: what it is worth is what the hold of that sum in a sandbox is worth. -/
noncomputable def Try.pinned : Pinned := { name := "ytfpoclhenokhhaa", sum := "5d8f329ab3cf848ce8a5db60195b1ab6cd77caa7a7288f5a5615e8210d635e98", checked := Try.checked }
namespace Rows
def none {H : Type} : Left H := { results := [], args := [] }

/-- 'engrosslaw11.ColumnStairs': WHATEVER THE INPUT: true; the input reads as it did. -/
def columnStairsSpec : ChangeSpec := { name := "columnStairs", fn := fun _ => fun
  | [d1, d2, d3] => { results := [.lit (.bool true)], args := [d1, d2, d3] }
  | _ => none }
def columnStairsRow : OpenClaim := { program := "ytfpoclhenokhhaa", sum := "5d8f329ab3cf848ce8a5db60195b1ab6cd77caa7a7288f5a5615e8210d635e98", func := "engross/engrosslaw11.ColumnStairs", spec := "columnStairs", unfollowed := true, recurses := true, plainKeys := false, apart := false }
def ColumnStairsSaid : Prop := columnStairsRow.holds Try.pinned (OpenSpec.ofChange columnStairsSpec)

/-- ITS FALSE NEIGHBOUR: 'it returns false'. Refute it at one input. -/
def columnStairsWrong : ChangeSpec := { name := "columnStairs", fn := fun _ => fun
  | [d1, d2, d3] => { results := [.lit (.bool false)], args := [d1, d2, d3] }
  | _ => none }
def ColumnStairsWrongFalsely : Prop := columnStairsRow.holds Try.pinned (OpenSpec.ofChange columnStairsWrong)

/-- 'engrosslaw11.ColumnGets': WHATEVER THE INPUT: true; the input reads as it did. -/
def columnGetsSpec : ChangeSpec := { name := "columnGets", fn := fun _ => fun
  | [d1, d2] => { results := [.lit (.bool true)], args := [d1, d2] }
  | _ => none }
def columnGetsRow : OpenClaim := { program := "ytfpoclhenokhhaa", sum := "5d8f329ab3cf848ce8a5db60195b1ab6cd77caa7a7288f5a5615e8210d635e98", func := "engross/engrosslaw11.ColumnGets", spec := "columnGets", unfollowed := true, recurses := true, plainKeys := false, apart := false }
def ColumnGetsSaid : Prop := columnGetsRow.holds Try.pinned (OpenSpec.ofChange columnGetsSpec)

/-- ITS FALSE NEIGHBOUR: 'it returns false'. Refute it at one input. -/
def columnGetsWrong : ChangeSpec := { name := "columnGets", fn := fun _ => fun
  | [d1, d2] => { results := [.lit (.bool false)], args := [d1, d2] }
  | _ => none }
def ColumnGetsWrongFalsely : Prop := columnGetsRow.holds Try.pinned (OpenSpec.ofChange columnGetsWrong)

/-- 'engrosslaw11.ColumnPuts': WHATEVER THE INPUT: true; the input reads as it did. -/
def columnPutsSpec : ChangeSpec := { name := "columnPuts", fn := fun _ => fun
  | [d1, d2] => { results := [.lit (.bool true)], args := [d1, d2] }
  | _ => none }
def columnPutsRow : OpenClaim := { program := "ytfpoclhenokhhaa", sum := "5d8f329ab3cf848ce8a5db60195b1ab6cd77caa7a7288f5a5615e8210d635e98", func := "engross/engrosslaw11.ColumnPuts", spec := "columnPuts", unfollowed := true, recurses := true, plainKeys := false, apart := false }
def ColumnPutsSaid : Prop := columnPutsRow.holds Try.pinned (OpenSpec.ofChange columnPutsSpec)

/-- ITS FALSE NEIGHBOUR: 'it returns false'. Refute it at one input. -/
def columnPutsWrong : ChangeSpec := { name := "columnPuts", fn := fun _ => fun
  | [d1, d2] => { results := [.lit (.bool false)], args := [d1, d2] }
  | _ => none }
def ColumnPutsWrongFalsely : Prop := columnPutsRow.holds Try.pinned (OpenSpec.ofChange columnPutsWrong)

/-- 'engrosslaw09.DiskKeeps': WHATEVER THE INPUT: true; the input reads as it did. -/
def diskKeepsSpec : ChangeSpec := { name := "diskKeeps", fn := fun _ => fun
  | [d1, d2, d3] => { results := [.lit (.bool true)], args := [d1, d2, d3] }
  | _ => none }
def diskKeepsRow : OpenClaim := { program := "ytfpoclhenokhhaa", sum := "5d8f329ab3cf848ce8a5db60195b1ab6cd77caa7a7288f5a5615e8210d635e98", func := "engross/engrosslaw09.DiskKeeps", spec := "diskKeeps", unfollowed := true, recurses := true, plainKeys := false, apart := false }
def DiskKeepsSaid : Prop := diskKeepsRow.holds Try.pinned (OpenSpec.ofChange diskKeepsSpec)

/-- ITS FALSE NEIGHBOUR: 'it returns false'. Refute it at one input. -/
def diskKeepsWrong : ChangeSpec := { name := "diskKeeps", fn := fun _ => fun
  | [d1, d2, d3] => { results := [.lit (.bool false)], args := [d1, d2, d3] }
  | _ => none }
def DiskKeepsWrongFalsely : Prop := diskKeepsRow.holds Try.pinned (OpenSpec.ofChange diskKeepsWrong)

/-- 'engrosslaw14.DiffTells': WHATEVER THE INPUT: true; the input reads as it did. -/
def diffTellsSpec : ChangeSpec := { name := "diffTells", fn := fun _ => fun
  | [d1, d2] => { results := [.lit (.bool true)], args := [d1, d2] }
  | _ => none }
def diffTellsRow : OpenClaim := { program := "ytfpoclhenokhhaa", sum := "5d8f329ab3cf848ce8a5db60195b1ab6cd77caa7a7288f5a5615e8210d635e98", func := "engross/engrosslaw14.DiffTells", spec := "diffTells", unfollowed := true, recurses := true, plainKeys := false, apart := false }
def DiffTellsSaid : Prop := diffTellsRow.holds Try.pinned (OpenSpec.ofChange diffTellsSpec)

/-- ITS FALSE NEIGHBOUR: 'it returns false'. Refute it at one input. -/
def diffTellsWrong : ChangeSpec := { name := "diffTells", fn := fun _ => fun
  | [d1, d2] => { results := [.lit (.bool false)], args := [d1, d2] }
  | _ => none }
def DiffTellsWrongFalsely : Prop := diffTellsRow.holds Try.pinned (OpenSpec.ofChange diffTellsWrong)

/-- 'engrosslaw09.DiskPlays': WHATEVER THE INPUT: true; the input reads as it did. -/
def diskPlaysSpec : ChangeSpec := { name := "diskPlays", fn := fun _ => fun
  | [d1, d2, d3] => { results := [.lit (.bool true)], args := [d1, d2, d3] }
  | _ => none }
def diskPlaysRow : OpenClaim := { program := "ytfpoclhenokhhaa", sum := "5d8f329ab3cf848ce8a5db60195b1ab6cd77caa7a7288f5a5615e8210d635e98", func := "engross/engrosslaw09.DiskPlays", spec := "diskPlays", unfollowed := true, recurses := true, plainKeys := false, apart := false }
def DiskPlaysSaid : Prop := diskPlaysRow.holds Try.pinned (OpenSpec.ofChange diskPlaysSpec)

/-- ITS FALSE NEIGHBOUR: 'it returns false'. Refute it at one input. -/
def diskPlaysWrong : ChangeSpec := { name := "diskPlays", fn := fun _ => fun
  | [d1, d2, d3] => { results := [.lit (.bool false)], args := [d1, d2, d3] }
  | _ => none }
def DiskPlaysWrongFalsely : Prop := diskPlaysRow.holds Try.pinned (OpenSpec.ofChange diskPlaysWrong)

/-- 'engrosslaw09.DiskNone': WHATEVER THE INPUT: true; the input reads as it did. -/
def diskNoneSpec : ChangeSpec := { name := "diskNone", fn := fun _ => fun
  | [d1, d2, d3] => { results := [.lit (.bool true)], args := [d1, d2, d3] }
  | _ => none }
def diskNoneRow : OpenClaim := { program := "ytfpoclhenokhhaa", sum := "5d8f329ab3cf848ce8a5db60195b1ab6cd77caa7a7288f5a5615e8210d635e98", func := "engross/engrosslaw09.DiskNone", spec := "diskNone", unfollowed := true, recurses := true, plainKeys := false, apart := false }
def DiskNoneSaid : Prop := diskNoneRow.holds Try.pinned (OpenSpec.ofChange diskNoneSpec)

/-- ITS FALSE NEIGHBOUR: 'it returns false'. Refute it at one input. -/
def diskNoneWrong : ChangeSpec := { name := "diskNone", fn := fun _ => fun
  | [d1, d2, d3] => { results := [.lit (.bool false)], args := [d1, d2, d3] }
  | _ => none }
def DiskNoneWrongFalsely : Prop := diskNoneRow.holds Try.pinned (OpenSpec.ofChange diskNoneWrong)

/- THE SECOND FORM. 'bulk': how many values and letters a reading holds, each counted each time it is reached (what is shared counts as often as it is met; a slice's spare places count too). A statement '..UptoSaid' is the law's where the arguments, and the package variables that the reading takes, are together of bulk at most 1048576: NARROWER than '..Said'. Prove '..Said' where nothing that the law and all that it calls make is longer than what came in: it says more and counts as full. Else prove '..UptoSaid'. A law counts once. -/
mutual
def uptoBulk {H : Type} : DataW H → Nat
  | .lit (.string bytes) => bytes.length + 1
  | .lit _ => 1
  | .nil => 1
  | .ptr d => uptoBulk d + 1
  | .slice elems spare => uptoBulkAll elems + uptoBulkAll spare + 1
  | .agg parts => uptoBulkAll parts + 1
  | .iface _ d => uptoBulk d + 1
  | .map entries => uptoBulkEntries entries + 1
  | .held _ => 1
def uptoBulkAll {H : Type} : List (DataW H) → Nat
  | [] => 0
  | d :: r => uptoBulk d + uptoBulkAll r
def uptoBulkEntries {H : Type} : List (Lit × DataW H) → Nat
  | [] => 0
  | x :: r => uptoBulkEntry x + uptoBulkEntries r
def uptoBulkEntry {H : Type} : Lit × DataW H → Nat
  | (.string bytes, d) => bytes.length + uptoBulk d + 1
  | (_, d) => uptoBulk d + 1
 end
def uptoSmall : (H : Type) → List (DataW H) → Bool := fun _ ds => decide (uptoBulkAll ds ≤ 1048576)
def OpenSpec.upto (s : _root_.Go.ChangeSpec) : _root_.Go.OpenSpec := { _root_.Go.OpenSpec.ofChange s with cond := some uptoSmall }

/-- 'engrosslaw11.ColumnStairs', WHERE WHAT IT READS IS OF BULK AT MOST 1048576: true; the input reads as it did. -/
def columnStairsUptoRow : OpenClaim := { program := "ytfpoclhenokhhaa", sum := "5d8f329ab3cf848ce8a5db60195b1ab6cd77caa7a7288f5a5615e8210d635e98", func := "engross/engrosslaw11.ColumnStairs", spec := "columnStairs", unfollowed := true, recurses := true, plainKeys := false, apart := false, narrowed := true }
def ColumnStairsUptoSaid : Prop := columnStairsUptoRow.holds Try.pinned (OpenSpec.upto columnStairsSpec)

/-- 'engrosslaw11.ColumnGets', WHERE WHAT IT READS IS OF BULK AT MOST 1048576: true; the input reads as it did. -/
def columnGetsUptoRow : OpenClaim := { program := "ytfpoclhenokhhaa", sum := "5d8f329ab3cf848ce8a5db60195b1ab6cd77caa7a7288f5a5615e8210d635e98", func := "engross/engrosslaw11.ColumnGets", spec := "columnGets", unfollowed := true, recurses := true, plainKeys := false, apart := false, narrowed := true }
def ColumnGetsUptoSaid : Prop := columnGetsUptoRow.holds Try.pinned (OpenSpec.upto columnGetsSpec)

/-- 'engrosslaw11.ColumnPuts', WHERE WHAT IT READS IS OF BULK AT MOST 1048576: true; the input reads as it did. -/
def columnPutsUptoRow : OpenClaim := { program := "ytfpoclhenokhhaa", sum := "5d8f329ab3cf848ce8a5db60195b1ab6cd77caa7a7288f5a5615e8210d635e98", func := "engross/engrosslaw11.ColumnPuts", spec := "columnPuts", unfollowed := true, recurses := true, plainKeys := false, apart := false, narrowed := true }
def ColumnPutsUptoSaid : Prop := columnPutsUptoRow.holds Try.pinned (OpenSpec.upto columnPutsSpec)

/-- 'engrosslaw09.DiskKeeps', WHERE WHAT IT READS IS OF BULK AT MOST 1048576: true; the input reads as it did. -/
def diskKeepsUptoRow : OpenClaim := { program := "ytfpoclhenokhhaa", sum := "5d8f329ab3cf848ce8a5db60195b1ab6cd77caa7a7288f5a5615e8210d635e98", func := "engross/engrosslaw09.DiskKeeps", spec := "diskKeeps", unfollowed := true, recurses := true, plainKeys := false, apart := false, narrowed := true }
def DiskKeepsUptoSaid : Prop := diskKeepsUptoRow.holds Try.pinned (OpenSpec.upto diskKeepsSpec)

/-- 'engrosslaw14.DiffTells', WHERE WHAT IT READS IS OF BULK AT MOST 1048576: true; the input reads as it did. -/
def diffTellsUptoRow : OpenClaim := { program := "ytfpoclhenokhhaa", sum := "5d8f329ab3cf848ce8a5db60195b1ab6cd77caa7a7288f5a5615e8210d635e98", func := "engross/engrosslaw14.DiffTells", spec := "diffTells", unfollowed := true, recurses := true, plainKeys := false, apart := false, narrowed := true }
def DiffTellsUptoSaid : Prop := diffTellsUptoRow.holds Try.pinned (OpenSpec.upto diffTellsSpec)

/-- 'engrosslaw09.DiskPlays', WHERE WHAT IT READS IS OF BULK AT MOST 1048576: true; the input reads as it did. -/
def diskPlaysUptoRow : OpenClaim := { program := "ytfpoclhenokhhaa", sum := "5d8f329ab3cf848ce8a5db60195b1ab6cd77caa7a7288f5a5615e8210d635e98", func := "engross/engrosslaw09.DiskPlays", spec := "diskPlays", unfollowed := true, recurses := true, plainKeys := false, apart := false, narrowed := true }
def DiskPlaysUptoSaid : Prop := diskPlaysUptoRow.holds Try.pinned (OpenSpec.upto diskPlaysSpec)

/-- 'engrosslaw09.DiskNone', WHERE WHAT IT READS IS OF BULK AT MOST 1048576: true; the input reads as it did. -/
def diskNoneUptoRow : OpenClaim := { program := "ytfpoclhenokhhaa", sum := "5d8f329ab3cf848ce8a5db60195b1ab6cd77caa7a7288f5a5615e8210d635e98", func := "engross/engrosslaw09.DiskNone", spec := "diskNone", unfollowed := true, recurses := true, plainKeys := false, apart := false, narrowed := true }
def DiskNoneUptoSaid : Prop := diskNoneUptoRow.holds Try.pinned (OpenSpec.upto diskNoneSpec)

end Rows
end Go.Proofs.Ytfpoclhenokhhaa

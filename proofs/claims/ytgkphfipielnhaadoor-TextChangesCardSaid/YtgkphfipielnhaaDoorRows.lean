/-
  NARROWER THAN 'FOR EVERY INPUT', by the rows' own cells (each row's printed sentence says how): ReportVolumes: laid · ReportParts: laid · TextPrints: laid · TextParses: laid · TextChanges: laid · TextAll: laid · ImageReads: laid.
  DERIVED. THE GIVEN ROWS OF THIS SEAT. 7 by the template 'for every input the law returns true; each argument reads behind the call as it read before'; 0 by the template 'total and deterministic' (their statements: YtgkphfipielnhaaDoorTotals.lean).
  GIVEN WITH THE SEED: the statements are not yours to turn. If you find one false, say at which input.
  Laid BY PROGRAM, IN A SANDBOX (cutbox-rows.mjs): the forced cells as the released guide's own fill.sh prints them over the translation f32f0d9264b0e311… (all of the seat's roots in one cut). By AI agents, Wed Nov 11 2026. No macro, syntax, notation, axiom, sorry.
-/
import Derived.Test.YtgkphfipielnhaaDoorChecked
import GoSem.PinnedTables
import GoSem.Claim
import GoSem.ClaimJoined
import GoSem.ClaimMapViews
import Derived.JoinedTies
import Derived.KernelRfl
namespace Go.Proofs.YtgkphfipielnhaaDoor
/- THE CELL 'sum', in the pinned program and in every row, IS THE sha256 OF THE DUMP (.gsa) THAT YtgkphfipielnhaaDoorProg.lean LOADS. Nothing in Lean hashes anything: it is a label: what it is worth is what the hold of that sum in a sandbox is worth. -/
noncomputable def Tryd.pinned : Pinned := { name := "ytgkphfipielnhaadoor", sum := "f32f0d9264b0e311345ebdb89967e37147890ded3099d1abb5b80f060dc1be00", checked := Tryd.checked }
namespace Rows
def none {H : Type} : Left H := { results := [], args := [] }

/- WHAT THE LISTED PACKAGE-LEVEL VARIABLES READ AS WHEN THE CALL BEGINS. Each datum BY PROGRAM (the guide's laid-datum.mjs) off the statement by which the dump's own 'gosem.cut.vars' lays the variable. In a bare row this is a premise. The card (YtgkphfipielnhaaDoorCards.lean) ties it to the program's text. -/
def laid_engross_event_reasons {H : Type} : DataW H := .agg [.lit (.string [97, 99, 99, 101, 112, 116]), .lit (.string [107, 105, 110, 100]), .lit (.string [118, 97, 108, 117, 101]), .lit (.string [110, 111, 32, 97, 99, 99, 111, 117, 110, 116]), .lit (.string [97, 99, 99, 111, 117, 110, 116, 32, 116, 104, 101, 114, 101]), .lit (.string [111, 114, 100, 101, 114, 32, 116, 104, 101, 114, 101]), .lit (.string [110, 111, 32, 111, 114, 100, 101, 114]), .lit (.string [110, 111, 32, 112, 114, 105, 99, 101]), .lit (.string [102, 117, 108, 108]), .lit (.string [111, 114, 100, 101, 114, 32, 116, 111, 111, 32, 103, 114, 101, 97, 116]), .lit (.string [112, 111, 115, 105, 116, 105, 111, 110, 32, 116, 111, 111, 32, 103, 114, 101, 97, 116]), .lit (.string [109, 97, 114, 103, 105, 110]), .lit (.string [111, 118, 101, 114, 102, 108, 111, 119]), .lit (.string [117, 110, 97, 118, 97, 105, 108, 97, 98, 108, 101])]
def laid_math_bits_deBruijn32tab {H : Type} : DataW H := .agg [.lit (.int .u8 0), .lit (.int .u8 1), .lit (.int .u8 28), .lit (.int .u8 2), .lit (.int .u8 29), .lit (.int .u8 14), .lit (.int .u8 24), .lit (.int .u8 3), .lit (.int .u8 30), .lit (.int .u8 22), .lit (.int .u8 20), .lit (.int .u8 15), .lit (.int .u8 25), .lit (.int .u8 17), .lit (.int .u8 4), .lit (.int .u8 8), .lit (.int .u8 31), .lit (.int .u8 27), .lit (.int .u8 13), .lit (.int .u8 23), .lit (.int .u8 21), .lit (.int .u8 19), .lit (.int .u8 16), .lit (.int .u8 7), .lit (.int .u8 26), .lit (.int .u8 12), .lit (.int .u8 18), .lit (.int .u8 6), .lit (.int .u8 11), .lit (.int .u8 5), .lit (.int .u8 10), .lit (.int .u8 9)]
def laid_math_bits_deBruijn64tab {H : Type} : DataW H := .agg [.lit (.int .u8 0), .lit (.int .u8 1), .lit (.int .u8 56), .lit (.int .u8 2), .lit (.int .u8 57), .lit (.int .u8 49), .lit (.int .u8 28), .lit (.int .u8 3), .lit (.int .u8 61), .lit (.int .u8 58), .lit (.int .u8 42), .lit (.int .u8 50), .lit (.int .u8 38), .lit (.int .u8 29), .lit (.int .u8 17), .lit (.int .u8 4), .lit (.int .u8 62), .lit (.int .u8 47), .lit (.int .u8 59), .lit (.int .u8 36), .lit (.int .u8 45), .lit (.int .u8 43), .lit (.int .u8 51), .lit (.int .u8 22), .lit (.int .u8 53), .lit (.int .u8 39), .lit (.int .u8 33), .lit (.int .u8 30), .lit (.int .u8 24), .lit (.int .u8 18), .lit (.int .u8 12), .lit (.int .u8 5), .lit (.int .u8 63), .lit (.int .u8 55), .lit (.int .u8 48), .lit (.int .u8 27), .lit (.int .u8 60), .lit (.int .u8 41), .lit (.int .u8 37), .lit (.int .u8 16), .lit (.int .u8 46), .lit (.int .u8 35), .lit (.int .u8 44), .lit (.int .u8 21), .lit (.int .u8 52), .lit (.int .u8 32), .lit (.int .u8 23), .lit (.int .u8 11), .lit (.int .u8 54), .lit (.int .u8 26), .lit (.int .u8 40), .lit (.int .u8 15), .lit (.int .u8 34), .lit (.int .u8 20), .lit (.int .u8 31), .lit (.int .u8 10), .lit (.int .u8 25), .lit (.int .u8 14), .lit (.int .u8 19), .lit (.int .u8 9), .lit (.int .u8 13), .lit (.int .u8 8), .lit (.int .u8 7), .lit (.int .u8 6)]
def laid_internal_strconv_uint64pow10 {H : Type} : DataW H := .agg [.lit (.int .u64 1), .lit (.int .u64 10), .lit (.int .u64 100), .lit (.int .u64 1000), .lit (.int .u64 10000), .lit (.int .u64 100000), .lit (.int .u64 1000000), .lit (.int .u64 10000000), .lit (.int .u64 100000000), .lit (.int .u64 1000000000), .lit (.int .u64 10000000000), .lit (.int .u64 100000000000), .lit (.int .u64 1000000000000), .lit (.int .u64 10000000000000), .lit (.int .u64 100000000000000), .lit (.int .u64 1000000000000000), .lit (.int .u64 10000000000000000), .lit (.int .u64 100000000000000000), .lit (.int .u64 1000000000000000000), .lit (.int .u64 10000000000000000000)]
def laid_engross_event_names {H : Type} : DataW H := .agg [.lit (.string []), .lit (.string [97, 99, 99, 111, 117, 110, 116]), .lit (.string [108, 105, 109, 105, 116]), .lit (.string [113, 117, 111, 116, 101]), .lit (.string [111, 114, 100, 101, 114]), .lit (.string [102, 105, 108, 108]), .lit (.string [99, 97, 110, 99, 101, 108]), .lit (.string [115, 110, 97, 112])]
def laid_unicode_utf8_acceptRanges {H : Type} : DataW H := .agg [.agg [.lit (.int .u8 128), .lit (.int .u8 191)], .agg [.lit (.int .u8 160), .lit (.int .u8 191)], .agg [.lit (.int .u8 128), .lit (.int .u8 159)], .agg [.lit (.int .u8 144), .lit (.int .u8 191)], .agg [.lit (.int .u8 128), .lit (.int .u8 143)], .agg [.lit (.int .u8 0), .lit (.int .u8 0)], .agg [.lit (.int .u8 0), .lit (.int .u8 0)], .agg [.lit (.int .u8 0), .lit (.int .u8 0)], .agg [.lit (.int .u8 0), .lit (.int .u8 0)], .agg [.lit (.int .u8 0), .lit (.int .u8 0)], .agg [.lit (.int .u8 0), .lit (.int .u8 0)], .agg [.lit (.int .u8 0), .lit (.int .u8 0)], .agg [.lit (.int .u8 0), .lit (.int .u8 0)], .agg [.lit (.int .u8 0), .lit (.int .u8 0)], .agg [.lit (.int .u8 0), .lit (.int .u8 0)], .agg [.lit (.int .u8 0), .lit (.int .u8 0)]]
def laid_strconv_ErrRange {H : Type} : DataW H := .iface "*errors.errorString" (.ptr (.agg [.lit (.string [118, 97, 108, 117, 101, 32, 111, 117, 116, 32, 111, 102, 32, 114, 97, 110, 103, 101])]))
def laid_strconv_ErrSyntax {H : Type} : DataW H := .iface "*errors.errorString" (.ptr (.agg [.lit (.string [105, 110, 118, 97, 108, 105, 100, 32, 115, 121, 110, 116, 97, 120])]))
/-- One of Go's own tables, pinned by name: the form's constant. -/
def laid_unicode_utf8_first : DataW Unit := Go.Pinned.utf8First
def laid_engross_text_lists {H : Type} : DataW H := .agg [.lit (.string [63]), .lit (.string [104, 111, 108, 100, 101, 114]), .lit (.string [115, 116, 97, 107, 101]), .lit (.string [111, 114, 100, 101, 114]), .lit (.string [114, 97, 116, 101]), .lit (.string [99, 111, 117, 110, 116])]

/-- 'engrosslaw28.ReportVolumes': WHATEVER THE INPUT: true; the input reads as it did. -/
def reportVolumesSpec : ChangeSpec := { name := "reportVolumes", fn := fun _ => fun
  | [d] => { results := [.lit (.bool true)], args := [d] }
  | _ => none }
def reportVolumesRow : OpenClaim := { program := "ytgkphfipielnhaadoor", sum := "f32f0d9264b0e311345ebdb89967e37147890ded3099d1abb5b80f060dc1be00", func := "engross/engrosslaw28.ReportVolumes", spec := "reportVolumes", inPlace := ["math/bits.Add64"], unfollowed := true, recurses := true, named := ["engross/event.reasons", "internal/strconv.uint64pow10", "math/bits.deBruijn32tab", "math/bits.deBruijn64tab"], apart := false, laid := [("engross/event.reasons", laid_engross_event_reasons), ("math/bits.deBruijn32tab", laid_math_bits_deBruijn32tab), ("math/bits.deBruijn64tab", laid_math_bits_deBruijn64tab), ("internal/strconv.uint64pow10", laid_internal_strconv_uint64pow10)] }
def ReportVolumesSaid : Prop := reportVolumesRow.holds Tryd.pinned (OpenSpec.ofChange reportVolumesSpec)

/-- ITS FALSE NEIGHBOUR: 'it returns false'. Refute it at one input. -/
def reportVolumesWrong : ChangeSpec := { name := "reportVolumes", fn := fun _ => fun
  | [d] => { results := [.lit (.bool false)], args := [d] }
  | _ => none }
def ReportVolumesWrongFalsely : Prop := reportVolumesRow.holds Tryd.pinned (OpenSpec.ofChange reportVolumesWrong)

/-- 'engrosslaw28.ReportParts': WHATEVER THE INPUT: true; the input reads as it did. -/
def reportPartsSpec : ChangeSpec := { name := "reportParts", fn := fun _ => fun
  | [d1, d2] => { results := [.lit (.bool true)], args := [d1, d2] }
  | _ => none }
def reportPartsRow : OpenClaim := { program := "ytgkphfipielnhaadoor", sum := "f32f0d9264b0e311345ebdb89967e37147890ded3099d1abb5b80f060dc1be00", func := "engross/engrosslaw28.ReportParts", spec := "reportParts", inPlace := ["math/bits.Add64"], unfollowed := true, recurses := true, named := ["engross/event.reasons", "internal/strconv.uint64pow10", "math/bits.deBruijn32tab", "math/bits.deBruijn64tab"], apart := false, laid := [("engross/event.reasons", laid_engross_event_reasons), ("math/bits.deBruijn32tab", laid_math_bits_deBruijn32tab), ("math/bits.deBruijn64tab", laid_math_bits_deBruijn64tab), ("internal/strconv.uint64pow10", laid_internal_strconv_uint64pow10)] }
def ReportPartsSaid : Prop := reportPartsRow.holds Tryd.pinned (OpenSpec.ofChange reportPartsSpec)

/-- ITS FALSE NEIGHBOUR: 'it returns false'. Refute it at one input. -/
def reportPartsWrong : ChangeSpec := { name := "reportParts", fn := fun _ => fun
  | [d1, d2] => { results := [.lit (.bool false)], args := [d1, d2] }
  | _ => none }
def ReportPartsWrongFalsely : Prop := reportPartsRow.holds Tryd.pinned (OpenSpec.ofChange reportPartsWrong)

/-- 'engrosslaw32.TextPrints': WHATEVER THE INPUT: true; the input reads as it did. -/
def textPrintsSpec : ChangeSpec := { name := "textPrints", fn := fun _ => fun
  | [d] => { results := [.lit (.bool true)], args := [d] }
  | _ => none }
def textPrintsRow : OpenClaim := { program := "ytgkphfipielnhaadoor", sum := "f32f0d9264b0e311345ebdb89967e37147890ded3099d1abb5b80f060dc1be00", func := "engross/engrosslaw32.TextPrints", spec := "textPrints", inPlace := ["internal/bytealg.CountString", "internal/bytealg.IndexByteString", "internal/bytealg.IndexString"], recurses := true, named := ["unicode/utf8.first", "unicode/utf8.acceptRanges", "internal/bytealg.MaxLen", "strconv.ErrSyntax", "strconv.ErrRange", "internal/strconv.uint64pow10", "math/bits.deBruijn32tab", "math/bits.deBruijn64tab", "engross/event.names"], apart := false, laid := [("engross/event.names", laid_engross_event_names), ("math/bits.deBruijn32tab", laid_math_bits_deBruijn32tab), ("math/bits.deBruijn64tab", laid_math_bits_deBruijn64tab), ("internal/strconv.uint64pow10", laid_internal_strconv_uint64pow10), ("unicode/utf8.acceptRanges", laid_unicode_utf8_acceptRanges), ("strconv.ErrRange", laid_strconv_ErrRange), ("strconv.ErrSyntax", laid_strconv_ErrSyntax), ("unicode/utf8.first", laid_unicode_utf8_first)] }
def TextPrintsSaid : Prop := textPrintsRow.holds Tryd.pinned (OpenSpec.ofChange textPrintsSpec)

/-- ITS FALSE NEIGHBOUR: 'it returns false'. Refute it at one input. -/
def textPrintsWrong : ChangeSpec := { name := "textPrints", fn := fun _ => fun
  | [d] => { results := [.lit (.bool false)], args := [d] }
  | _ => none }
def TextPrintsWrongFalsely : Prop := textPrintsRow.holds Tryd.pinned (OpenSpec.ofChange textPrintsWrong)

/-- 'engrosslaw32.TextParses': WHATEVER THE INPUT: true; the input reads as it did. -/
def textParsesSpec : ChangeSpec := { name := "textParses", fn := fun _ => fun
  | [d] => { results := [.lit (.bool true)], args := [d] }
  | _ => none }
def textParsesRow : OpenClaim := { program := "ytgkphfipielnhaadoor", sum := "f32f0d9264b0e311345ebdb89967e37147890ded3099d1abb5b80f060dc1be00", func := "engross/engrosslaw32.TextParses", spec := "textParses", inPlace := ["internal/bytealg.CountString", "internal/bytealg.IndexByteString", "internal/bytealg.IndexString"], recurses := true, named := ["unicode/utf8.first", "unicode/utf8.acceptRanges", "internal/bytealg.MaxLen", "strconv.ErrSyntax", "strconv.ErrRange", "internal/strconv.uint64pow10", "math/bits.deBruijn32tab", "math/bits.deBruijn64tab", "engross/event.names"], apart := false, laid := [("engross/event.names", laid_engross_event_names), ("math/bits.deBruijn32tab", laid_math_bits_deBruijn32tab), ("math/bits.deBruijn64tab", laid_math_bits_deBruijn64tab), ("internal/strconv.uint64pow10", laid_internal_strconv_uint64pow10), ("unicode/utf8.acceptRanges", laid_unicode_utf8_acceptRanges), ("strconv.ErrRange", laid_strconv_ErrRange), ("strconv.ErrSyntax", laid_strconv_ErrSyntax), ("unicode/utf8.first", laid_unicode_utf8_first)] }
def TextParsesSaid : Prop := textParsesRow.holds Tryd.pinned (OpenSpec.ofChange textParsesSpec)

/-- ITS FALSE NEIGHBOUR: 'it returns false'. Refute it at one input. -/
def textParsesWrong : ChangeSpec := { name := "textParses", fn := fun _ => fun
  | [d] => { results := [.lit (.bool false)], args := [d] }
  | _ => none }
def TextParsesWrongFalsely : Prop := textParsesRow.holds Tryd.pinned (OpenSpec.ofChange textParsesWrong)

/-- 'engrosslaw32.TextChanges': WHATEVER THE INPUT: true; the input reads as it did. -/
def textChangesSpec : ChangeSpec := { name := "textChanges", fn := fun _ => fun
  | [d] => { results := [.lit (.bool true)], args := [d] }
  | _ => none }
def textChangesRow : OpenClaim := { program := "ytgkphfipielnhaadoor", sum := "f32f0d9264b0e311345ebdb89967e37147890ded3099d1abb5b80f060dc1be00", func := "engross/engrosslaw32.TextChanges", spec := "textChanges", inPlace := ["internal/bytealg.CountString", "internal/bytealg.IndexByteString", "internal/bytealg.IndexString", "internal/abi.NoEscape"], unfollowed := true, recurses := true, named := ["unicode/utf8.first", "unicode/utf8.acceptRanges", "internal/bytealg.MaxLen", "strconv.ErrSyntax", "strconv.ErrRange", "internal/strconv.uint64pow10", "math/bits.deBruijn32tab", "math/bits.deBruijn64tab", "engross/event.names", "engross/text.lists"], apart := false, laid := [("engross/event.names", laid_engross_event_names), ("math/bits.deBruijn32tab", laid_math_bits_deBruijn32tab), ("math/bits.deBruijn64tab", laid_math_bits_deBruijn64tab), ("internal/strconv.uint64pow10", laid_internal_strconv_uint64pow10), ("unicode/utf8.acceptRanges", laid_unicode_utf8_acceptRanges), ("strconv.ErrRange", laid_strconv_ErrRange), ("strconv.ErrSyntax", laid_strconv_ErrSyntax), ("engross/text.lists", laid_engross_text_lists), ("unicode/utf8.first", laid_unicode_utf8_first)] }
def TextChangesSaid : Prop := textChangesRow.holds Tryd.pinned (OpenSpec.ofChange textChangesSpec)

/-- ITS FALSE NEIGHBOUR: 'it returns false'. Refute it at one input. -/
def textChangesWrong : ChangeSpec := { name := "textChanges", fn := fun _ => fun
  | [d] => { results := [.lit (.bool false)], args := [d] }
  | _ => none }
def TextChangesWrongFalsely : Prop := textChangesRow.holds Tryd.pinned (OpenSpec.ofChange textChangesWrong)

/-- 'engrosslaw32.TextAll': WHATEVER THE INPUT: true; the input reads as it did. -/
def textAllSpec : ChangeSpec := { name := "textAll", fn := fun _ => fun
  | [d] => { results := [.lit (.bool true)], args := [d] }
  | _ => none }
def textAllRow : OpenClaim := { program := "ytgkphfipielnhaadoor", sum := "f32f0d9264b0e311345ebdb89967e37147890ded3099d1abb5b80f060dc1be00", func := "engross/engrosslaw32.TextAll", spec := "textAll", inPlace := ["internal/bytealg.CountString", "internal/bytealg.IndexByteString", "internal/bytealg.IndexString"], unfollowed := true, recurses := true, named := ["unicode/utf8.first", "unicode/utf8.acceptRanges", "internal/bytealg.MaxLen", "strconv.ErrSyntax", "strconv.ErrRange", "internal/strconv.uint64pow10", "math/bits.deBruijn32tab", "math/bits.deBruijn64tab", "engross/event.names"], apart := false, laid := [("engross/event.names", laid_engross_event_names), ("math/bits.deBruijn32tab", laid_math_bits_deBruijn32tab), ("math/bits.deBruijn64tab", laid_math_bits_deBruijn64tab), ("internal/strconv.uint64pow10", laid_internal_strconv_uint64pow10), ("unicode/utf8.acceptRanges", laid_unicode_utf8_acceptRanges), ("strconv.ErrRange", laid_strconv_ErrRange), ("strconv.ErrSyntax", laid_strconv_ErrSyntax), ("unicode/utf8.first", laid_unicode_utf8_first)] }
def TextAllSaid : Prop := textAllRow.holds Tryd.pinned (OpenSpec.ofChange textAllSpec)

/-- ITS FALSE NEIGHBOUR: 'it returns false'. Refute it at one input. -/
def textAllWrong : ChangeSpec := { name := "textAll", fn := fun _ => fun
  | [d] => { results := [.lit (.bool false)], args := [d] }
  | _ => none }
def TextAllWrongFalsely : Prop := textAllRow.holds Tryd.pinned (OpenSpec.ofChange textAllWrong)

/-- 'engrosslaw21.ImageReads': WHATEVER THE INPUT: true; the input reads as it did. -/
def imageReadsSpec : ChangeSpec := { name := "imageReads", fn := fun _ => fun
  | [d1, d2, d3, d4] => { results := [.lit (.bool true)], args := [d1, d2, d3, d4] }
  | _ => none }
def imageReadsRow : OpenClaim := { program := "ytgkphfipielnhaadoor", sum := "f32f0d9264b0e311345ebdb89967e37147890ded3099d1abb5b80f060dc1be00", func := "engross/engrosslaw21.ImageReads", spec := "imageReads", unfollowed := true, recurses := true, named := ["internal/strconv.uint64pow10", "math/bits.deBruijn32tab", "math/bits.deBruijn64tab"], apart := false, laid := [("math/bits.deBruijn32tab", laid_math_bits_deBruijn32tab), ("math/bits.deBruijn64tab", laid_math_bits_deBruijn64tab), ("internal/strconv.uint64pow10", laid_internal_strconv_uint64pow10)] }
def ImageReadsSaid : Prop := imageReadsRow.holds Tryd.pinned (OpenSpec.ofChange imageReadsSpec)

/-- ITS FALSE NEIGHBOUR: 'it returns false'. Refute it at one input. -/
def imageReadsWrong : ChangeSpec := { name := "imageReads", fn := fun _ => fun
  | [d1, d2, d3, d4] => { results := [.lit (.bool false)], args := [d1, d2, d3, d4] }
  | _ => none }
def ImageReadsWrongFalsely : Prop := imageReadsRow.holds Tryd.pinned (OpenSpec.ofChange imageReadsWrong)

/- THE SECOND FORM. 'bulk': how many values and letters a reading holds, each counted each time it is reached (what is shared counts as often as it is met; a slice's spare places count too). A statement '..UptoSaid' is the law's where the arguments, and the package variables that the reading takes, are together of bulk at most 1048576: NARROWER than '..Said'. Prove '..Said' where nothing that the law and all that it calls make is longer than what came in: it says more and counts as full. Else prove '..UptoSaid'. A law counts once. -/
mutual
def uptoBulk {H : Type} : DataW H → Nat
  | .lit (.string bytes) => bytes.length + 1
  | .lit _ => 1
  | .nil => 1
  | .ptr d => uptoBulk d + 1
  | .slice elems spare => uptoBulkAll elems + uptoBulkAll spare + 1
  | .agg parts => uptoBulkAll parts + 1
  | .iface _ d => uptoBulk d + 1
  | .map entries => uptoBulkEntries entries + 1
  | .held _ => 1
def uptoBulkAll {H : Type} : List (DataW H) → Nat
  | [] => 0
  | d :: r => uptoBulk d + uptoBulkAll r
def uptoBulkEntries {H : Type} : List (Lit × DataW H) → Nat
  | [] => 0
  | x :: r => uptoBulkEntry x + uptoBulkEntries r
def uptoBulkEntry {H : Type} : Lit × DataW H → Nat
  | (.string bytes, d) => bytes.length + uptoBulk d + 1
  | (_, d) => uptoBulk d + 1
 end
def uptoSmall : (H : Type) → List (DataW H) → Bool := fun _ ds => decide (uptoBulkAll ds ≤ 1048576)
def OpenSpec.upto (s : _root_.Go.ChangeSpec) : _root_.Go.OpenSpec := { _root_.Go.OpenSpec.ofChange s with cond := some uptoSmall }

/-- 'engrosslaw28.ReportVolumes', WHERE WHAT IT READS IS OF BULK AT MOST 1048576: true; the input reads as it did. -/
def reportVolumesUptoRow : OpenClaim := { program := "ytgkphfipielnhaadoor", sum := "f32f0d9264b0e311345ebdb89967e37147890ded3099d1abb5b80f060dc1be00", func := "engross/engrosslaw28.ReportVolumes", spec := "reportVolumes", inPlace := ["math/bits.Add64"], unfollowed := true, recurses := true, named := ["engross/event.reasons", "internal/strconv.uint64pow10", "math/bits.deBruijn32tab", "math/bits.deBruijn64tab"], apart := false, laid := [("engross/event.reasons", laid_engross_event_reasons), ("math/bits.deBruijn32tab", laid_math_bits_deBruijn32tab), ("math/bits.deBruijn64tab", laid_math_bits_deBruijn64tab), ("internal/strconv.uint64pow10", laid_internal_strconv_uint64pow10)], narrowed := true }
def ReportVolumesUptoSaid : Prop := reportVolumesUptoRow.holds Tryd.pinned (OpenSpec.upto reportVolumesSpec)

/-- 'engrosslaw28.ReportParts', WHERE WHAT IT READS IS OF BULK AT MOST 1048576: true; the input reads as it did. -/
def reportPartsUptoRow : OpenClaim := { program := "ytgkphfipielnhaadoor", sum := "f32f0d9264b0e311345ebdb89967e37147890ded3099d1abb5b80f060dc1be00", func := "engross/engrosslaw28.ReportParts", spec := "reportParts", inPlace := ["math/bits.Add64"], unfollowed := true, recurses := true, named := ["engross/event.reasons", "internal/strconv.uint64pow10", "math/bits.deBruijn32tab", "math/bits.deBruijn64tab"], apart := false, laid := [("engross/event.reasons", laid_engross_event_reasons), ("math/bits.deBruijn32tab", laid_math_bits_deBruijn32tab), ("math/bits.deBruijn64tab", laid_math_bits_deBruijn64tab), ("internal/strconv.uint64pow10", laid_internal_strconv_uint64pow10)], narrowed := true }
def ReportPartsUptoSaid : Prop := reportPartsUptoRow.holds Tryd.pinned (OpenSpec.upto reportPartsSpec)

/-- 'engrosslaw32.TextPrints', WHERE WHAT IT READS IS OF BULK AT MOST 1048576: true; the input reads as it did. -/
def textPrintsUptoRow : OpenClaim := { program := "ytgkphfipielnhaadoor", sum := "f32f0d9264b0e311345ebdb89967e37147890ded3099d1abb5b80f060dc1be00", func := "engross/engrosslaw32.TextPrints", spec := "textPrints", inPlace := ["internal/bytealg.CountString", "internal/bytealg.IndexByteString", "internal/bytealg.IndexString"], recurses := true, named := ["unicode/utf8.first", "unicode/utf8.acceptRanges", "internal/bytealg.MaxLen", "strconv.ErrSyntax", "strconv.ErrRange", "internal/strconv.uint64pow10", "math/bits.deBruijn32tab", "math/bits.deBruijn64tab", "engross/event.names"], apart := false, laid := [("engross/event.names", laid_engross_event_names), ("math/bits.deBruijn32tab", laid_math_bits_deBruijn32tab), ("math/bits.deBruijn64tab", laid_math_bits_deBruijn64tab), ("internal/strconv.uint64pow10", laid_internal_strconv_uint64pow10), ("unicode/utf8.acceptRanges", laid_unicode_utf8_acceptRanges), ("strconv.ErrRange", laid_strconv_ErrRange), ("strconv.ErrSyntax", laid_strconv_ErrSyntax), ("unicode/utf8.first", laid_unicode_utf8_first)], narrowed := true }
def TextPrintsUptoSaid : Prop := textPrintsUptoRow.holds Tryd.pinned (OpenSpec.upto textPrintsSpec)

/-- 'engrosslaw32.TextParses', WHERE WHAT IT READS IS OF BULK AT MOST 1048576: true; the input reads as it did. -/
def textParsesUptoRow : OpenClaim := { program := "ytgkphfipielnhaadoor", sum := "f32f0d9264b0e311345ebdb89967e37147890ded3099d1abb5b80f060dc1be00", func := "engross/engrosslaw32.TextParses", spec := "textParses", inPlace := ["internal/bytealg.CountString", "internal/bytealg.IndexByteString", "internal/bytealg.IndexString"], recurses := true, named := ["unicode/utf8.first", "unicode/utf8.acceptRanges", "internal/bytealg.MaxLen", "strconv.ErrSyntax", "strconv.ErrRange", "internal/strconv.uint64pow10", "math/bits.deBruijn32tab", "math/bits.deBruijn64tab", "engross/event.names"], apart := false, laid := [("engross/event.names", laid_engross_event_names), ("math/bits.deBruijn32tab", laid_math_bits_deBruijn32tab), ("math/bits.deBruijn64tab", laid_math_bits_deBruijn64tab), ("internal/strconv.uint64pow10", laid_internal_strconv_uint64pow10), ("unicode/utf8.acceptRanges", laid_unicode_utf8_acceptRanges), ("strconv.ErrRange", laid_strconv_ErrRange), ("strconv.ErrSyntax", laid_strconv_ErrSyntax), ("unicode/utf8.first", laid_unicode_utf8_first)], narrowed := true }
def TextParsesUptoSaid : Prop := textParsesUptoRow.holds Tryd.pinned (OpenSpec.upto textParsesSpec)

/-- 'engrosslaw32.TextChanges', WHERE WHAT IT READS IS OF BULK AT MOST 1048576: true; the input reads as it did. -/
def textChangesUptoRow : OpenClaim := { program := "ytgkphfipielnhaadoor", sum := "f32f0d9264b0e311345ebdb89967e37147890ded3099d1abb5b80f060dc1be00", func := "engross/engrosslaw32.TextChanges", spec := "textChanges", inPlace := ["internal/bytealg.CountString", "internal/bytealg.IndexByteString", "internal/bytealg.IndexString", "internal/abi.NoEscape"], unfollowed := true, recurses := true, named := ["unicode/utf8.first", "unicode/utf8.acceptRanges", "internal/bytealg.MaxLen", "strconv.ErrSyntax", "strconv.ErrRange", "internal/strconv.uint64pow10", "math/bits.deBruijn32tab", "math/bits.deBruijn64tab", "engross/event.names", "engross/text.lists"], apart := false, laid := [("engross/event.names", laid_engross_event_names), ("math/bits.deBruijn32tab", laid_math_bits_deBruijn32tab), ("math/bits.deBruijn64tab", laid_math_bits_deBruijn64tab), ("internal/strconv.uint64pow10", laid_internal_strconv_uint64pow10), ("unicode/utf8.acceptRanges", laid_unicode_utf8_acceptRanges), ("strconv.ErrRange", laid_strconv_ErrRange), ("strconv.ErrSyntax", laid_strconv_ErrSyntax), ("engross/text.lists", laid_engross_text_lists), ("unicode/utf8.first", laid_unicode_utf8_first)], narrowed := true }
def TextChangesUptoSaid : Prop := textChangesUptoRow.holds Tryd.pinned (OpenSpec.upto textChangesSpec)

/-- 'engrosslaw32.TextAll', WHERE WHAT IT READS IS OF BULK AT MOST 1048576: true; the input reads as it did. -/
def textAllUptoRow : OpenClaim := { program := "ytgkphfipielnhaadoor", sum := "f32f0d9264b0e311345ebdb89967e37147890ded3099d1abb5b80f060dc1be00", func := "engross/engrosslaw32.TextAll", spec := "textAll", inPlace := ["internal/bytealg.CountString", "internal/bytealg.IndexByteString", "internal/bytealg.IndexString"], unfollowed := true, recurses := true, named := ["unicode/utf8.first", "unicode/utf8.acceptRanges", "internal/bytealg.MaxLen", "strconv.ErrSyntax", "strconv.ErrRange", "internal/strconv.uint64pow10", "math/bits.deBruijn32tab", "math/bits.deBruijn64tab", "engross/event.names"], apart := false, laid := [("engross/event.names", laid_engross_event_names), ("math/bits.deBruijn32tab", laid_math_bits_deBruijn32tab), ("math/bits.deBruijn64tab", laid_math_bits_deBruijn64tab), ("internal/strconv.uint64pow10", laid_internal_strconv_uint64pow10), ("unicode/utf8.acceptRanges", laid_unicode_utf8_acceptRanges), ("strconv.ErrRange", laid_strconv_ErrRange), ("strconv.ErrSyntax", laid_strconv_ErrSyntax), ("unicode/utf8.first", laid_unicode_utf8_first)], narrowed := true }
def TextAllUptoSaid : Prop := textAllUptoRow.holds Tryd.pinned (OpenSpec.upto textAllSpec)

/-- 'engrosslaw21.ImageReads', WHERE WHAT IT READS IS OF BULK AT MOST 1048576: true; the input reads as it did. -/
def imageReadsUptoRow : OpenClaim := { program := "ytgkphfipielnhaadoor", sum := "f32f0d9264b0e311345ebdb89967e37147890ded3099d1abb5b80f060dc1be00", func := "engross/engrosslaw21.ImageReads", spec := "imageReads", unfollowed := true, recurses := true, named := ["internal/strconv.uint64pow10", "math/bits.deBruijn32tab", "math/bits.deBruijn64tab"], apart := false, laid := [("math/bits.deBruijn32tab", laid_math_bits_deBruijn32tab), ("math/bits.deBruijn64tab", laid_math_bits_deBruijn64tab), ("internal/strconv.uint64pow10", laid_internal_strconv_uint64pow10)], narrowed := true }
def ImageReadsUptoSaid : Prop := imageReadsUptoRow.holds Tryd.pinned (OpenSpec.upto imageReadsSpec)

end Rows
end Go.Proofs.YtgkphfipielnhaaDoor

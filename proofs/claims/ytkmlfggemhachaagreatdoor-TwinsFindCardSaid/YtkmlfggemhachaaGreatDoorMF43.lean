/-
  The closed facts of the row TwinsFind, one by one.
-/
import Derived.Test.YtkmlfggemhachaaGreatDoorRows
import Derived.JoinedOf
import Derived.KernelRfl
import Derived.Test.YtkmlfggemhachaaGreatDoorChecked
/-
  The closed facts of the row TwinsFind, one by one.
-/
namespace Go.Proofs.YtkmlfggemhachaaGreatDoor
open Go

theorem and_t {a b : Bool} (h1 : a = true) (h2 : b = true) : (a && b) = true := by rw [h1, h2]; rfl
theorem k1 : Rows.twinsFindRow.wf (OpenSpec.ofChange Rows.twinsFindSpec) = true := by kernel_rfl
theorem k2 : laidOutB Tryz.prog = true := by kernel_rfl
theorem k3 : mapsRowed Tryz.prog = true := by kernel_rfl
theorem k4 : Tryz.f7.params.all (Tryz.prog.readableRec ·) = true := by kernel_rfl
theorem k5 : namedTie Tryz.prog Rows.twinsFindRow.named Rows.twinsFindSpec.vars = true := by kernel_rfl
theorem k6 : (Rows.twinsFindRow.stops == []) = true := by kernel_rfl
theorem k7 : (Tryz.prog.stops == []) = true := by kernel_rfl
theorem k8 : (Rows.twinsFindRow.knobs == []) = true := by kernel_rfl
theorem k9 : (Tryz.prog.stopKnobs == []) = true := by kernel_rfl
theorem k10 : (Rows.twinsFindRow.inPlace == Tryz.prog.inPlace 7) = true := by kernel_rfl
theorem k11 : (Rows.twinsFindRow.unfollowed == Tryz.prog.unfollowed 7) = true := by kernel_rfl
theorem k12 : (Rows.twinsFindRow.recurses == Tryz.prog.recurses 7) = true := by kernel_rfl
theorem k13 : (Rows.twinsFindRow.named == Tryz.prog.varsNamed 7) = true := by kernel_rfl
theorem k14 : (Rows.twinsFindRow.maps == (Tryz.f7.params.toList ++ Rows.twinsFindSpec.plain.varTypes Tryz.prog).any (Tryz.prog.mapsRec ·)) = true := by kernel_rfl
theorem k15 : (Rows.twinsFindRow.ifaces == (Tryz.f7.params.toList ++ Rows.twinsFindSpec.plain.varTypes Tryz.prog).any (Tryz.prog.ifacesRec ·)) = true := by kernel_rfl
theorem k16 : (Rows.twinsFindRow.mapsOut == Tryz.prog.mapsAmong Tryz.f7.resultTypes.toList) = true := by kernel_rfl
theorem k17 : (Rows.twinsFindRow.loops == (Tryz.f7.params.toList ++ Rows.twinsFindSpec.plain.varTypes Tryz.prog).any (Tryz.prog.loopsFrom ·)) = true := by kernel_rfl
theorem k18 : (Rows.twinsFindRow.wideKeys == (Tryz.f7.params.toList ++ Rows.twinsFindSpec.plain.varTypes Tryz.prog ++ Tryz.f7.resultTypes.toList).any (Tryz.prog.wideKeysFrom ·)) = true := by kernel_rfl
theorem k19 : Rows.twinsFindSpec.vars.all (Tryz.prog.varReadable ·) = true := by kernel_rfl
theorem k20 : Tryz.f7.resultTypes.all (fun t => Tryz.prog.readableRec t && decide (t < Tryz.prog.types.size)) = true := by kernel_rfl
theorem k21 : (Rows.twinsFindRow.ifacesOut == Tryz.f7.resultTypes.toList.any (Tryz.prog.ifacesRec ·)) = true := by kernel_rfl
theorem k22 : (Rows.twinsFindRow.loopsOut == Tryz.f7.resultTypes.toList.any (Tryz.prog.loopsFrom ·)) = true := by kernel_rfl
theorem k23 : (Rows.twinsFindRow.plainKeys == Tryz.prog.plainKeys) = true := by kernel_rfl
theorem k24 : Rows.twinsFindRow.shortTexts.isNone = true := by kernel_rfl
theorem k25 : Tryz.prog.stopsHeard = true := by kernel_rfl
theorem k26 : Tryz.prog.mayEnter = true := by kernel_rfl
theorem k27 : (Rows.twinsFindRow.lifted == Tryz.prog.liftsFinal) = true := by kernel_rfl
theorem k28 : (Tryz.prog.make == some Rows.twinsFindRow.make) = true := by kernel_rfl
theorem k29 : (Rows.twinsFindRow.kinds == (if Rows.twinsFindRow.domain.isEmpty then [] else Tryz.f7.params.toList.map fun t => match Tryz.prog.underlying t with | some (.int k) => some k | _ => none)) = true := by kernel_rfl
theorem k30 : (Rows.twinsFindRow.pinned == Rows.twinsFindRow.pinnedBy) = true := by kernel_rfl
theorem k31 : (Rows.twinsFindRow.veiled == (Tryz.f7.params.toList ++ Rows.twinsFindSpec.plain.varTypes Tryz.prog ++ Tryz.f7.resultTypes.toList).any (Tryz.prog.veiledRec ·)) = true := by kernel_rfl
theorem k32 : Rows.twinsFindRow.veiledFits Tryz.prog Tryz.f7.params.toList (Tryz.f7.params.toList ++ Rows.twinsFindSpec.plain.varTypes Tryz.prog ++ Tryz.f7.resultTypes.toList) = true := by kernel_rfl
set_option maxRecDepth 100000 in
theorem closed : joinedFacts Tryz.prog 7 Tryz.f7 Rows.twinsFindSpec Rows.twinsFindRow = true := and_t (and_t (and_t (and_t (and_t (and_t (and_t (and_t (and_t (and_t (and_t (and_t (and_t (and_t (and_t (and_t (and_t (and_t (and_t (and_t (and_t (and_t (and_t (and_t (and_t (and_t (and_t (and_t (and_t (and_t (and_t k1 k2) k3) k4) k5) k6) k7) k8) k9) k10) k11) k12) k13) k14) k15) k16) k17) k18) k19) k20) k21) k22) k23) k24) k25) k26) k27) k28) k29) k30) k31) k32
end Go.Proofs.YtkmlfggemhachaaGreatDoor

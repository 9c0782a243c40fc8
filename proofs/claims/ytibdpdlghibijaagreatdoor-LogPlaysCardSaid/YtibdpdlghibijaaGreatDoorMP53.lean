/-
  The closed facts of the row LogPlays, one by one.
-/
import Derived.Test.YtibdpdlghibijaaGreatDoorRows
import Derived.JoinedOf
import Derived.KernelRfl
import Derived.Test.YtibdpdlghibijaaGreatDoorChecked
namespace Go.Proofs.YtibdpdlghibijaaGreatDoor
open Go
theorem and_t {a b:Bool}(h1:a=true) (h2:b=true):(a && b)=true:=by rw [h1,h2]; rfl
theorem k1:Rows.logPlaysRow.wf (OpenSpec.ofChange Rows.logPlaysSpec)=true:=by kernel_rfl
theorem k2:laidOutB Tryz.prog=true:=by kernel_rfl
theorem k3:mapsRowed Tryz.prog=true:=by kernel_rfl
theorem k4:Tryz.f6.params.all (Tryz.prog.readableRec ·)=true:=by kernel_rfl
theorem k5:namedTie Tryz.prog Rows.logPlaysRow.named Rows.logPlaysSpec.vars=true:=by kernel_rfl
theorem k6:(Rows.logPlaysRow.stops == [])=true:=by kernel_rfl
theorem k7:(Tryz.prog.stops == [])=true:=by kernel_rfl
theorem k8:(Rows.logPlaysRow.knobs == [])=true:=by kernel_rfl
theorem k9:(Tryz.prog.stopKnobs == [])=true:=by kernel_rfl
theorem k10:(Rows.logPlaysRow.inPlace == Tryz.prog.inPlace 6)=true:=by kernel_rfl
theorem k11:(Rows.logPlaysRow.unfollowed == Tryz.prog.unfollowed 6)=true:=by kernel_rfl
theorem k12:(Rows.logPlaysRow.recurses == Tryz.prog.recurses 6)=true:=by kernel_rfl
theorem k13:(Rows.logPlaysRow.named == Tryz.prog.varsNamed 6)=true:=by kernel_rfl
theorem k14:(Rows.logPlaysRow.maps == (Tryz.f6.params.toList++Rows.logPlaysSpec.plain.varTypes Tryz.prog).any (Tryz.prog.mapsRec ·))=true:=by kernel_rfl
theorem k15:(Rows.logPlaysRow.ifaces == (Tryz.f6.params.toList++Rows.logPlaysSpec.plain.varTypes Tryz.prog).any (Tryz.prog.ifacesRec ·))=true:=by kernel_rfl
theorem k16:(Rows.logPlaysRow.mapsOut == Tryz.prog.mapsAmong Tryz.f6.resultTypes.toList)=true:=by kernel_rfl
theorem k17:(Rows.logPlaysRow.loops == (Tryz.f6.params.toList++Rows.logPlaysSpec.plain.varTypes Tryz.prog).any (Tryz.prog.loopsFrom ·))=true:=by kernel_rfl
theorem k18:(Rows.logPlaysRow.wideKeys == (Tryz.f6.params.toList++Rows.logPlaysSpec.plain.varTypes Tryz.prog++Tryz.f6.resultTypes.toList).any (Tryz.prog.wideKeysFrom ·))=true:=by kernel_rfl
theorem k19:Rows.logPlaysSpec.vars.all (Tryz.prog.varReadable ·)=true:=by kernel_rfl
theorem k20:Tryz.f6.resultTypes.all (fun t=>Tryz.prog.readableRec t && decide (t < Tryz.prog.types.size))=true:=by kernel_rfl
theorem k21:(Rows.logPlaysRow.ifacesOut == Tryz.f6.resultTypes.toList.any (Tryz.prog.ifacesRec ·))=true:=by kernel_rfl
theorem k22:(Rows.logPlaysRow.loopsOut == Tryz.f6.resultTypes.toList.any (Tryz.prog.loopsFrom ·))=true:=by kernel_rfl
theorem k23:(Rows.logPlaysRow.plainKeys == Tryz.prog.plainKeys)=true:=by kernel_rfl
theorem k24:Rows.logPlaysRow.shortTexts.isNone=true:=by kernel_rfl
theorem k25:Tryz.prog.stopsHeard=true:=by kernel_rfl
theorem k26:Tryz.prog.mayEnter=true:=by kernel_rfl
theorem k27:(Rows.logPlaysRow.lifted == Tryz.prog.liftsFinal)=true:=by kernel_rfl
theorem k28:(Tryz.prog.make == some Rows.logPlaysRow.make)=true:=by kernel_rfl
theorem k29:(Rows.logPlaysRow.kinds == (if Rows.logPlaysRow.domain.isEmpty then [] else Tryz.f6.params.toList.map fun t=>match Tryz.prog.underlying t with | some (.int k)=>some k | _=>none))=true:=by kernel_rfl
theorem k30:(Rows.logPlaysRow.pinned == Rows.logPlaysRow.pinnedBy)=true:=by kernel_rfl
theorem k31:(Rows.logPlaysRow.veiled == (Tryz.f6.params.toList++Rows.logPlaysSpec.plain.varTypes Tryz.prog++Tryz.f6.resultTypes.toList).any (Tryz.prog.veiledRec ·))=true:=by kernel_rfl
theorem k32:Rows.logPlaysRow.veiledFits Tryz.prog Tryz.f6.params.toList (Tryz.f6.params.toList++Rows.logPlaysSpec.plain.varTypes Tryz.prog++Tryz.f6.resultTypes.toList)=true:=by kernel_rfl
set_option maxRecDepth 100000 in
theorem closed:joinedFacts Tryz.prog 6 Tryz.f6 Rows.logPlaysSpec Rows.logPlaysRow=true:=and_t (and_t (and_t (and_t (and_t (and_t (and_t (and_t (and_t (and_t (and_t (and_t (and_t (and_t (and_t (and_t (and_t (and_t (and_t (and_t (and_t (and_t (and_t (and_t (and_t (and_t (and_t (and_t (and_t (and_t (and_t k1 k2) k3) k4) k5) k6) k7) k8) k9) k10) k11) k12) k13) k14) k15) k16) k17) k18) k19) k20) k21) k22) k23) k24) k25) k26) k27) k28) k29) k30) k31) k32
end Go.Proofs.YtibdpdlghibijaaGreatDoor

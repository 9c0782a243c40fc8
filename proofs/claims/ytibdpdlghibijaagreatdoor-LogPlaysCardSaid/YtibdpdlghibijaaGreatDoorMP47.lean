/-
  Arguments opened: files, and what is done with a disk.
-/
import Derived.Test.YtibdpdlghibijaaGreatDoorMP46
import Derived.Test.YtibdpdlghibijaaGreatDoorMP13
namespace Go.Proofs
open Go Go.Eng
set_option maxRecDepth 100000
set_option maxHeartbeats 4000000
attribute [local irreducible] Tri
open Go.WideShapes
section
variable {H:Type}{enc:TypeId × Value→H}{w:World}{base:Nat}{sp:Nat→Bool}{held:Bool}
end
end Go.Proofs

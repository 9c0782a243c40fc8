/-
  Walks of layer 21: the numbers of files of a kind, the last one.
-/
import Derived.Test.YtibdpdlghibijaaGreatDoorMC16
import Derived.Test.YtibdpdlghibijaaGreatDoorMC7
import Derived.Test.YtibdpdlghibijaaGreatDoorMC30
import Derived.Test.YtibdpdlghibijaaGreatDoorMC37
import Derived.Test.YtibdpdlghibijaaGreatDoorMC12
import Derived.Test.YtibdpdlghibijaaGreatDoorMC36
/-
  Walks of layer 21: the numbers of files of a kind, the last one.
-/
namespace Go.Proofs
open Go Go.Eng
set_option maxRecDepth 100000
set_option maxHeartbeats 4000000
attribute [local irreducible] Tri

end Go.Proofs

/-
  Walks of layer 21 and of its document: the headers of files.
-/
import Derived.Test.YtibdpdlghibijaaGreatDoorMC21
import Derived.Test.YtibdpdlghibijaaGreatDoorMC16
import Derived.Test.YtibdpdlghibijaaGreatDoorMC7
import Derived.Test.YtibdpdlghibijaaGreatDoorMC30
import Derived.Test.YtibdpdlghibijaaGreatDoorMC31
import Derived.Test.YtibdpdlghibijaaGreatDoorMC28
/-
  Walks of layer 21 and of its document: the headers of files.
-/
namespace Go.Proofs
open Go Go.Eng
set_option maxRecDepth 100000
set_option maxHeartbeats 4000000
attribute [local irreducible] Tri

end Go.Proofs

/-
  Walks of layer 21: the numbers of files of a kind, the last one.
-/
import Derived.Test.YtibdpdlghibijaaGreatDoorMP16
import Derived.Test.YtibdpdlghibijaaGreatDoorMP7
import Derived.Test.YtibdpdlghibijaaGreatDoorMP30
import Derived.Test.YtibdpdlghibijaaGreatDoorMP37
import Derived.Test.YtibdpdlghibijaaGreatDoorMP12
import Derived.Test.YtibdpdlghibijaaGreatDoorMP36
namespace Go.Proofs
open Go Go.Eng
set_option maxRecDepth 100000
set_option maxHeartbeats 4000000
attribute [local irreducible] Tri
end Go.Proofs

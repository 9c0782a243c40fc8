/-
  Walks of layer 21 and of its document: the headers of files.
-/
import Derived.Test.YtibdpdlghibijaaGreatDoorMH21
import Derived.Test.YtibdpdlghibijaaGreatDoorMH16
import Derived.Test.YtibdpdlghibijaaGreatDoorMH7
import Derived.Test.YtibdpdlghibijaaGreatDoorMH30
import Derived.Test.YtibdpdlghibijaaGreatDoorMH31
import Derived.Test.YtibdpdlghibijaaGreatDoorMH28
/-
  Walks of layer 21 and of its document: the headers of files.
-/
namespace Go.Proofs
open Go Go.Eng
set_option maxRecDepth 100000
set_option maxHeartbeats 4000000
attribute [local irreducible] Tri

end Go.Proofs

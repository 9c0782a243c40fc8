/-
  Walks of layer 21 and of its document: the headers of files.
-/
import Derived.Test.YtibdpdlghibijaaGreatDoorMT21
import Derived.Test.YtibdpdlghibijaaGreatDoorMT16
import Derived.Test.YtibdpdlghibijaaGreatDoorMT7
import Derived.Test.YtibdpdlghibijaaGreatDoorMT30
import Derived.Test.YtibdpdlghibijaaGreatDoorMT31
import Derived.Test.YtibdpdlghibijaaGreatDoorMT28
/-
  Walks of layer 21 and of its document: the headers of files.
-/
namespace Go.Proofs
open Go Go.Eng
set_option maxRecDepth 100000
set_option maxHeartbeats 4000000
attribute [local irreducible] Tri

end Go.Proofs

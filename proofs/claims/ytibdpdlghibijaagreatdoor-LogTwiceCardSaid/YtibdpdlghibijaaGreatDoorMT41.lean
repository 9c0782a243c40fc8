/-
  Walks of layer 21: the numbers of files of a kind, the last one.
-/
import Derived.Test.YtibdpdlghibijaaGreatDoorMT16
import Derived.Test.YtibdpdlghibijaaGreatDoorMT7
import Derived.Test.YtibdpdlghibijaaGreatDoorMT30
import Derived.Test.YtibdpdlghibijaaGreatDoorMT37
import Derived.Test.YtibdpdlghibijaaGreatDoorMT12
import Derived.Test.YtibdpdlghibijaaGreatDoorMT36
/-
  Walks of layer 21: the numbers of files of a kind, the last one.
-/
namespace Go.Proofs
open Go Go.Eng
set_option maxRecDepth 100000
set_option maxHeartbeats 4000000
attribute [local irreducible] Tri

end Go.Proofs

/-
  Walks of layer 8 and of its document: a header got.
-/
import Derived.Test.YtibdpdlghibijaaGreatDoorMP21
import Derived.Test.YtibdpdlghibijaaGreatDoorMP16
import Derived.Test.YtibdpdlghibijaaGreatDoorMP7
import Derived.Test.YtibdpdlghibijaaGreatDoorMP28
namespace Go.Proofs
open Go Go.Eng
set_option maxRecDepth 100000
set_option maxHeartbeats 4000000
attribute [local irreducible] Tri
end Go.Proofs

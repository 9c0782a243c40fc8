/-
  Walks of layer 8 and of its document: a header got.
-/
import Derived.Test.YtibdpdlghibijaaGreatDoorMT21
import Derived.Test.YtibdpdlghibijaaGreatDoorMT16
import Derived.Test.YtibdpdlghibijaaGreatDoorMT7
import Derived.Test.YtibdpdlghibijaaGreatDoorMT28
/-
  Walks of layer 8 and of its document: a header got.
-/
namespace Go.Proofs
open Go Go.Eng
set_option maxRecDepth 100000
set_option maxHeartbeats 4000000
attribute [local irreducible] Tri

end Go.Proofs

/-
  Walk of layer 8: a header got.
-/
namespace Go.Proofs
open Go Go.Eng
set_option maxRecDepth 100000
set_option maxHeartbeats 4000000
attribute [local irreducible] Tri

end Go.Proofs

/-
  A card's file, opened.
-/
import Derived.Test.YtkmlfggemhachaaGreatDoorM12
import Derived.Test.YtkmlfggemhachaaGreatDoorProg
import Derived.Test.YtkmlfggemhachaaGreatDoorM9
import Derived.Test.YtkmlfggemhachaaGreatDoorM13
import Derived.Test.YtkmlfggemhachaaGreatDoorM3
/-
  A card's file, opened.
-/
namespace Go.Proofs
open Go Go.Eng
set_option maxRecDepth 100000
set_option maxHeartbeats 4000000
attribute [local irreducible] Tri
open Go.WideShapes

end Go.Proofs

/-
  What a world holds of powers of ten; digits one by one.
-/
import Derived.Test.YtibdpdlghibijaaGreatDoorMT23
import Derived.Test.YtibdpdlghibijaaGreatDoorMT34
import Derived.Test.YtibdpdlghibijaaGreatDoorMT2
import Derived.Test.YtibdpdlghibijaaGreatDoorMT5
import Derived.Test.YtibdpdlghibijaaGreatDoorMT33
import Derived.Test.YtibdpdlghibijaaGreatDoorProg
/-
  What a world holds of powers of ten; digits one by one.
-/
namespace Go.Proofs
open Go Go.Eng
set_option maxRecDepth 100000
set_option maxHeartbeats 4000000
attribute [local irreducible] Tri

/-- The table of powers lies in its variable. -/
def Tryz.Pow (W : World) : Prop := Lib.TabIs Tryz.prog W "internal/strconv.uint64pow10" .u64 Lib.pow10Tab
end Go.Proofs

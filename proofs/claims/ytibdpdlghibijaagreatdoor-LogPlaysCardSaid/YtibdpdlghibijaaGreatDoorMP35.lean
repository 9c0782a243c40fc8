/-
  What a world holds of powers of ten; digits one by one.
-/
import Derived.Test.YtibdpdlghibijaaGreatDoorMP23
import Derived.Test.YtibdpdlghibijaaGreatDoorMP34
import Derived.Test.YtibdpdlghibijaaGreatDoorMP2
import Derived.Test.YtibdpdlghibijaaGreatDoorMP5
import Derived.Test.YtibdpdlghibijaaGreatDoorMP33
import Derived.Test.YtibdpdlghibijaaGreatDoorProg
namespace Go.Proofs
open Go Go.Eng
set_option maxRecDepth 100000
set_option maxHeartbeats 4000000
attribute [local irreducible] Tri
def Tryz.Pow (W:World):Prop:=Lib.TabIs Tryz.prog W "internal/strconv.uint64pow10" .u64 Lib.pow10Tab
end Go.Proofs

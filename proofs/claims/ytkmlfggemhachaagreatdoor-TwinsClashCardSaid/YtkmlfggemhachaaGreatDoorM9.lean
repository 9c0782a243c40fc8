/-
  Engine, part 19: arguments opened: slices of whatever, things of 64-bit numbers.
-/
import Derived.Test.YtkmlfggemhachaaGreatDoorM6
import Derived.Test.YtkmlfggemhachaaGreatDoorM8
import Derived.Deep.Slices
/-
  Engine, part 19: arguments opened: slices of whatever, things of 64-bit numbers.
-/
namespace Go.Eng
open Go Go.ChangeShapes Go.WideShapes

section
variable {H : Type} {enc : TypeId × Value → H} {P : Program} {w : World} {base : Nat} {sp : Nat → Bool} {held : Bool}

end
end Go.Eng

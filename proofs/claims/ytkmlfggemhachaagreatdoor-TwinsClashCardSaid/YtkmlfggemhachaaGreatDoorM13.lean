/-
  Engine, part 27: arguments opened: slices of things, by what one thing is.
-/
import Derived.Test.YtkmlfggemhachaaGreatDoorM9
import Derived.Test.YtkmlfggemhachaaGreatDoorM12
/-
  Engine, part 27: arguments opened: slices of things, by what one thing is.
-/
namespace Go.Eng
open Go Go.ChangeShapes Go.WideShapes

section
variable {H : Type} {enc : TypeId × Value → H} {P : Program} {w : World} {base : Nat} {sp : Nat → Bool} {held : Bool}

end
end Go.Eng

/-
  Walks of layer 21 and of layer 9's document: a file read.
-/
import Derived.Test.YtibdpdlghibijaaGreatDoorMT16
import Derived.Test.YtibdpdlghibijaaGreatDoorMT7
import Derived.Test.YtibdpdlghibijaaGreatDoorMT28
import Derived.Test.YtibdpdlghibijaaGreatDoorMT24
import Derived.Test.YtibdpdlghibijaaGreatDoorMT12
/-
  Walks of layer 21 and of layer 9's document: a file read.
-/
namespace Go.Proofs
open Go Go.Eng
set_option maxRecDepth 100000
set_option maxHeartbeats 4000000
attribute [local irreducible] Tri

theorem Tryz.shHeads_w (w : World) : Fun Tryz.prog 98 [] w (str headsB) := by
  refine Tri.enter (bx := []) (hp := []) Tryz.func98 rfl (by kernel_rfl) rfl (Own.nil w) ?_
  refine At.go [] [] rfl (by and_intros <;> first | exact trivial | exact oK) ?_
  refine At.rt [] [] [] Tryz.func98 ?_
  exact ⟨rfl, rfl, rfl⟩
end Go.Proofs

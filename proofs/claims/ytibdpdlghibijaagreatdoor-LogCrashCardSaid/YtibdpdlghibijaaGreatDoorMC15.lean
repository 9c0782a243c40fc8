/-
  A card's file, opened.
-/
import Derived.Test.YtibdpdlghibijaaGreatDoorMC12
import Derived.Test.YtibdpdlghibijaaGreatDoorProg
import Derived.Test.YtibdpdlghibijaaGreatDoorMC9
import Derived.Test.YtibdpdlghibijaaGreatDoorMC13
import Derived.Test.YtibdpdlghibijaaGreatDoorMC3
/-
  A card's file, opened.
-/
namespace Go.Proofs
open Go Go.Eng
set_option maxRecDepth 100000
set_option maxHeartbeats 4000000
attribute [local irreducible] Tri
open Go.WideShapes

theorem Tryz.config_c {H : Type} {enc : TypeId × Value → H} {w : World} {base : Nat} {sp : Nat → Bool} {held : Bool} {n : Nat} {cs : List Value} {y : DataW H × List MemPlace} (h : DataW.trod enc Tryz.prog w base sp held n 23 cs = some y) : ∃ a b c d : Int, cs = [.int .i64 a, .int .i64 b, .int .i64 c, .int .i64 d] ∧ inK .i64 a ∧ inK .i64 b ∧ inK .i64 c ∧ inK .i64 d := by
  obtain ⟨L, hcl, hl, hin⟩ := open_rec (sz := 4) (by kernel_rfl) h
  match L, hl with
  | [a, b, c, d], _ => exact ⟨a, b, c, d, hcl, hin a (by simp), hin b (by simp), hin c (by simp), hin d (by simp)⟩
end Go.Proofs

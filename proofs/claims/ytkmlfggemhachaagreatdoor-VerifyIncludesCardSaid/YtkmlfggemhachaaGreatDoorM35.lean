/-
  What a world holds of powers of ten; digits one by one.
-/
import Derived.Test.YtkmlfggemhachaaGreatDoorM23
import Derived.Test.YtkmlfggemhachaaGreatDoorM34
import Derived.Test.YtkmlfggemhachaaGreatDoorM2
import Derived.Test.YtkmlfggemhachaaGreatDoorM5
import Derived.Test.YtkmlfggemhachaaGreatDoorM33
import Derived.Test.YtkmlfggemhachaaGreatDoorProg
/-
  What a world holds of powers of ten; digits one by one.
-/
namespace Go.Proofs
open Go Go.Eng
set_option maxRecDepth 100000
set_option maxHeartbeats 4000000
attribute [local irreducible] Tri

theorem digS : ∀ d : Nat, d < 10 → (([48, 49, 50, 51, 52, 53, 54, 55, 56, 57] : List UInt8).drop d).take 1 = [UInt8.ofNat (48 + d)] := by decide
theorem tmod10 (u : Nat) : (-(u : Int)).tmod 10 = -((u % 10 : Nat) : Int) ∧ (-(u : Int)).tdiv 10 = -((u / 10 : Nat) : Int) := by
  rw [Int.neg_tmod, Int.neg_tdiv]
  exact ⟨rfl, rfl⟩
/-- The table of powers lies in its variable. -/
def Tryz.Pow (W : World) : Prop := Lib.TabIs Tryz.prog W "internal/strconv.uint64pow10" .u64 Lib.pow10Tab
end Go.Proofs

/-
  Tables of strings that are package-level variables: from a row's condition to what a walk reads.
-/
import Derived.Test.YtibdpdlghibijaaGreatDoorMT13
import Derived.Lib.LaidTab
/-
  Tables of strings that are package-level variables: from a row's condition to what a walk reads.
-/
namespace Go.Eng
open Go Go.Lib

/-- The variable holds just these strings. -/
def STab (P : Program) (w : World) (name : String) (ss : List (List UInt8)) : Prop := w.var? P name = some (ss.map str).toArray
theorem STab.sl {P : Program} {W : World} {name : String} {ss : List (List UInt8)} {g : Nat} (h : STab P W name ss) (hg : P.globalNamed name = some g) : SlOk W (some ⟨g, 0, none⟩) (ss.map str) := by
  refine .inr ⟨g, 0, rfl, fun j u hu => ?_⟩
  rw [Nat.zero_add]
  have := World.var?_cell hg h j
  simpa [hu] using this
end Go.Eng

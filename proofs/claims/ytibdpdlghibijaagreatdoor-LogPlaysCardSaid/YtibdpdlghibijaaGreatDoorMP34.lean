/-
  Variables of a package that stay as they are; strings joined.
-/
import Derived.Test.YtibdpdlghibijaaGreatDoorMP12
import Derived.Lib.LaidTab
namespace Go.Eng
open Go Go.Lib
theorem var_ext {P:Program}{w w':World}{name:String}{cs:Array Value}(h:w.var? P name=some cs) (he:Ext [] w w'):w'.var? P name=some cs:=by
  unfold World.var? at h ⊢
  cases hg:P.globalNamed name with
  | none => rw [hg] at h; cases h
  | some g =>
    rw [hg] at h
    simp only [Option.bind_some] at h ⊢
    cases hb:w.heap[g]? with
    | none => rw [hb] at h; cases h
    | some b =>
      rw [he.block g (Array.getElem?_eq_some_iff.1 hb).1 (by simp),hb]
      rw [hb] at h; exact h
theorem tab_ext {P:Program}{w w':World}{name:String}{k:IntKind}{zs:List Int}(h:TabIs P w name k zs) (he:Ext [] w w'):TabIs P w' name k zs:=var_ext h he
end Go.Eng

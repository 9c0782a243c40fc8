/-
  Engine, part 39: the kit's contracts of library functions as this engine's.
-/
import Derived.Test.YtibdpdlghibijaaGreatDoorMP3
import Derived.Test.YtibdpdlghibijaaGreatDoorMP12
import Derived.Sort.Grow
namespace Go.Eng
open Go
theorem Ext.ofGrow (w:World) (k:Nat) (os:Array Obj):Ext [] w (Sort.grow (w.drewN k) os) :=
  ⟨rfl,rfl,rfl,Nat.le_add_right _ _,by simp [Sort.grow,World.drewN],fun i hi _=>by
    show (w.heap++os)[i]?=_
    rw [Array.getElem?_append_left hi]⟩
theorem Fun.ofGrow {P:Program}{f:FuncId}{fn:Func}{args:List Value}{w:World}{V:Value}(h1:P.funcs[f]?=some fn) (h:Calls P f ⟨args⟩ w fun e w'=>e=.returned V∧∃ k os,w'=Sort.grow (w.drewN k) os) (h2:fn.body.isSome=true:=by rfl) (h3:(fn.name == "runtime.NumGoroutine")=false:=by decide):Fun P f args w V:=by
  refine Tri.mk ⟨fn,h1,h2,h3⟩ (h.mono ?_)
  rintro e w' ⟨rfl,k,os,rfl⟩
  exact⟨V,[],[],rfl,⟨rfl,rfl,rfl⟩,Ext.ofGrow w k os,⟨by simp [kys],by simp [kys],by simp,by simp⟩,by simp [kys]⟩
end Go.Eng

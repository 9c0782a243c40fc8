/-
  Engine, part 13: from a contract to what a row asks.
-/
import Derived.Test.YtibdpdlghibijaaGreatDoorMP2
import Derived.WalkKit
import Derived.ProofKit
import Derived.OpenShut
namespace Go.Eng
open Go
theorem Ext.kept {W W':World}(h:Ext [] W W') (may:MemPlace→Prop):W.keptBut W' may:=by
  have hr:=World.keptBut_refl W may
  refine⟨h.os,h.output,fun i hi=>?_⟩
  rw [h.block i hi (by simp)]
  exact hr.2.2 i hi
theorem post_of_ext {H:Type}{enc:TypeId × Value→H}{P:Program}{f:Func}{s:ChangeSpec}{apart fresh handsOn:Bool}{W W':World}{args:Array Value}{v:Value}{ds gs:List (DataW H)}{before pa pv:List MemPlace}
    (hW:DataW.Whole enc P f.params.toList s.vars apart W args.toList ds gs before)
    (hres:∀ (b:Nat) (sp:Nat→Bool) (hd:Bool),DataW.TrodAll enc P W' b sp hd f.resultTypes.toList (v.resultList f.resultTypes.size) (s.fn H (ds++gs)).results [])
    (hargs:∀ sp:Nat→Bool,(∀ p∈before,sp p.block=true)→DataW.TrodAll enc P W' 0 sp true f.params.toList args.toList (s.fn H (ds++gs)).args pa)
    (hvars:∀ sp:Nat→Bool,(∀ p∈before,sp p.block=true)→DataW.TrodVars enc P W' sp s.vars (s.fn H (ds++gs)).vars pv)
    (hps:before=pa++pv) (he:Ext [] W W'):s.post enc P f apart fresh handsOn false W args v W':=by
  have hold:∀ p∈before,(fun b=>decide (b < W.heap.size)) p.block=true:=fun p hp=>by simpa using hW.lt p hp
  refine⟨ds,gs,before,[],pa,pv,hW,hres _ _ _,hargs _ hold,hvars _ hold,World.keptBut_mono (fun p hp =>⟨hp,?_⟩) (he.kept (·∈before)),fun h=>by cases h⟩
  rw [hps,List.mem_append] at hp
  exact Or.inr hp
theorem Fun.calls {P:Program}{f:FuncId}{args:List Value}{w:World}{V:Value}(h:Fun P f args w V):Calls P f ⟨args⟩ w fun e w'=>e=.returned V∧Ext [] w w' :=
  h.2.mono fun _ _ ⟨_,_,_,he,⟨hv,_,_⟩,hx,_,_⟩ =>⟨by rw [he,hv],hx⟩
theorem lit_in {k:IntKind}{n:Int}(h:(Lit.int k n).wf=true):k.min≤n∧n≤k.max:=by
  simpa only [Lit.wf,Bool.and_eq_true,decide_eq_true_eq] using h
end Go.Eng

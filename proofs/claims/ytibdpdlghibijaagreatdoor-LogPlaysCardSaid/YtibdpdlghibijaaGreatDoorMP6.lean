/-
  Engine, part 15: what a law's row asks, from a contract; arguments opened.
-/
import Derived.Test.YtibdpdlghibijaaGreatDoorMP3
import Derived.Test.YtibdpdlghibijaaGreatDoorMP5
import Derived.WideKeyArgs
import Derived.ChangeSlices
import Derived.ChangeMaps5
import Derived.RowKit
namespace Go.Eng
open Go Go.ChangeShapes Go.WideShapes
theorem TrodAll_stays {H:Type}{enc:TypeId × Value→H}{P:Program}{base:Nat}(hl:laidOutB P=true) {W W':World}{sp':Nat→Bool}:∀ {ts:List TypeId}{vs:List Value}{ds:List (DataW H)}{ps:List MemPlace},
    (∀ t∈ts,P.readableRec t=true∧t < P.types.size)→DataW.TrodAll enc P W base (fun _=>true) true ts vs ds ps→(∀ p∈ps,W.sameAt W' p)→(∀ p∈ps,sp' p.block=true)→DataW.TrodAll enc P W' base sp' true ts vs ds ps
  | [],[],[],_,_,h,_,_ => h
  | t :: _,_ :: _,_ :: _,_,hT,⟨p,q,h1,h2,e⟩,hsame,hs =>
    ⟨p,q,WideElems.Trod_stays hl (hT t (List.mem_cons_self ..)).1 (hT t (List.mem_cons_self ..)).2 h1 (fun x hx=>hsame x (by rw [e]; exact List.mem_append_left _ hx)) (fun x hx=>hs x (by rw [e]; exact List.mem_append_left _ hx)),
      TrodAll_stays hl (fun t' ht=>hT t' (List.mem_cons_of_mem _ ht)) h2 (fun x hx=>hsame x (by rw [e]; exact List.mem_append_right _ hx)) (fun x hx=>hs x (by rw [e]; exact List.mem_append_right _ hx)),e⟩
theorem post_law {H:Type}{enc:TypeId × Value→H}{P:Program}{f:Func}{s:ChangeSpec}{apart fresh handsOn:Bool}{W W':World}{args:Array Value}{ds gs:List (DataW H)}{before:List MemPlace}{tb:TypeId}
    (hl:laidOutB P=true) (hrd:∀ t∈f.params.toList,P.readableRec t=true∧t < P.types.size) (hW:DataW.Whole enc P f.params.toList s.vars apart W args.toList ds gs before) (hv:s.vars=[])
    (hfn:s.fn H ds={ results:=[.lit (.bool true)],args:=ds }) (hr:f.resultTypes=#[tb]) (htb:P.underlying tb=some .bool) (he:Ext [] W W'):s.post enc P f apart fresh handsOn false W args (.bool true) W':=by
  have hW':=hW
  obtain⟨p,q,hA,hV,rfl,hfz,hnd⟩:=hW
  rw [hv] at hV
  obtain⟨rfl,rfl⟩:=trodVars_none hV
  have hb:=he.below
  refine post_of_ext (pa:=p) (pv:=[]) hW' ?_ ?_ ?_ rfl he
  · intro b sp hd
    rw [List.append_nil,hfn,hr]
    exact trodAll_cons_mk (RowKit.shut_bool htb _) trodAll_mk0
  · intro sp hsp
    rw [List.append_nil,hfn]
    exact TrodAll_stays hl hrd hA (fun x hx=>hb.same (hW'.lt x (by simpa using hx))) (fun x hx=>hsp x (by simpa using hx))
  · intro sp _
    rw [List.append_nil,hfn,hv]
    rfl
end Go.Eng

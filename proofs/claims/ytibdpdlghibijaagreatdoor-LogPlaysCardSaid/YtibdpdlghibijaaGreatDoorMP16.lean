/-
  Engine, part 37: the usual steps, in short.
-/
import Derived.Test.YtibdpdlghibijaaGreatDoorMP10
import Derived.Test.YtibdpdlghibijaaGreatDoorMP7
import Derived.Test.YtibdpdlghibijaaGreatDoorMP5
namespace Go.Eng
open Go
theorem sB {l e:Env}(h:Sub l e:=by (repeat' apply And.intro) <;> first | exact True.intro | rfl | exact s1 (by omega) | exact s2 (by omega)):Sub l e:=h
section
variable {C:Ctx}{df:List Deferred}{env env':Env}{bx bx':Bx}{hp:List Seg}{S:Base}{ob:Prop}
theorem At.go {x y:Loc}(ds:List Bool) (hs:List Hint) (h:exec C.P C.nt true hp S C.body 100 x ds hs env bx True=⟨y,env',bx',ob⟩) (ho:ob) (hk:At C y df env' bx' hp S):At C x df env bx hp S:=At.run 100 true ds hs h ho hk
theorem At.gn {x y:Loc}(n:Nat) (ds:List Bool) (hs:List Hint) (h:exec C.P C.nt true hp S C.body n x ds hs env bx True=⟨y,env',bx',ob⟩) (ho:ob) (hk:At C y df env' bx' hp S):At C x df env bx hp S:=At.run n true ds hs h ho hk
theorem At.gw {x y:Loc}(ds:List Bool) (hs:List Hint) (h:exec C.P C.nt false hp S C.body 100 x ds hs env bx True=⟨y,env',bx',ob⟩) (ho:ob) (hk:At C y df env' bx' hp S):At C x df env bx hp S:=At.run 100 false ds hs h ho hk
theorem At.qt {p l l0:List Nat}{ds':List Bool}{hs':List Hint}(ds:List Bool) (hs:List Hint) (hl0:List.range (opsOf C.body p).size=l0) (h:runOps C.P C.nt true hp S (opsOf C.body p).toList l0 [] ds hs env bx True=⟨[],ds',hs',env',bx',ob⟩) (ho:ob) (hk:At C ⟨1,p,[]⟩ df env' bx hp S)
    (hok:LexOk C.P C.body p:=by exact⟨by kernel_rfl,by kernel_rfl,rfl,rfl,rfl⟩) (hm:mild hs=true:=by rfl):At C ⟨0,p,l⟩ df env bx hp S:=At.quiet true ds hs hok hl0 h hm ho hk
theorem At.bo {p l:List Nat}{i d:Nat}{o:Oper}{ob:Prop}{t:TypeId}{x:Operand}{v:Value}{cs:List Value}(h:∀ b,S.w0.heap.size≤b→At C ⟨3,p,l⟩ df ((d,.pointer (some ⟨b,0,none⟩)) :: env) ((b,t,cs) :: bx) hp S)
    (ho:opAt C.body p i=some o:=by rfl) (hdst:o.dst=some d:=by rfl) (hfit:Nat.ble (d+1) C.nt=true:=by rfl) (hd:notDefer o.op=true:=by rfl) (hg:guardAt C.body p o [] env=some ob:=by rfl) (hob:ob:=by trivial) (hop:o.op=.box t x:=by rfl) (hx:Env.ev env x=some v:=by rfl) (hc:v.cells=⟨cs⟩:=by rfl):At C ⟨3,p,i :: l⟩ df env bx hp S :=
  At.step [] ho hdst hfit hd hg hob (OpOk.box hop hx hc h)
theorem At.al {p l:List Nat}{i d:Nat}{o:Oper}{ob:Prop}{t:TypeId}{cs:List Value}(h:∀ b,S.w0.heap.size≤b→At C ⟨3,p,l⟩ df ((d,.pointer (some ⟨b,0,none⟩)) :: env) ((b,t,cs) :: bx) hp S)
    (ho:opAt C.body p i=some o:=by rfl) (hdst:o.dst=some d:=by rfl) (hfit:Nat.ble (d+1) C.nt=true:=by rfl) (hd:notDefer o.op=true:=by rfl) (hg:guardAt C.body p o [] env=some ob:=by rfl) (hob:ob:=by trivial) (hop:o.op=.alloc t:=by rfl) (hz:zeroL C.P t=some cs:=by rfl):At C ⟨3,p,i :: l⟩ df env bx hp S :=
  At.step [] ho hdst hfit hd hg hob (OpOk.alloc hop hz h)
theorem _root_.Go.Eng.WOk.own1 {w:World}{e:Nat × TypeId × List Value}(i:Nat) (h:WOk S bx hp w) (hi:nth bx i=some e):Own [e] [] w :=
  ⟨by simp [kys],fun k hk=>by
    have:k=e.1:=by simpa [kys] using hk
    subst this; exact h.lt _ (mem_kys_bx (nth_mem hi)),fun x hx=>by
    have:x=e:=by simpa using hx
    subst this; exact h.bx _ (nth_mem hi),by simp⟩
theorem At.unr {p l:List Nat}(hk:At C ⟨0,0 :: p,[]⟩ df env bx hp S) (hl:isLoop (sub C.body p)=true:=by rfl):At C ⟨0,p,l⟩ df env bx hp S:=by
  obtain⟨b,hb⟩:∃ b,sub C.body p=.loop b:=by
    unfold isLoop at hl
    split at hl
    · exact⟨_,by assumption⟩
    · cases hl
  intro w hw tm hs hkn cs
  have:=hk w hw tm hs hkn cs
  simp only [items,sub_loop hb,kont_loop hb] at this
  simp only [items,hb]
  exact C.back _ _ _ s_loop this
theorem At.una {p:List Nat}(hk:At C ⟨0,0 :: p,[]⟩ df env bx hp S) (hl:isLoop (sub C.body p)=true:=by rfl):At C ⟨2,p,[]⟩ df env bx hp S:=by
  obtain⟨b,hb⟩:∃ b,sub C.body p=.loop b:=by
    unfold isLoop at hl
    split at hl
    · exact⟨_,by assumption⟩
    · cases hl
  intro w hw tm hs hkn cs
  have:=hk w hw tm hs hkn cs
  simp only [items,sub_loop hb,kont_loop hb] at this
  simp only [items,hb,List.cons_append,List.nil_append]
  exact C.back _ _ _ s_inLoop this
theorem At.st {p l:List Nat}{i d:Nat}{o:Oper}{ob:Prop}(ds:List Bool) (h:OpOk C o env bx hp S (fun v bx' hp' => At C ⟨3,p,l⟩ df ((d,v) :: env) bx' hp' S))
    (ho:opAt C.body p i=some o:=by rfl) (hdst:o.dst=some d:=by rfl) (hfit:Nat.ble (d+1) C.nt=true:=by rfl) (hd:notDefer o.op=true:=by rfl) (hg:guardAt C.body p o ds env=some ob:=by rfl) (hob:ob:=by trivial):At C ⟨3,p,i :: l⟩ df env bx hp S :=
  At.step ds ho hdst hfit hd hg hob h
end
theorem At.rt {P:Program}{f:FuncId}{fn:Func}{w0:World}{m:List Nat}{Q:Value→Bx→List Seg→Prop}{x:Loc}{env:Env}{bx bx':Bx}{hp hp':List Seg}{vs:List Value}{ob:Prop}(mb mh:List Bool) (hs:List Hint) (hf:P.funcs[f]?=some fn) (hQ:Q (tupV vs) bx' hp')
    (hsel:forceL (selL mb bx) (fun a=>forceL (selL mh hp) fun b=>(a,b))=(bx',hp'):=by rfl) (he:atEnd (fn.body.getD .skip) x=true:=by rfl) (h:resL P hp ⟨w0,m⟩ env bx fn.results.toList hs=some (vs,ob):=by rfl) (ho:ob:=by exact oK) :
    At (triCtx P f fn w0 m Q) x [] env bx hp ⟨w0,m⟩:=At.retK mb mh hs hsel he hf h ho hQ
theorem At.a1 {C:Ctx}{p l:List Nat}{i i':Nat}{df:List Deferred}{env:Env}{bx:Bx}{hp:List Seg}{S:Base}{o1 o2:Oper}{ob1 ob2:Prop}{x:Operand}{t e d1 d2:Nat}{a:Option Nat}{n cap:Nat}{xs:List Value}{ps:List (Nat × Operand)}{vs:List (Nat × Value)}{z cs:List Value}(j sz by_:Nat) (hk:∀ b a' cap',At C ⟨3,p,l⟩ df ((d2,sv a' (n+1) cap') :: (d1,.slice (some ⟨b,0,none⟩) 1 1) :: env) bx (setL hp j (Seg.row a' e sz (n+1) cap' (xs++cs))) S)
    (ho1:opAt C.body p i=some o1:=by rfl) (ho2:opAt C.body p i'=some o2:=by rfl) (hd1:o1.dst=some d1:=by rfl) (hd2:o2.dst=some d2:=by rfl) (hb1:bldOf o1.op=some (t,1,ps):=by rfl) (ha2:appOf o2.op=some (x,.tmp d1,t,t):=by rfl) (hf1:fits C.nt o1.dst=true:=by rfl) (hf2:fits C.nt o2.dst=true:=by rfl) (hg1:guardAt C.body p o1 [] env=some ob1:=by rfl) (hob1:ob1:=by trivial) (hg2:∀ v,guardAt C.body p o2 [] ((d1,v) :: env)=some ob2:=by exact fun _=>rfl) (hob2:ob2:=by trivial) (ht:elT C.P t=some e:=by rfl) (hz:zeroC C.P e=some (z,sz):=by rfl) (hi:infoL C.P e=some (sz,by_,sz):=by rfl) (hpos:(Nat.ble 1 sz && Nat.ble sz 16777216)=true:=by rfl) (hv:evp env ps=some vs:=by rfl) (hf:(match pFill (fun i=>some (i * sz,sz)) (baseL z (1 * sz)) vs with | some l=>forceL l fun l=>some l | none=>none)=some cs:=by rfl) (hcl:Nat.beq cs.length sz=true:=by rfl) (hj:nth hp j=some (Seg.row a e sz n cap xs):=by rfl) (hx:∀ v,Env.ev ((d1,v) :: env) x=some (sv a n cap):=by exact fun _=>rfl) (h1:∀ v,v∈cs→v.oneCell'=true:=by first | exact i64s_one _ | (simp [Value.oneCell']; done) | (simp [Value.oneCell',str]; done)) (h63:n+1≤9223372036854775807:=by first | omega | (simp; omega)) (hb:(n+1) * by_≤140737488355328:=by first | omega | (simp; omega)):At C ⟨3,p,i :: i' :: l⟩ df env bx hp S :=
  At.append1 j sz by_ ho1 ho2 hd1 hd2 hb1 ha2 hf1 hf2 hg1 hob1 hg2 hob2 ht hz hi hpos hv hf hcl hj hx h1 h63 hb hk
theorem At.qT {C:Ctx}{p l l0:List Nat}{df:List Deferred}{env env':Env}{bx bx':Bx}{hp:List Seg}{S:Base}{ds':List Bool}{hs':List Hint}{ob:Prop}(n g:Nat) (ds:List Bool) (hs:List Hint) (hl0:List.range n=l0) (h:runOps C.P C.nt true hp S (opsOf C.body p).toList l0 [] ds hs env bx True=⟨[],ds',hs',env',bx',ob⟩) (ho:ob)
    (hk:AtD C p df g (markTo n 0 (Array.replicate (opsOf C.body p).size false)) env' bx hp S)
    (hok:TailOk C.P C.body p n:=by exact⟨by kernel_rfl,by kernel_rfl,rfl,by kernel_rfl,by kernel_rfl,by kernel_rfl,rfl,rfl,rfl⟩) (hm:mild hs=true:=by rfl) (hg:(opsOf C.body p).size=n+g:=by rfl):At C ⟨0,p,l⟩ df env bx hp S :=
  At.quietT n g true ds hs hok hl0 h hm ho hg hk
section
variable {C:Ctx}{p:List Nat}{df:List Deferred}{fuel:Nat}{listed:Array Bool}{env:Env}{bx:Bx}{hp:List Seg}{S:Base}{o:Oper}{ob ob1:Prop}
theorem AtD.f1 {v:Value}{ds':List Bool}{hs':List Hint}{bx':Bx}(i:Nat) (ds dg:List Bool) (hs:List Hint) (ho1:opAt C.body p i=some o) (hg:guardAt C.body p o dg env=some ob1) (h:one1 C.P true hp S o.op [] ds hs env bx=some (v,ds',hs',bx',ob)) (ho:ob) (hob:ob1) (hk:AtD C p df fuel (listed.setIfInBounds i true) (putE o.dst v env) bx' hp S)
    (hr:Region.ready .any (opsOf C.body p) listed=[i]:=by kernel_rfl) (hfit:fits C.nt o.dst=true:=by rfl):AtD C p df (fuel+1) listed env bx hp S :=
  AtD.fork1 i hr (StepD.byE dg ho1 hfit hg hob (OpOk.one true ds hs h ho hk))
theorem AtD.f1r {d:Nat}(i:Nat) (h:OpOk C o env bx hp S (fun v bx' hp' => AtD C p df fuel (listed.setIfInBounds i true) ((d,v) :: env) bx' hp' S))
    (hr:Region.ready .any (opsOf C.body p) listed=[i]:=by kernel_rfl) (ho1:opAt C.body p i=some o:=by rfl) (hdst:o.dst=some d:=by rfl) (hfit:Nat.ble (d+1) C.nt=true:=by rfl) (hg:guardAt C.body p o [] env=some ob1:=by rfl) (hob:ob1:=by trivial):AtD C p df (fuel+1) listed env bx hp S :=
  AtD.fork1 i hr (StepD.by [] ho1 hdst hfit hg hob h)
theorem AtD.dn (h:At C ⟨1,p,[]⟩ df env bx hp S) (hr:Region.ready .any (opsOf C.body p) listed=[]:=by kernel_rfl):AtD C p df fuel listed env bx hp S:=AtD.done hr h
theorem AtD.pu {env':Env}(is:List Nat) (fuel:Nat) (he:pureD C.P C.nt true (opsOf C.body p).toList is env True=some (env',ob)) (ho:ob) (hk:AtD C p df fuel (setAll is listed) env' bx hp S) (hns:Region.noSelect (opsOf C.body p)=true:=by kernel_rfl) (hc:chkD (opsOf C.body p) is listed=true:=by kernel_rfl):AtD C p df (fuel+is.length) listed env bx hp S:=AtD.pures true hns is hc he ho hk
end
theorem At.dr {C:Ctx}{p l:List Nat}{df:List Deferred}{env:Env}{bx:Bx}{hp:List Seg}{S:Base}(n:Nat) (h:AtD C p df n (Array.replicate n false) env bx hp S) (hd:isDraw C.body p=true:=by rfl) (hm:C.P.follows .mixedOrders=true:=by rfl) (hnd:noDefer (opsOf C.body p)=true:=by rfl) (hn:(opsOf C.body p).size=n:=by rfl):At C ⟨0,p,l⟩ df env bx hp S :=
  At.draw n hd hm hnd hn h
end Go.Eng
namespace Go.Eng
open Go
section
variable {C:Ctx}{p:List Nat}{df:List Deferred}{fuel:Nat}{listed:Array Bool}{env:Env}{bx:Bx}{hp:List Seg}{S:Base}{o:Oper}{ob ob1:Prop}
end
theorem At.rowCap {C:Ctx}{x:Eng.Loc}{df:List Deferred}{env:Env}{bx:Bx}{hp:List Seg}{S:Base}{a:Option Nat}{e sz n cap:Nat}{xs:List Value}(j:Nat) (hj:nth hp j=some (Seg.row a e sz n cap xs)) (hk:n≤cap→At C x df env bx hp S):At C x df env bx hp S :=
  fun w hw=>hk ((show rowOk w a e sz n cap xs from hw.hp _ (nth_mem hj)).le) w hw
end Go.Eng
namespace Go.Eng
open Go
theorem OpOk.sliceEnd {C:Ctx}{env:Env}{bx:Bx}{hp:List Seg}{S:Base}{o:Oper}{K:Value→Bx→List Seg→Prop}{t e:TypeId}{sz:Nat}{x i:Operand}{a:Option Addr}{kk:IntKind}(n:Nat)
    (ho:o.op=.slice t x (some i) none none) (hx:Env.ev env x=some (.slice a n n)) (hi:Env.ev env i=some (.int kk (n:Int))) (ht:C.P.underlying t=some (.slice e)) (hs:szT C.P e=some sz) (hK:K (.slice a 0 0) bx hp):OpOk C o env bx hp S K:=by
  intro w hw ρ hρ
  refine .inl ⟨.slice a 0 0,w,bx,hp,.inl ?_,hw,hK⟩
  unfold execOp
  simp only [ho,Option.map_some,Option.map_none,hρ _ _ hx,hρ _ _ hi]
  simp [Instr.sliceAt,run_underlying ht,Instr.slice,Instr.sliceBounds,Instr.sliceBound,asIntOf,szT_ok hs,Result.andThen]
theorem OpOk.indexArr {C:Ctx}{env:Env}{bx:Bx}{hp:List Seg}{S:Base}{o:Oper}{K:Value→Bx→List Seg→Prop}{t e:TypeId}{n sz:Nat}{x i:Operand}{cs:List Value}{kk:IntKind}{v:Value}(k:Nat)
    (ho:o.op=.index t x i) (hx:Env.ev env x=some (.agg ⟨cs⟩)) (hi:Env.ev env i=some (.int kk (k:Int))) (ht:C.P.underlying t=some (.array n e)) (hs:szT C.P e=some sz) (hk:k < n) (hv:pPart C.P e cs (k * sz)=some v) (hK:K v bx hp):OpOk C o env bx hp S K:=by
  intro w hw ρ hρ
  refine .inl ⟨v,w,bx,hp,.inl ?_,hw,hK⟩
  unfold execOp
  have h0:(0:Int)≤k∧(k:Int) < n:=by omega
  simp only [ho,hρ _ _ hx,hρ _ _ hi]
  simp [Instr.index,asIntOf,run_underlying ht,h0,hk,szT_ok hs,pPart_ok hv,Result.andThen]
theorem OpOk.slice3 {C:Ctx}{env:Env}{bx:Bx}{hp:List Seg}{S:Base}{o:Oper}{K:Value→Bx→List Seg→Prop}{t e:TypeId}{sz n c:Nat}{x i j:Operand}{b off:Nat}{kk:IntKind}(h:Nat)
    (ho:o.op=.slice t x none (some i) (some j)) (hx:Env.ev env x=some (.slice (some ⟨b,off,none⟩) n c)) (hi:Env.ev env i=some (.int kk (h:Int))) (hj:Env.ev env j=some (.int kk (h:Int))) (ht:C.P.underlying t=some (.slice e)) (hs:szT C.P e=some sz) (hc:h≤c) (hK:K (.slice (some ⟨b,off,none⟩) h h) bx hp):OpOk C o env bx hp S K:=by
  intro w hw ρ hρ
  refine .inl ⟨.slice (some ⟨b,off,none⟩) h h,w,bx,hp,.inl ?_,hw,hK⟩
  unfold execOp
  simp only [ho,Option.map_some,Option.map_none,hρ _ _ hx,hρ _ _ hi,hρ _ _ hj]
  simp [Instr.sliceAt,run_underlying ht,Instr.slice,Instr.sliceBounds,Instr.sliceBound,asIntOf,szT_ok hs,Result.andThen,Addr.add,hc]
theorem SlOk.takeV {w:World}{a:Option Addr}{xs:List Value}(n:Nat) (h:SlOk w a xs):SlOk w a (xs.take n):=by
  rcases h with h | ⟨g,o,rfl,h⟩
  · subst h; rw [List.take_nil]; exact SlOk.nil w a
  · refine .inr ⟨g,o,rfl,fun j u hu => h j u ?_⟩
    rw [List.getElem?_take] at hu
    split at hu
    · exact hu
    · cases hu
theorem SlOk.dropV {w:World}{g o:Nat}{xs:List Value}(i:Nat) (h:SlOk w (some ⟨g,o,none⟩) xs):SlOk w (some ⟨g,o+i,none⟩) (xs.drop i):=by
  rcases h with h | ⟨g',o',he,h⟩
  · subst h; rw [List.drop_nil]; exact SlOk.nil w _
  · cases he
    refine .inr ⟨g,o+i,rfl,fun j u hu=>?_⟩
    rw [List.getElem?_drop] at hu
    have:=h (i+j) u hu
    rwa [← Nat.add_assoc] at this
end Go.Eng

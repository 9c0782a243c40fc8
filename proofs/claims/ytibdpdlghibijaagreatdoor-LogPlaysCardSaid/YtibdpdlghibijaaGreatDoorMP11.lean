/-
  Engine, part 17: slices that are made.
-/
import Derived.Test.YtibdpdlghibijaaGreatDoorMP10
import Derived.Laws.MakeOwn
namespace Go.Eng
open Go
theorem OpOk.makeSlice {C:Ctx}{env:Env}{bx:Bx}{hp:List Seg}{S:Base}{o:Oper}{K:Value→Bx→List Seg→Prop}{t e:TypeId}{x y:Operand}{k1 k2:IntKind}{z xs:List Value}{sz sz2 by_ c:Nat}(n:Nat)
    (ho:o.op=.makeSlice t x y) (ht:elT C.P t=some e) (hz:zeroC C.P e=some (z,sz)) (hi:infoL C.P e=some (sz2,by_,c)) (hx:Env.ev env x=some (.int k1 n)) (hy:Env.ev env y=some (.int k2 n)) (hb:by_ * n≤281474976710656) (h63:n≤9223372036854775807) (hcl:n * sz≤16777216)
    (hl:xs.length=n * sz) (hxs:∀ j,j < n * sz→xs[j]?=z[j % z.length]?) (hz0:0 < z.length)
    (hk:∀ g,K (sv (some g) n n) bx (Seg.row (some g) e sz n n xs :: hp)):OpOk C o env bx hp S K:=by
  intro w hw ρ hρ
  obtain⟨i,zv,hi1,hz1,hs1,hs2,hs3⟩:=infoL_ok hi
  have hzz:zv.cells=⟨z⟩∧i.size=sz:=by
    unfold zeroC at hz
    rw [hi1] at hz
    simp only [hz1] at hz
    cases zv <;> simp only [Option.some.injEq,Prod.mk.injEq,reduceCtorEq] at hz <;> first | exact⟨by rw [← hz.1]; rfl,hz.2⟩ | (obtain⟨rfl,h⟩:=hz; exact⟨rfl,h⟩)
  have hr:=run_makeSlice (P:=C.P) w t e i zv (elT_ok ht) hi1 hz1 k1 k2 (n:Int) (n:Int) (by omega) (by omega) (by rw [hzz.2,Int.toNat_natCast]; exact hcl) (by rw [hs2]; have h:=Int.ofNat_le.2 hb; rw [Int.natCast_mul] at h; exact h) (by omega)
  simp only [Int.toNat_natCast,hzz.2] at hr
  have hmade:(madeCells zv.cells (n * sz)).toList=xs:=by
    apply List.ext_getElem?
    intro j
    rw [hzz.1]
    by_cases hj:j < n * sz
    · rw [hxs j hj]
      have hm:j % z.length < z.length:=Nat.mod_lt _ hz0
      simp [madeCells,hj,List.getElem?_eq_getElem hm]
    · rw [List.getElem?_eq_none (by rw [Array.length_toList,size_madeCells]; omega),List.getElem?_eq_none (by omega)]
  have hnew:(w.alloc (.cells (madeCells zv.cells (n * sz)) e)).heap[w.heap.size]?=some (.cells (madeCells zv.cells (n * sz)) e (0,0)):=(MapKept.heap_alloc w _).1
  refine .inl ⟨sv (some w.heap.size) n n,_,bx,_,.inl ?_,hw.newSeg (s':=Seg.row (some w.heap.size) e sz n n xs) (w':=w.alloc (.cells (madeCells zv.cells (n * sz)) e)) ?_ ?_ (by simp [Seg.row]) ?_,hk _⟩
  · unfold execOp; simp only [ho,hρ _ _ hx,hρ _ _ hy,Sem.run_bind,hr,Result.andThen_ok]; rfl
  · exact⟨rfl,rfl,rfl,(by first | exact Nat.le_refl _ | exact Nat.le_succ _ | exact Nat.le_add_right _ _),by simp,fun k hk _=>RowKit.Below.heap_alloc w _ k hk⟩
  · refine⟨hl,Nat.le_refl _,h63,by simp,fun g hg=>?_⟩
    cases hg
    exact⟨_,_,hnew,size_madeCells _ _,by rw [hmade,← hl,List.take_length],.inl rfl⟩
  · intro k hk
    simp [Seg.row] at hk; subst hk
    exact⟨Nat.le_refl _,by simp⟩
section
variable {P:Program}{ops:Array Oper}{md:Region.Mode}{W:World→Prop}{Q':Exit→Act→World→Prop}
def qTo (P:Program) (md:Region.Mode) (ops:Array Oper) (W:World→Prop) (Q':Exit→Act→World→Prop) (q:Nat→Bool):Nat→Array Bool→Act→Prop
  | 0,listed,a => Region.ready md ops listed=[]∧∀ w,W w→wpAny P md ops Q' 0 listed a w
  | f+1,listed,a => (∀ w,W w→wpAny P md ops Q' (f+1) listed a w)∧∀ j,j∈Region.ready md ops listed→q j=true→qOp P ops W j (qTo P md ops W Q' q f (listed.setIfInBounds j true)) a
theorem qTo_wp {q:Nat→Bool}:∀ {f:Nat}{listed:Array Bool}{a:Act}{w:World},qTo P md ops W Q' q f listed a→W w→wpAny P md ops Q' f listed a w
  | 0,_,_,_,h,hw => h.2 _ hw
  | _+1,_,_,_,h,hw => h.1 _ hw
theorem qTo_first {q:Nat→Bool}{i:Nat}{oi:Oper}{v:Value}{Cl:Array Bool}(hi:ops[i]?=some oi) (hsel:∀ (j:Nat) (o:Oper) cs b,ops[j]?=some o→o.op≠.select cs b)
    (hsz:Cl.size=ops.size) (hCl:∀ j,j∈Region.ready md ops Cl→j=i) (hq:∀ j,Cl.getD j false=true→q j=true) :
    ∀ (f:Nat) (listed:Array Bool) (a:Act),(∀ j,listed.getD j false=true→Cl.getD j false=true) →
      (∀ j oj,ops[j]?=some oj→j≠i→listed.getD j true=false→(∀ e∈oj.after,Region.binds md e=true→e.on≠i)→oi.apart ops oj=true) →
      i∈Region.ready md ops listed→YieldsIn P ops W oi v a→qTo P md ops W Q' q f (listed.setIfInBounds i true) (a.put oi.dst v)→qTo P md ops W Q' q (f+1) listed a:=by
  have inCl:∀ (listed:Array Bool),(∀ j,listed.getD j false=true→Cl.getD j false=true)→∀ j,j∈Region.ready md ops listed→j≠i→Cl.getD j false=true:=by
    intro listed hsub j hj hji
    cases hc:Cl.getD j false with
    | true => rfl
    | false =>
      obtain⟨_,oj,hoj,hall⟩:=mem_ready.1 hj
      have hlt:j < ops.size:=(Array.getElem?_eq_some_iff.1 hoj).1
      exact absurd (hCl j (mem_ready.2 ⟨getD_in (by omega) hc,oj,hoj,fun e he hb=>hsub _ (hall e he hb)⟩)) hji
  intro f
  induction f with
  | zero =>
    intro listed a hsub _ hr hy H
    have all:∀ j,j∈Region.ready md ops listed→qOp P ops W j (qTo P md ops W Q' q 0 (listed.setIfInBounds j true)) a:=by
      intro j hj
      by_cases hji:j=i
      · subst hji; exact hy.qOp hi H
      · have:=ready_mono hj hji
        rw [H.1] at this; cases this
    exact⟨fun w hw =>⟨fun h=>(by rw [h] at hr; cases hr),fun j hj=>wpOp_of_qOp hw (fun a' w' hw' h=>qTo_wp h hw') (all j hj)⟩,fun j hj _=>all j hj⟩
  | succ f ih =>
    intro listed a hsub hfree hr hy H
    have all:∀ j,j∈Region.ready md ops listed→qOp P ops W j (qTo P md ops W Q' q (f+1) (listed.setIfInBounds j true)) a:=by
      intro j hj
      by_cases hji:j=i
      · subst hji; exact hy.qOp hi H
      · have hjc:=inCl listed hsub j hj hji
        have h1:=H.2 j (ready_mono hj hji) (hq j hjc)
        obtain⟨hjun,oj,hoj,hall⟩:=mem_ready.1 hj
        have hun:=(mem_ready.1 hr).1
        have hnot:∀ e∈oj.after,Region.binds md e=true→e.on≠i:=fun e he hb heq=>by
          have h1:=hall e he hb
          rw [heq,getD_both hun] at h1
          cases h1
        have h2:=qOp_put hoj (hfree j oj hoj hji hjun hnot) (fun cs b=>hsel i oi cs b hi) (fun cs b=>hsel j oj cs b hoj) hy h1
        have hfree':∀ k ok,ops[k]?=some ok→k≠i→(listed.setIfInBounds j true).getD k true=false→(∀ e∈ok.after,Region.binds md e=true→e.on≠i)→oi.apart ops ok=true:=fun k ok hk hki hun hno=>by
          refine hfree k ok hk hki ?_ hno
          by_cases hjk:j=k
          · subst hjk; exact hjun
          · rw [getD_set_ne true hjk] at hun; exact hun
        have hsub':∀ k,(listed.setIfInBounds j true).getD k false=true→Cl.getD k false=true:=fun k hk=>by
          by_cases hjk:j=k
          · subst hjk; exact hjc
          · rw [getD_set_ne false hjk] at hk; exact hsub k hk
        refine qOp_mono (fun a' h3=>ih (listed.setIfInBounds j true) a' hsub' hfree' (ready_mono hr (Ne.symm hji)) h3.1 ?_) h2
        rw [Array.setIfInBounds_comm _ _ hji]
        exact h3.2
    exact⟨fun w hw =>⟨fun h=>(by rw [h] at hr; cases hr),fun j hj=>wpOp_of_qOp hw (fun a' w' hw' h=>qTo_wp h hw') (all j hj)⟩,fun j hj _=>all j hj⟩
def clo (md:Region.Mode) (ops:Array Oper) (i:Nat):Nat→Array Bool→Array Bool
  | 0,l => l
  | f+1,l => clo md ops i f ((Region.ready md ops l).foldl (fun l j => bif Nat.beq j i then l else l.setIfInBounds j true) l)
def subB (a b:Array Bool):Bool:=(List.range a.size).all fun j=>!a.getD j false || b.getD j false
def chkQ (md:Region.Mode) (ops:Array Oper) (n:Nat):Nat→Nat→Array Bool→Bool
  | 0,_,_ => true
  | f+1,k,listed => (Region.ready md ops listed).contains k && Region.free md ops listed k && Nat.beq (clo md ops k 6 listed).size ops.size && (Region.ready md ops (clo md ops k 6 listed)).all (fun j => Nat.beq j k) &&
      (List.range ops.size).all (fun j=>!(clo md ops k 6 listed).getD j false || Nat.ble (j+1) n) && subB listed (clo md ops k 6 listed) && chkQ md ops n f (k+1) (listed.setIfInBounds k true)
theorem qTo_lex {n g:Nat}{lst:Array Bool}(hsel:Region.noSelect ops=true) :
    ∀ (l:List Oper) (k:Nat) (listed:Array Bool) (a:Act),(∀ j,j < l.length→l[j]?=ops[k+j]?)→markTo l.length k listed=lst→chkQ md ops n l.length k listed=true →
      wpQuiet P ops W (qTo P md ops W Q' (fun j=>Nat.ble (j+1) n) g lst) l a→qTo P md ops W Q' (fun j=>Nat.ble (j+1) n) (g+l.length) listed a
  | [],k,listed,a,_,hm,_,h => by
    have:listed=lst:=hm
    subst this
    exact h
  | o :: l,k,listed,a,hl,hm,hB,h => by
    have h0:ops[k]?=some o:=by simpa using (hl 0 (by simp)).symm
    simp only [List.length_cons,chkQ,Bool.and_eq_true] at hB
    obtain⟨⟨⟨⟨⟨⟨hr,hf⟩,hs⟩,hc⟩,hq⟩,hsub⟩,hB'⟩:=hB
    have hr':k∈Region.ready md ops listed:=by simpa using hr
    have hst:qOp P ops W k (wpQuiet P ops W (qTo P md ops W Q' (fun j=>Nat.ble (j+1) n) g lst) l) a:=by unfold qOp; simp only [h0]; exact h
    obtain⟨v,hy,hK⟩:=yieldsIn_of_qOp h0 hst
    have hsz:=Nat.eq_of_beq_eq_true hs
    refine qTo_first h0 (Region.noSelect_spec hsel) hsz (fun j hj => Nat.eq_of_beq_eq_true (List.all_eq_true.1 hc j hj)) (fun j hj => ?_) _ listed a (fun j hj => ?_) (Region.free_spec h0 hf) hr' hy
      (qTo_lex hsel l (k+1) _ _ (fun j hj=>by have:=hl (j+1) (by simp; omega); simpa [Nat.add_assoc,Nat.add_comm 1 j] using this) hm hB' hK)
    · by_cases hjs:j < ops.size
      · have:=List.all_eq_true.1 hq j (List.mem_range.2 hjs)
        rw [hj] at this
        simpa using this
      · rw [Array.getD_eq_getD_getElem?,Array.getElem?_eq_none (by omega)] at hj; cases hj
    · by_cases hjs:j < listed.size
      · have:=List.all_eq_true.1 hsub j (List.mem_range.2 hjs)
        rw [hj] at this
        simpa using this
      · rw [Array.getD_eq_getD_getElem?,Array.getElem?_eq_none (by omega)] at hj; cases hj
end
structure LateOk (P:Program) (c:Code) (p:List Nat) (k m b t:Nat) (listed lst:Array Bool):Prop where
  sel:Region.noSelect (opsOf c p)=true
  le:Nat.ble (k+m) (opsOf c p).size=true
  noStore:((opsOf c p).toList.take (k+m)).all (fun o=>!isStore o.op)=true
  mark:markTo m k listed=lst
  chk:chkQ .any (opsOf c p) (k+m) m k listed=true
  two:Region.ready .any (opsOf c p) lst=[b,t]
  hb:Nat.ble (b+1) (k+m)=true
  ht:Nat.ble (k+m) t=true
  rest:(Region.ready .any (opsOf c p) (lst.setIfInBounds b true)).all (fun j=>Nat.ble (k+m) j)=true
theorem AtD.late {C:Ctx}{p l1:List Nat}{df:List Deferred}{env env1 env2:Env}{bx bx1 bx2:Bx}{hp:List Seg}{S:Base}{ds1 ds2:List Bool}{hs1' hs2':List Hint}{ob1 ob2:Prop}{listed lst:Array Bool}(k m b t g:Nat) (nw:Bool) (ds:List Bool) (hs hs2:List Hint)
    (hok:LateOk C.P C.body p k m b t listed lst) (hl1:List.range' k m=l1)
    (h1:runOps C.P C.nt nw hp S (opsOf C.body p).toList l1 [] ds hs env bx True=⟨[],ds1,hs1',env1,bx1,ob1⟩) (hm1:mild hs=true) (ho1:ob1)
    (h2:runOps C.P C.nt nw hp S (opsOf C.body p).toList [b] [] [] hs2 env1 bx True=⟨[],ds2,hs2',env2,bx2,ob2⟩) (hm2:mild hs2=true) (ho2:ob2)
    (hk1:AtD C p df (g+1) (lst.setIfInBounds b true) env2 bx hp S) (hk2:StepD C p df (g+1) lst env1 bx hp S t):AtD C p df (g+2+m) listed env bx hp S:=by
  subst hl1
  intro w hw tm hsz hkn
  have hle:k+m≤(opsOf C.body p).size:=Nat.le_of_ble_eq_true hok.le
  have hbn:b+1≤k+m:=Nat.le_of_ble_eq_true hok.hb
  have base:∀ tm,tm.size=C.nt→Knows env1 tm→qTo C.P .any (opsOf C.body p) (WOk S bx hp) (Qf C p df) (fun j=>Nat.ble (j+1) (k+m)) (g+2) lst ⟨tm,df⟩:=by
    intro tm hsz hkn
    have hqb:qOp C.P (opsOf C.body p) (WOk S bx hp) b (qTo C.P .any (opsOf C.body p) (WOk S bx hp) (Qf C p df) (fun j=>Nat.ble (j+1) (k+m)) (g+1) (lst.setIfInBounds b true)) ⟨tm,df⟩:=by
      have hr:=runOps_qT (df:=df) (Q:=qTo C.P .any (opsOf C.body p) (WOk S bx hp) (Qf C p df) (fun j=>Nat.ble (j+1) (k+m)) (g+1) (lst.setIfInBounds b true)) 1 b [] [] hs2 env1 bx True _ (by
        have:=hok.noStore
        rw [List.all_eq_true] at this ⊢
        intro o ho
        exact this o ((List.take_sublist_take_left (by omega)).mem ho)) (by omega) h2 rfl hm2 ho2
        (fun tm hsz hkn =>⟨fun w hw=>hk1 w hw tm hsz hkn,fun j hj hq=>by
          have h3:=Nat.le_of_ble_eq_true (List.all_eq_true.1 hok.rest j hj)
          have h4:=Nat.le_of_ble_eq_true hq
          omega⟩)
      have h5:=hr.2.2 tm hsz hkn
      have hlt:b < (opsOf C.body p).size:=by omega
      have hdr:((opsOf C.body p).toList.drop b).take 1=[(opsOf C.body p)[b]]:=by
        rw [List.drop_eq_getElem_cons (by simpa using hlt)]; simp
      rw [hdr] at h5
      unfold qOp
      simp only [Array.getElem?_eq_getElem hlt]
      exact h5
    have all:∀ j,j∈[b,t]→∀ w,WOk S bx hp w→wpOp C.P (opsOf C.body p) (Qf C p df) j (wpAny C.P .any (opsOf C.body p) (Qf C p df) (g+1) (lst.setIfInBounds j true)) ⟨tm,df⟩ w:=by
      intro j hj w hw
      simp only [List.mem_cons,List.not_mem_nil,or_false] at hj
      rcases hj with rfl | rfl
      · exact wpOp_of_qOp hw (fun a' w' hw' h=>qTo_wp h hw') hqb
      · exact hk2 w hw tm hsz hkn
    refine⟨fun w hw=>wpAny_all hok.two (by simp) (fun j hj=>all j hj w hw),fun j hj hq=>?_⟩
    rw [hok.two] at hj
    simp only [List.mem_cons,List.not_mem_nil,or_false] at hj
    rcases hj with rfl | rfl
    · exact hqb
    · have h3:=Nat.le_of_ble_eq_true hok.ht
      have h4:=Nat.le_of_ble_eq_true hq
      omega
  have hr:=runOps_qT (df:=df) (Q:=qTo C.P .any (opsOf C.body p) (WOk S bx hp) (Qf C p df) (fun j=>Nat.ble (j+1) (k+m)) (g+2) lst) m k [] ds hs env bx True _ hok.noStore hle h1 rfl hm1 ho1 base
  have hq:=hr.2.2 tm hsz hkn
  have htl:(((opsOf C.body p).toList.drop k).take m).length=m:=by simp; omega
  have H:=qTo_lex (P:=C.P) (md:=.any) (Q':=Qf C p df) (W:=WOk S bx hp) (n:=k+m) (g:=g+2) (lst:=lst) hok.sel (((opsOf C.body p).toList.drop k).take m) k listed ⟨tm,df⟩ (fun j hj=>by
    rw [htl] at hj
    rw [List.getElem?_take_of_lt hj,List.getElem?_drop]; simp) (by rw [htl]; exact hok.mark) (by rw [htl]; exact hok.chk) hq
  rw [htl] at H
  exact qTo_wp H hw
theorem OpOk.storeBlk {C:Ctx}{env:Env}{bx:Bx}{hp:List Seg}{S:Base}{o:Oper}{K:Value→Bx→List Seg→Prop}{t t':TypeId}{x y:Operand}{v:Value}{l cs:List Value}{b off:Nat}{ob:Prop}(i:Nat)
    (ho:o.op=.store t x y) (hx:Env.ev env x=some (.pointer (some ⟨b,off,none⟩))) (hy:Env.ev env y=some v) (hc:cellsT C.P t v=some (l,ob)) (hob:ob) (hi:nth bx i=some (b,t',cs)) (hl:off+l.length≤cs.length)
    (hk:K undef (setL bx i (b,t',putL cs off l)) hp):OpOk C o env bx hp S K:=by
  intro w hw ρ hρ
  have hb:w.heap[b]?=some (.cells cs.toArray t' (0,0)):=hw.bx _ (nth_mem hi)
  have hst:=cellsT_store (P:=C.P) hc hob hb hl
  refine .inl ⟨undef,_,_,hp,.inr ⟨?_,rfl⟩,hw.setBlk hi (w':=w.setRow b (putL cs off l).toArray) rfl rfl rfl (by simp) (setRow_heap w b _ _ t' (0,0) hb) (fun k hk=>setRow_other w b k _ hk),hk⟩
  unfold execOp; simp only [ho,hρ _ _ hx,hρ _ _ hy,Sem.run_bind,hst,Result.andThen_ok,Sem.run_pure]
end Go.Eng

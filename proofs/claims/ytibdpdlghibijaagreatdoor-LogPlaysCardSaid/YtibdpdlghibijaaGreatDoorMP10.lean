/-
  Engine, part 16: regions that draw their order: what leaves the world alone comes first, in whatever order, and a tail behind it.
-/
import Derived.Test.YtibdpdlghibijaaGreatDoorMP6
import Derived.StillTail
namespace Go.Eng
open Go
section
variable {P:Program}{ops:Array Oper}{md:Region.Mode}{W:World→Prop}
def qHead (P:Program) (md:Region.Mode) (ops:Array Oper) (W:World→Prop) (n:Nat) (L:Array Bool→Act→Prop):Nat→Array Bool→Act→Prop
  | 0,listed,a => L listed a
  | f+1,listed,a => Region.ready md ops listed≠[]∧∀ i∈Region.ready md ops listed,i < n∧qOp P ops W i (qHead P md ops W n L f (listed.setIfInBounds i true)) a
theorem wpAny_of_qHead {n g:Nat}{L:Array Bool→Act→Prop}{Q':Exit→Act→World→Prop}(hL:∀ listed a w,W w→L listed a→wpAny P md ops Q' g listed a w) :
    ∀ (f:Nat) (listed:Array Bool) (a:Act) (w:World),W w→qHead P md ops W n L f listed a→wpAny P md ops Q' (f+g) listed a w
  | 0,listed,a,w,hw,h => by rw [Nat.zero_add]; exact hL _ _ _ hw h
  | f+1,listed,a,w,hw,h => by
    rw [show f+1+g=(f+g)+1 by omega]
    exact⟨fun h0=>absurd h0 h.1,fun i hi=>wpOp_of_qOp hw (fun a' w' hw' h'=>wpAny_of_qHead hL f _ a' w' hw' h') (h.2 i hi).2⟩
theorem qHead_first {n i:Nat}{oi:Oper}{v:Value}{L:Array Bool→Act→Prop}(hi:ops[i]?=some oi) (hsel:∀ (j:Nat) (o:Oper) cs b,ops[j]?=some o→o.op≠.select cs b)
    (hs:Region.sinkB md ops n=true) (hc:Region.chainB md ops n=true) (hn:n < ops.size) (hin:i < n) (hdone:∀ listed a,L listed a→∀ j∈Region.ready md ops listed,n≤j) :
    ∀ (f:Nat) (listed:Array Bool) (a:Act),HeadInv md ops n listed →
      (∀ j oj,ops[j]?=some oj→j≠i→listed.getD j true=false→(∀ e∈oj.after,Region.binds md e=true→e.on≠i)→oi.apart ops oj=true) →
      i∈Region.ready md ops listed→YieldsIn P ops W oi v a→qHead P md ops W n L f (listed.setIfInBounds i true) (a.put oi.dst v)→qHead P md ops W n L (f+1) listed a:=by
  intro f
  induction f with
  | zero =>
    intro listed a inv _ hr hy H
    have hun:=(mem_ready.1 hr).1
    refine⟨fun h=>(by rw [h] at hr; cases hr),fun j hj=>?_⟩
    have hjn:j < n:=by
      rcases Nat.lt_or_ge j n with h | h
      · exact h
      · exact absurd hj (tail_waits hs hc hn inv _ i rfl hin hun j h)
    refine⟨hjn,?_⟩
    by_cases hji:j=i
    · subst hji; exact hy.qOp hi H
    · have:=hdone _ _ H j (ready_mono hj hji)
      omega
  | succ f ih =>
    intro listed a inv hfree hr hy H
    have hun:=(mem_ready.1 hr).1
    refine⟨fun h=>(by rw [h] at hr; cases hr),fun j hj=>?_⟩
    have hjn:j < n:=by
      rcases Nat.lt_or_ge j n with h | h
      · exact h
      · exact absurd hj (tail_waits hs hc hn inv _ i rfl hin hun j h)
    refine⟨hjn,?_⟩
    by_cases hji:j=i
    · subst hji; exact hy.qOp hi H
    · have h1:=(H.2 j (ready_mono hj hji)).2
      obtain⟨hjun,oj,hoj,hall⟩:=mem_ready.1 hj
      have hnot:∀ e∈oj.after,Region.binds md e=true→e.on≠i:=fun e he hb heq=>by
        have h1:=hall e he hb
        rw [heq,getD_both hun] at h1
        cases h1
      have h2:=qOp_put hoj (hfree j oj hoj hji hjun hnot) (fun cs b=>hsel i oi cs b hi) (fun cs b=>hsel j oj cs b hoj) hy h1
      have hfree':∀ k ok,ops[k]?=some ok→k≠i→(listed.setIfInBounds j true).getD k true=false→(∀ e∈ok.after,Region.binds md e=true→e.on≠i)→oi.apart ops ok=true:=fun k ok hk hki hun hno=>by
        refine hfree k ok hk hki ?_ hno
        by_cases hjk:j=k
        · subst hjk; exact hjun
        · rw [getD_set_ne true hjk] at hun; exact hun
      refine qOp_mono (fun a' h3=>ih (listed.setIfInBounds j true) a' (inv.set hj hjn) hfree' (ready_mono hr (Ne.symm hji)) h3.1 ?_) h2
      rw [Array.setIfInBounds_comm _ _ hji]
      exact h3.2
def markTo:Nat→Nat→Array Bool→Array Bool
  | 0,_,l => l
  | f+1,k,l => markTo f (k+1) (l.setIfInBounds k true)
def lexHd (md:Region.Mode) (ops:Array Oper) (n:Nat):Nat→Nat→Array Bool→Bool
  | 0,_,listed => (Region.ready md ops listed).all fun j => Nat.ble n j
  | f+1,k,listed => (Region.ready md ops listed).contains k && Region.free md ops listed k && lexHd md ops n f (k+1) (listed.setIfInBounds k true)
theorem lexHd_done {n:Nat}:∀ (f k:Nat) (listed:Array Bool),lexHd md ops n f k listed=true→∀ j∈Region.ready md ops (markTo f k listed),n≤j
  | 0,k,listed,h => by
    intro j hj
    have:=List.all_eq_true.1 h j hj
    exact Nat.le_of_ble_eq_true this
  | f+1,k,listed,h => by
    simp only [lexHd,Bool.and_eq_true] at h
    exact lexHd_done f (k+1) _ h.2
theorem qHead_lex {n:Nat}{Lq:Act→Prop}{lst:Array Bool}(hsel:Region.noSelect ops=true) (hs:Region.sinkB md ops n=true) (hc:Region.chainB md ops n=true) (hn:n < ops.size) (hdone:∀ j∈Region.ready md ops lst,n≤j) :
    ∀ (l:List Oper) (k:Nat) (listed:Array Bool) (a:Act),(∀ j,j < l.length→l[j]?=ops[k+j]?)→k+l.length=n→markTo l.length k listed=lst→HeadInv md ops n listed →
    lexHd md ops n l.length k listed=true→wpQuiet P ops W Lq l a→qHead P md ops W n (fun listed' a'=>listed'=lst∧Lq a') l.length listed a
  | [],k,listed,a,_,_,hm,_,_,h =>⟨hm,h⟩
  | o :: l,k,listed,a,hl,hk,hm,inv,hB,h => by
    have h0:ops[k]?=some o:=by simpa using (hl 0 (by simp)).symm
    simp only [List.length_cons,lexHd,Bool.and_eq_true] at hB
    obtain⟨⟨hr,hf⟩,hB'⟩:=hB
    have hkn:k < n:=by simp only [List.length_cons] at hk; omega
    have hr':k∈Region.ready md ops listed:=by simpa using hr
    have hst:qOp P ops W k (wpQuiet P ops W Lq l) a:=by unfold qOp; simp only [h0]; exact h
    obtain⟨v,hy,hK⟩:=yieldsIn_of_qOp h0 hst
    exact qHead_first h0 (Region.noSelect_spec hsel) hs hc hn hkn (fun listed' a' hL => by rw [hL.1]; exact hdone) l.length listed a inv (Region.free_spec h0 hf) hr' hy
      (qHead_lex hsel hs hc hn hdone l (k+1) _ _ (fun j hj=>by have:=hl (j+1) (by simp; omega); simpa [Nat.add_assoc,Nat.add_comm 1 j] using this) (by simp only [List.length_cons] at hk; omega) hm (inv.set hr' hkn) hB' hK)
end
theorem runOps_qT {P:Program}{nt:Nat}{nw:Bool}{hp:List Seg}{S:Base}{ops:Array Oper}{df:List Deferred}{Q:Act→Prop} :
    ∀ (n k:Nat) (dec:List (Nat × Bool)) (ds:List Bool) (hs:List Hint) (env:Env) (bx:Bx) (ob:Prop) (r:R),(ops.toList.take (k+n)).all (fun o => !isStore o.op)=true→k+n≤ops.size →
      runOps P nt nw hp S ops.toList (List.range' k n) dec ds hs env bx ob=r→r.l=[]→mild hs=true→r.ob →
      (∀ tm,tm.size=nt→Knows r.env tm→Q ⟨tm,df⟩)→ob∧r.bx=bx∧∀ tm,tm.size=nt→Knows env tm→wpQuiet P ops (WOk S bx hp) Q ((ops.toList.drop k).take n) ⟨tm,df⟩
  | 0,k,dec,ds,hs,env,bx,ob,r,hns,hk,h,hl,hm,ho,hQ => by
    simp only [List.range',runOps] at h
    subst h
    refine⟨ho,rfl,fun tm hsz hkn=>?_⟩
    rw [List.take_zero]
    exact wpQuiet_nil (hQ tm hsz hkn)
  | n+1,k,dec,ds,hs,env,bx,ob,r,hns,hk,h,hl,hm,ho,hQ => by
    simp only [List.range',runOps] at h
    split at h
    · subst h; simp at hl
    · rename_i o hn
      rw [nth_eq] at hn
      have hi:ops[k]?=some o:=by simpa using hn
      have hdrop:(ops.toList.drop k).take (n+1)=o :: (ops.toList.drop (k+1)).take n:=by
        rw [List.drop_eq_getElem_cons (by simp; omega),List.take_succ_cons]
        congr 1
        exact (List.getElem?_eq_some_iff.1 hn).2
      have hns':(ops.toList.take (k+1+n)).all (fun o=>!isStore o.op)=true:=by rw [show k+1+n=k+(n+1) by omega]; exact hns
      have hos:isStore o.op=false:=by
        have hmem:o∈ops.toList.take (k+(n+1)):=List.mem_of_getElem? (i:=k) (by rw [List.getElem?_take_of_lt (by omega)]; exact hn)
        have:=List.all_eq_true.1 hns o hmem
        simpa using this
      split at h
      · subst h; simp at hl
      · rename_i hfit
        split at h
        · subst h; simp at hl
        · rename_i wanted dec' ds' o1 hg
          obtain⟨ob1,hob1,himp1⟩:=addG_ok ob hg
          rw [hob1] at h
          cases wanted with
          | false =>
            simp only [putK_eq] at h
            have ih:=runOps_qT (df:=df) (Q:=Q) n (k+1) _ _ _ _ _ _ r hns' (by omega) h hl hm ho hQ
            obtain⟨h12,hb,h3⟩:=ih
            obtain⟨h1,h2⟩:=himp1 h12
            refine⟨h2,hb,fun tm hsz hkn=>?_⟩
            rw [hdrop]
            unfold wpQuiet
            rw [if_neg (by rw [show (Act.mk tm df).tmps=tm from rfl,guardOf_ok hg h1 hkn]; simp),put_act]
            exact h3 _ (by rw [size_put]; exact hsz) (hkn.putE hsz hfit _)
          | true =>
            simp only at h
            split at h
            · subst h; simp at hl
            · rename_i v ds'' hs'' bx'' o2 ho1
              obtain⟨ob2,hob2,himp2⟩:=addOb_ok (b:=triv P nw o.op) (o:=o2) ob1 (fun ht=>triv_ok ho1 ht)
              rw [hob2] at h
              have h':runOps P nt nw hp S ops.toList (List.range' (k+1) n) dec' ds'' hs'' (putE o.dst v env) bx'' ob2=r:=by
                cases hfc:forced o.op with
                | true => rw [hfc] at h; simp only [forceV_eq,putK_eq] at h; exact h
                | false => rw [hfc] at h; simp only [putK_eq] at h; exact h
              have hq:o2→bx''=bx∧mild hs''=true∧∀ w,WOk S bx hp w→∀ ρ,Agree env ρ→(execOp ρ o).run P w=.ok (.value v) w∨(∃ f args,(execOp ρ o).run P w=.ok (.enter f args) w∧Calls P f args w (fun e w'=>e=.returned v∧WOk S bx hp w')) :=
                fun h2=>one1_q ho1 h2 hos hm
              have hmild:mild hs''=true:=mild_of ho1 hm
              have ih:=runOps_qT (df:=df) (Q:=Q) n (k+1) _ _ _ _ _ _ r hns' (by omega) h' hl hmild ho hQ
              obtain⟨h012,hb,h3⟩:=ih
              obtain⟨h0,h12⟩:=himp2 h012
              obtain⟨h1,h2⟩:=himp1 h12
              obtain⟨rfl,-,hall⟩:=hq h0
              refine⟨h2,hb,fun tm hsz hkn=>?_⟩
              rw [hdrop]
              unfold wpQuiet
              rw [if_pos (by rw [show (Act.mk tm df).tmps=tm from rfl,guardOf_ok hg h1 hkn])]
              refine⟨v,fun w hw=>?_,by rw [put_act]; exact h3 _ (by rw [size_put]; exact hsz) (hkn.putE hsz hfit _)⟩
              unfold Oper.quietAt
              rw [eval_fev]
              rcases hall w hw _ hkn.agree with hr | ⟨f,args,hr,hc⟩
              · rw [hr]; exact⟨rfl,rfl⟩
              · rw [hr]; exact⟨rfl,hc⟩
structure TailOk (P:Program) (c:Code) (p:List Nat) (n:Nat):Prop where
  mixed:P.follows .mixedOrders=true
  sel:Region.noSelect (opsOf c p)=true
  lt:Nat.ble (n+1) (opsOf c p).size=true
  sink:Region.sinkB .any (opsOf c p) n=true
  chain:Region.chainB .any (opsOf c p) n=true
  lex:lexHd .any (opsOf c p) n n 0 (Array.replicate (opsOf c p).size false)=true
  draw:isDraw c p=true
  noStore:((opsOf c p).toList.take n).all (fun o=>!isStore o.op)=true
  noDef:noDefer (opsOf c p)=true
theorem At.quietT {C:Ctx}{p l l0:List Nat}{df:List Deferred}{env env':Env}{bx bx':Bx}{hp:List Seg}{S:Base}{ds':List Bool}{hs':List Hint}{ob:Prop}(n g:Nat) (nw:Bool) (ds:List Bool) (hs:List Hint) (hok:TailOk C.P C.body p n)
    (hl0:List.range n=l0) (h:runOps C.P C.nt nw hp S (opsOf C.body p).toList l0 [] ds hs env bx True=⟨[],ds',hs',env',bx',ob⟩) (hm:mild hs=true) (ho:ob) (hg:(opsOf C.body p).size=n+g)
    (hk:AtD C p df g (markTo n 0 (Array.replicate (opsOf C.body p).size false)) env' bx hp S):At C ⟨0,p,l⟩ df env bx hp S:=by
  subst hl0
  refine At.ofAny hok.draw hok.mixed hok.noDef (fun w hw tm hsz hkn=>?_)
  have hn:n < (opsOf C.body p).size:=Nat.le_of_ble_eq_true hok.lt
  rw [List.range_eq_range'] at h
  have hr:=runOps_qT (df:=df) (Q:=fun a => a.defers=df∧a.tmps.size=C.nt∧∃ tm,a=⟨tm,df⟩∧Knows env' tm) n 0 [] ds hs env bx True _ (by rw [Nat.zero_add]; exact hok.noStore) (by omega) h rfl hm ho
    (fun tm hsz hkn =>⟨rfl,hsz,tm,rfl,hkn⟩)
  have hq:=hr.2.2 tm hsz hkn
  rw [List.drop_zero] at hq
  have htl:((opsOf C.body p).toList.take n).length=n:=by simp; omega
  have inv0:HeadInv .any (opsOf C.body p) n (Array.replicate (opsOf C.body p).size false) :=
    ⟨by simp,fun j oj _ hl=>(by rw [getD_replicate_false] at hl; cases hl),fun t _ ht=>getD_in (by simpa using ht) (getD_replicate_false _ _)⟩
  have H:=qHead_lex (P:=C.P) (W:=WOk S bx hp) (md:=.any) (lst:=markTo n 0 (Array.replicate (opsOf C.body p).size false)) hok.sel hok.sink hok.chain hn (lexHd_done _ _ _ hok.lex) ((opsOf C.body p).toList.take n) 0 _ ⟨tm,df⟩ (fun j hj=>by
    have hj':j < n:=by rw [htl] at hj; exact hj
    simp [hj']) (by simpa using htl) (by rw [htl]) inv0 (by rw [htl]; exact hok.lex) hq
  rw [htl] at H
  have hfin:=wpAny_of_qHead (Q':=Qf C p df) (g:=g) (fun listed a w hw hL=>by
    obtain⟨rfl,-,hs2,tm',rfl,hkn'⟩:=hL
    exact hk w hw tm' hs2 hkn') n _ _ w hw H
  rw [hg]; rw [hg] at hfin; exact hfin
theorem At.retK {P:Program}{f:FuncId}{fn:Func}{w0:World}{m:List Nat}{Q:Value→Bx→List Seg→Prop}{x:Loc}{env:Env}{bx bx':Bx}{hp hp':List Seg}(mb mh:List Bool) (hs:List Hint)
    (hsel:forceL (selL mb bx) (fun a=>forceL (selL mh hp) fun b=>(a,b))=(bx',hp'))
    (he:atEnd (fn.body.getD .skip) x=true) (hf:P.funcs[f]?=some fn) {vs:List Value}{ob:Prop}(h:resL P hp ⟨w0,m⟩ env bx fn.results.toList hs=some (vs,ob)) (ho:ob) (hQ:Q (tupV vs) bx' hp') :
    At (triCtx P f fn w0 m Q) x [] env bx hp ⟨w0,m⟩:=by
  intro w hw tm hsz hk cs
  have hres:=run_results (P:=P) (resL_ok hw hk _ _ _ _ h ho)
  have hsub:∀ k,k∈kys bx' hp'→k∈kys bx hp:=by
    simp only [forceL_eq,Prod.mk.injEq] at hsel
    obtain⟨rfl,rfl⟩:=hsel
    intro k hk'
    exact (kys_perm (selL_perm mb bx) (selL_perm mh hp)).mem_iff.2 (List.mem_append_left _ hk')
  have hR:TriR w0 m Q (.returned (tupV vs)) w:=⟨_,bx',hp',rfl,hQ,hw.ext,hw.toOwn.sel mb mh hsel,fun k hk'=>hw.own k (hsub k hk')⟩
  obtain⟨t,p,l⟩:=x
  match t,he with
  | 0,he =>
    have hsub:sub (fn.body.getD .skip) p=.ret:=by
      simp only [atEnd,isRet] at he
      split at he
      · assumption
      · cases he
    have hst:=s_ret (C:=triCtx P f fn w0 m Q) (tm:=tm) (k:=kont (fn.body.getD .skip) [] p) (cs:=cs) (w:=w) rfl
    refine (triCtx P f fn w0 m Q).back _ _ _ (by simpa [items,triCtx,fnCtx,hsub] using hst) ?_
    exact⟨_,_,_,hR,Steps.refl _ _,rfl,rfl,rfl,rfl,fn,hf,hres⟩
  | 1,he =>
    have hp0:p=[]:=by
      simp only [atEnd] at he
      split at he
      · rfl
      · cases he
    subst hp0
    have hst:=s_end (C:=triCtx P f fn w0 m Q) (tm:=tm) (cs:=cs) (w:=w) rfl
    refine (triCtx P f fn w0 m Q).back _ _ _ (by simpa [items,triCtx,fnCtx,kont] using hst) ?_
    exact⟨_,_,_,hR,Steps.refl _ _,rfl,rfl,rfl,rfl,fn,hf,hres⟩
  | 2,he => simp [atEnd] at he
  | t+3,he => simp [atEnd] at he
theorem AtD.cut {ι:Type}{C:Ctx}{p:List Nat}{df:List Deferred}{fuel0:Nat}{listed0:Array Bool}{env0:Env}{bx0:Bx}{hp:List Seg}{S:Base}(fuel:Nat) (listed:Array Bool) (e:ι→Env) (b:ι→Bx)
    (hs:∀ i,AtD C p df fuel listed (e i) (b i) hp S) (hk:(∀ i,AtD C p df fuel listed (e i) (b i) hp S)→AtD C p df fuel0 listed0 env0 bx0 hp S):AtD C p df fuel0 listed0 env0 bx0 hp S:=hk hs
theorem AtD.weak {C:Ctx}{p:List Nat}{df:List Deferred}{fuel:Nat}{listed:Array Bool}{env env':Env}{bx:Bx}{hp:List Seg}{S:Base}(hk:AtD C p df fuel listed env' bx hp S) (h:Sub env' env):AtD C p df fuel listed env bx hp S :=
  fun w hw tm hs hkn=>hk w hw tm hs (hkn.sub h)
theorem WOk.permB {S:Base}{bx br:Bx}{hp hr:List Seg}{w:World}(h:WOk S bx hp w) (hb:bx.Perm br) (hh:hp.Perm hr):WOk S br hr w:=by
  have hk:=kys_perm (bx2:=[]) (hp2:=[]) (by simpa using hb) (by simpa using hh)
  have hk2:(kys bx hp).Perm (kys br hr):=by simpa [kys] using hk
  exact⟨h.ext,hk2.nodup_iff.1 h.nd,fun k hk'=>h.lt k (hk2.mem_iff.2 hk'),fun k hk'=>h.own k (hk2.mem_iff.2 hk'),fun e he=>h.bx e (hb.mem_iff.2 he),fun s hs=>h.hp s (hh.mem_iff.2 hs)⟩
end Go.Eng

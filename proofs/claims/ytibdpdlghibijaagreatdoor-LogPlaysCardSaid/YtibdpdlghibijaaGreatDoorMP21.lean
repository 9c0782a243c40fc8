/-
  Engine, part 35: regions that draw their order, in which a block is made at whatever place: the reads come first.
-/
import Derived.Test.YtibdpdlghibijaaGreatDoorMP12
import Derived.OrdersHeld
namespace Go.Eng
open Go
def calm (hs:List Hint):Bool:=hs.all fun h=>Nat.ble h.k 1
theorem one1_n {P:Program}{nw:Bool}{hp:List Seg}{S:Base}{o:Oper}{dec:List (Nat × Bool)}{ds ds':List Bool}{hs hs':List Hint}{env:Env}{bx bx':Bx}{v:Value}{ob:Prop}
    (h:one1 P nw hp S o.op dec ds hs env bx=some (v,ds',hs',bx',ob)) (ho:ob) (hst:isStore o.op=false) (hm:calm hs=true):bx'=bx∧∀ w,WOk S bx hp w→∀ ρ,Agree env ρ →
      (execOp ρ o).run P w=.ok (.value v) w:=by
  unfold one1 at h
  split at h
  · rename_i c a b hop
    split at h
    · rename_i u ds'' o' hpk
      simp only [Option.some.injEq,Prod.mk.injEq] at h
      obtain⟨rfl,-,rfl,rfl,rfl⟩:=h
      refine⟨rfl,fun w hw ρ hρ=>?_⟩
      obtain⟨x,hx,hv⟩:=pick1_ok hpk ho hρ
      simp [execOp,hop,hx,asBool,← hv]
    · cases h
  · rename_i t x hop
    split at h
    · rename_i b off hx
      split at h
      · skip
        split at h
        · split at h
          · rename_i b' t' cs hn
            split at h
            · split at h
              · rename_i u hval
                rw [forceA_eq] at h
                simp only [Option.some.injEq,Prod.mk.injEq] at h
                obtain⟨rfl,-,rfl,rfl,rfl⟩:=h
                subst ho
                refine⟨rfl,fun w hw ρ hρ=>?_⟩
                have hb:=hw.bx _ (nth_mem hn)
                have hl:=valT_load (P:=P) (w:=w) (b:=b) (o:=off) hval (fun j u hu=>cell_known hb hu)
                simp [execOp,hop,hρ _ _ hx,hl]
              · cases h
            · cases h
          · cases h
        · split at h
          · rename_i n hlen
            revert h
            cases hb:Nat.beq (List.length _) n with
            | false => intro h; cases h
            | true =>
              intro h
              simp only [cond_true] at h
              split at h
              · rename_i u hval
                simp only [Option.some.injEq,Prod.mk.injEq] at h
                obtain⟨rfl,-,rfl,rfl,rfl⟩:=h
                refine⟨rfl,fun w hw ρ hρ=>?_⟩
                have hl:=valT_load (P:=P) (w:=w) (b:=b) (o:=off) hval (fun j u hu=>ho w hw j u hu)
                simp [execOp,hop,hρ _ _ hx,hl]
              · cases h
          · cases h
        · split at h
          · simp only [Option.some.injEq,Prod.mk.injEq] at h
            obtain⟨rfl,-,rfl,rfl,rfl⟩:=h
            obtain⟨cs,hr,hv⟩:=ho
            refine⟨rfl,fun w hw ρ hρ=>?_⟩
            have hl:=valT_load (P:=P) (w:=w) (b:=b) (o:=off) hv (fun j u hu=>hr w hw j u hu)
            simp [execOp,hop,hρ _ _ hx,hl]
          · cases h
        · cases h
      · cases h
    · cases h
  · rename_i t x y hop
    rw [hop] at hst; cases hst
  · rename_i t x y ok hop
    split at h
    · rename_i xv hx
      split at h
      · rename_i yv hy
        split at h
        · skip
          split at h
          · split at h
            · simp only [Option.some.injEq,Prod.mk.injEq] at h
              obtain⟨rfl,-,rfl,rfl,rfl⟩:=h
              refine⟨rfl,fun w hw ρ hρ=>?_⟩
              simp [execOp,hop,hρ _ _ hx,hρ _ _ hy,ho w hw]
            · cases h
          · cases h
        · cases h
      · cases h
    · cases h
  · rename_i c hop
    split at h
    · rename_i fv hcal
      split at h
      · rename_i fn fi ca hfv
        split at h
        · rename_i f
          split at h
          · rename_i as has
            split at h
            · skip
              split at h
              · split at h
                · simp [calm] at hm
                · simp [calm] at hm
                · simp [calm] at hm
                · cases h
              · cases h
            · cases h
          · cases h
        · cases h
      · cases h
    · split at h
      · rename_i u o' hp1
        simp only [Option.some.injEq,Prod.mk.injEq] at h
        obtain⟨rfl,-,rfl,rfl,rfl⟩:=h
        exact⟨rfl,fun w hw ρ hρ=>pure1_ok hp1 ho hρ⟩
      · cases h
  · split at h
    · rename_i u o' hp1
      simp only [Option.some.injEq,Prod.mk.injEq] at h
      obtain⟨rfl,-,rfl,rfl,rfl⟩:=h
      exact⟨rfl,fun w hw ρ hρ=>pure1_ok hp1 ho hρ⟩
    · cases h
theorem one1_bx {P:Program}{nw:Bool}{hp:List Seg}{S:Base}{o:Oper}{dec:List (Nat × Bool)}{ds ds':List Bool}{hs hs':List Hint}{env:Env}{bx bx':Bx}{v:Value}{ob:Prop}
    (h:one1 P nw hp S o.op dec ds hs env bx=some (v,ds',hs',bx',ob)) (hst:isStore o.op=false) (hm:calm hs=true):bx'=bx:=by
  unfold one1 at h
  simp only [forceL_eq,forceN_eq,forceA_eq,cond_eq_ite] at h
  repeat' split at h
  all_goals first
    | (cases h; done)
    | (rename_i hop _; rw [hop] at hst; cases hst; done)
    | (simp only [Option.some.injEq,Prod.mk.injEq] at h
       obtain⟨-,-,-,rfl,-⟩:=h
       first | rfl | (simp [calm] at hm; done) | simp_all [isStore])
theorem calm_of {P:Program}{nw:Bool}{hp:List Seg}{S:Base}{op:Op}{dec:List (Nat × Bool)}{ds ds':List Bool}{hs hs':List Hint}{env:Env}{bx bx':Bx}{v:Value}{ob:Prop}
    (h:one1 P nw hp S op dec ds hs env bx=some (v,ds',hs',bx',ob)) (hm:calm hs=true):calm hs'=true:=by
  rcases one1_tail h with rfl | ⟨x,rfl⟩
  · exact hm
  · simp only [calm,List.all_cons,Bool.and_eq_true] at hm; exact hm.2
def AtH (C:Ctx) (p:List Nat) (df:List Deferred) (T:World→Prop) (fuel:Nat) (listed:Array Bool) (env:Env) (bx:Bx) (hp:List Seg) (S:Base):Prop :=
  ∀ w,WOk S bx hp w→T w→∀ tm,tm.size=C.nt→Knows env tm→wpAnyH C.P .any (opsOf C.body p) (Qf C p df) T fuel listed ⟨tm,df⟩ w
theorem AtH.done {C:Ctx}{p:List Nat}{df:List Deferred}{T:World→Prop}{listed:Array Bool}{env:Env}{bx:Bx}{hp:List Seg}{S:Base}(hr:Region.ready .any (opsOf C.body p) listed=[]) (h:At C ⟨1,p,[]⟩ df env bx hp S) :
    AtH C p df T 0 listed env bx hp S:=fun w hw _ tm hs hkn =>⟨hr,rfl,rfl,hs,fun cs=>h w hw tm hs hkn cs⟩
theorem AtH.fork1 {C:Ctx}{p:List Nat}{df:List Deferred}{T:World→Prop}{fuel:Nat}{listed:Array Bool}{env:Env}{bx:Bx}{hp:List Seg}{S:Base}(i:Nat) {o:Oper}(hr:Region.ready .any (opsOf C.body p) listed=[i]) (ho:opAt C.body p i=some o) (hfit:fits C.nt o.dst=true) (hg:o.guard=none)
    (h:OpOk C o env bx hp S (fun v bx' hp'=>(∀ w,WOk S bx' hp' w→T w)∧AtH C p df T fuel (listed.setIfInBounds i true) (putE o.dst v env) bx' hp' S)):AtH C p df T (fuel+1) listed env bx hp S:=by
  intro w hw _ tm hs hkn
  refine⟨fun h0=>(by rw [h0] at hr; cases hr),fun j hj=>?_⟩
  rw [hr,List.mem_singleton] at hj
  subst hj
  have hi:(opsOf C.body p)[j]?=some o:=by
    unfold opAt at ho; unfold opsOf
    split at ho
    · rename_i hs'; rw [hs']; rw [nth_eq] at ho; simpa using ho
    · cases ho
  unfold wpOp
  simp only [hi,show Region.wanted o (yielded (opsOf C.body p) (Act.mk tm df).tmps)=true by simp [Region.wanted,hg],if_true]
  left
  unfold Oper.wp
  rw [eval_fev]
  rcases h w hw _ hkn.agree with⟨v,w',bx',hp',hr | ⟨hr,rfl⟩,hok,hK⟩ | ⟨f,args,w1,hr,hc⟩
  · rw [hr]; simp only [Oper.upon]; rw [put_act]
    exact⟨hK.1 w' hok,hK.2 w' hok (hK.1 w' hok) _ (by rw [size_put]; exact hs) (hkn.putE hs hfit v)⟩
  · rw [hr]; simp only [Oper.upon]; rw [put_act]
    exact⟨hK.1 w' hok,hK.2 w' hok (hK.1 w' hok) _ (by rw [size_put]; exact hs) (hkn.putE hs hfit undef)⟩
  · rw [hr]
    simp only [Oper.upon]
    refine hc.mono ?_
    rintro e w' ⟨u,rfl,bx',hp',hok,hK⟩
    simp only
    rw [put_act]
    exact⟨hK.1 w' hok,hK.2 w' hok (hK.1 w' hok) _ (by rw [size_put]; exact hs) (hkn.putE hs hfit u)⟩
def bare (ops:Array Oper) (is:List Nat):Bool:=is.all fun i => match ops[i]? with
  | some o => o.guard.isNone && !isStore o.op
  | none => false
theorem AtH.forks {C:Ctx}{p:List Nat}{df:List Deferred}{T:World→Prop}{fuel:Nat}{listed:Array Bool}{env:Env}{bx:Bx}{hp:List Seg}{S:Base}(rs:List Nat) (hr:Region.ready .any (opsOf C.body p) listed=rs) (hne:rs≠[])
    (h:∀ i,i∈rs→∃ o,opAt C.body p i=some o∧fits C.nt o.dst=true∧o.guard=none∧OpOk C o env bx hp S (fun v bx' hp'=>(∀ w,WOk S bx' hp' w→T w)∧AtH C p df T fuel (listed.setIfInBounds i true) (putE o.dst v env) bx' hp' S)):AtH C p df T (fuel+1) listed env bx hp S:=by
  intro w hw _ tm hs hkn
  refine⟨fun h0=>(hne (by rw [← hr]; exact h0)).elim,fun j hj=>?_⟩
  rw [hr] at hj
  obtain⟨o,ho,hfit,hg,h⟩:=h j hj
  have hi:(opsOf C.body p)[j]?=some o:=by
    unfold opAt at ho; unfold opsOf
    split at ho
    · rename_i hs'; rw [hs']; rw [nth_eq] at ho; simpa using ho
    · cases ho
  unfold wpOp
  simp only [hi,show Region.wanted o (yielded (opsOf C.body p) (Act.mk tm df).tmps)=true by simp [Region.wanted,hg],if_true]
  left
  unfold Oper.wp
  rw [eval_fev]
  rcases h w hw _ hkn.agree with⟨v,w',bx',hp',hr | ⟨hr,rfl⟩,hok,hK⟩ | ⟨f,args,w1,hr,hc⟩
  · rw [hr]; simp only [Oper.upon]; rw [put_act]
    exact⟨hK.1 w' hok,hK.2 w' hok (hK.1 w' hok) _ (by rw [size_put]; exact hs) (hkn.putE hs hfit v)⟩
  · rw [hr]; simp only [Oper.upon]; rw [put_act]
    exact⟨hK.1 w' hok,hK.2 w' hok (hK.1 w' hok) _ (by rw [size_put]; exact hs) (hkn.putE hs hfit undef)⟩
  · rw [hr]
    simp only [Oper.upon]
    refine hc.mono ?_
    rintro e w' ⟨u,rfl,bx',hp',hok,hK⟩
    simp only
    rw [put_act]
    exact⟨hK.1 w' hok,hK.2 w' hok (hK.1 w' hok) _ (by rw [size_put]; exact hs) (hkn.putE hs hfit u)⟩
theorem AtH.fork2 {C:Ctx}{p:List Nat}{df:List Deferred}{T:World→Prop}{fuel:Nat}{listed:Array Bool}{env:Env}{bx:Bx}{hp:List Seg}{S:Base}(i j:Nat) {o o2:Oper}(hr:Region.ready .any (opsOf C.body p) listed=[i,j])
    (ho:opAt C.body p i=some o) (hfit:fits C.nt o.dst=true) (hg:o.guard=none) (ho2:opAt C.body p j=some o2) (hfit2:fits C.nt o2.dst=true) (hg2:o2.guard=none)
    (h1:OpOk C o env bx hp S (fun v bx' hp'=>(∀ w,WOk S bx' hp' w→T w)∧AtH C p df T fuel (listed.setIfInBounds i true) (putE o.dst v env) bx' hp' S))
    (h2:OpOk C o2 env bx hp S (fun v bx' hp'=>(∀ w,WOk S bx' hp' w→T w)∧AtH C p df T fuel (listed.setIfInBounds j true) (putE o2.dst v env) bx' hp' S)):AtH C p df T (fuel+1) listed env bx hp S :=
  AtH.forks [i,j] hr (by simp) (fun k hk=>by
    simp at hk
    rcases hk with rfl | rfl
    · exact⟨o,ho,hfit,hg,h1⟩
    · exact⟨o2,ho2,hfit2,hg2,h2⟩)
theorem WOk.selK {S:Base}{bx br:Bx}{hp hr:List Seg}{w:World}(h:WOk S bx hp w) (mb mh:List Bool) (hsel:forceL (selL mb bx) (fun a=>forceL (selL mh hp) fun b=>(a,b))=(br,hr):=by rfl):WOk S br hr w:=by
  simp only [forceL_eq,Prod.mk.injEq] at hsel
  obtain⟨rfl,rfl⟩:=hsel
  have hp1:=selL_perm mb bx
  have hp2:=selL_perm mh hp
  have hkp:=kys_perm hp1 hp2
  exact⟨h.ext,(List.nodup_append.1 (hkp.nodup_iff.1 h.nd)).1,fun k hk'=>h.lt k (hkp.mem_iff.2 (List.mem_append.2 (.inl hk'))),fun k hk'=>h.own k (hkp.mem_iff.2 (List.mem_append.2 (.inl hk'))),
    fun e he=>h.bx e (hp1.mem_iff.2 (List.mem_append.2 (.inl he))),fun s hs=>h.hp s (hp2.mem_iff.2 (List.mem_append.2 (.inl hs)))⟩
theorem AtH.readsK' {C:Ctx}{p:List Nat}{df:List Deferred}{S:Base}{bx bx0:Bx}{hp hp0:List Seg}(nw:Bool) (hns:Region.noSelect (opsOf C.body p)=true) :
    ∀ (is:List Nat) {fuel:Nat}{listed:Array Bool}{dec:List (Nat × Bool)}{ds:List Bool}{hs:List Hint}{env:Env}{ob:Prop}{r:R},chkD (opsOf C.body p) is listed=true→bare (opsOf C.body p) is=true →
      runOps C.P C.nt nw hp S (opsOf C.body p).toList is dec ds hs env bx ob=r→r.l=[]→calm hs=true→r.ob →
      AtH C p df (WOk S bx hp) fuel (setAll is listed) r.env bx0 hp0 S→ob∧AtH C p df (WOk S bx hp) (fuel+is.length) listed env bx0 hp0 S
  | [],fuel,listed,dec,ds,hs,env,ob,r,_,_,h,_,_,ho,hk => by
    simp only [runOps] at h
    subst h
    exact⟨ho,hk⟩
  | i :: is,fuel,listed,dec,ds,hs,env,ob,r,hc,hb,h,hl,hm,ho,hk => by
    simp only [chkD,Bool.and_eq_true] at hc
    obtain⟨⟨hr,hf⟩,hc'⟩:=hc
    simp only [bare,List.all_cons,Bool.and_eq_true] at hb
    obtain⟨hb0,hb'⟩:=hb
    simp only [runOps] at h
    split at h
    · subst h; simp at hl
    · rename_i o hn
      have hi:(opsOf C.body p)[i]?=some o:=by rw [nth_eq] at hn; simpa using hn
      rw [hi] at hb0
      simp only [Bool.and_eq_true,Bool.not_eq_true',Option.isNone_iff_eq_none] at hb0
      obtain⟨hgn,hos⟩:=hb0
      split at h
      · subst h; simp at hl
      · rename_i hfit
        rw [hgn] at h
        simp only [guardOf,addG] at h
        split at h
        · subst h; simp at hl
        · rename_i v ds'' hs'' bx'' o2 ho1
          obtain⟨ob2,hob2,himp2⟩:=addOb_ok (b:=triv C.P nw o.op) (o:=o2) ob (fun ht=>triv_ok ho1 ht)
          rw [hob2] at h
          have h':runOps C.P C.nt nw hp S (opsOf C.body p).toList is dec ds'' hs'' (putE o.dst v env) bx'' ob2=r:=by
            cases hfc:forced o.op with
            | true => rw [hfc] at h; simp only [forceV_eq,putK_eq] at h; exact h
            | false => rw [hfc] at h; simp only [putK_eq] at h; exact h
          have hq:o2→bx''=bx∧∀ w,WOk S bx hp w→∀ ρ,Agree env ρ→(execOp ρ o).run C.P w=.ok (.value v) w:=fun h2=>one1_n ho1 h2 hos hm
          have hbx:bx''=bx:=one1_bx ho1 hos hm
          subst hbx
          have ih:=AtH.readsK' nw hns is (fuel:=fuel) hc' hb' h' hl (calm_of ho1 hm) ho hk
          obtain⟨h012,hA⟩:=ih
          obtain⟨h0,h12⟩:=himp2 h012
          obtain⟨-,hall⟩:=hq h0
          refine⟨h12,fun w hw hT tm hsz hkn=>?_⟩
          have hy:YieldsIf C.P (opsOf C.body p) (WOk S bx'' hp) o v ⟨tm,df⟩:=.inl ⟨by simp [Region.wanted,hgn],fun w' hw'=>by rw [eval_fev]; exact hall w' hw' _ hkn.agree⟩
          have hrec:=hA w hw hT _ (by rw [size_put]; exact hsz) (hkn.putE hsz hfit v)
          rw [List.length_cons,← Nat.add_assoc]
          exact wpAnyH_first hi (Region.noSelect_spec hns) (fun c a w hq=>by cases hq.1) _ listed _ w (Region.free_spec hi hf) (by simpa using hr) hy hT (by rw [put_act]; exact hrec)
theorem AtH.readsK {C:Ctx}{p:List Nat}{df:List Deferred}{S:Base}{bx bx0 bx':Bx}{hp hp0:List Seg}{fuel n:Nat}{listed lst:Array Bool}{ds':List Bool}{hs':List Hint}{env env':Env}{ob:Prop}(mb mh:List Bool) (is:List Nat) (hs:List Hint)
    (hsel:forceL (selL mb bx0) (fun a=>forceL (selL mh hp0) fun b=>(a,b))=(bx,hp)) (h:runOps C.P C.nt true hp S (opsOf C.body p).toList is [] [] hs env bx True=⟨[],ds',hs',env',bx',ob⟩) (ho:ob)
    (hl:setAll is listed=lst) (hn:is.length=n) (hk:AtH C p df (WOk S bx hp) fuel lst env' bx0 hp0 S) (hns:Region.noSelect (opsOf C.body p)=true:=by kernel_rfl)
    (hc:chkD (opsOf C.body p) is listed=true:=by kernel_rfl) (hb:bare (opsOf C.body p) is=true:=by kernel_rfl) (hm:calm hs=true:=by rfl):AtD C p df (fuel+n) listed env bx0 hp0 S:=by
  subst hl hn
  intro w hw tm hsz hkn
  exact wpAny_of_held _ _ _ _ ((AtH.readsK' true hns is hc hb h rfl hm ho hk).2 w hw (hw.selK mb mh hsel) tm hsz hkn)
theorem AtH.reK {C:Ctx}{p:List Nat}{df:List Deferred}{S:Base}{bx bx0 bx':Bx}{hp hp0:List Seg}{fuel n:Nat}{listed lst:Array Bool}{ds':List Bool}{hs':List Hint}{env env':Env}{ob:Prop}(is:List Nat) (hs:List Hint)
    (h:runOps C.P C.nt true hp S (opsOf C.body p).toList is [] [] hs env bx True=⟨[],ds',hs',env',bx',ob⟩) (ho:ob)
    (hl:setAll is listed=lst) (hn:is.length=n) (hk:AtH C p df (WOk S bx hp) fuel lst env' bx0 hp0 S) (hns:Region.noSelect (opsOf C.body p)=true:=by kernel_rfl)
    (hc:chkD (opsOf C.body p) is listed=true:=by kernel_rfl) (hb:bare (opsOf C.body p) is=true:=by kernel_rfl) (hm:calm hs=true:=by rfl):AtH C p df (WOk S bx hp) (fuel+n) listed env bx0 hp0 S:=by
  subst hl hn
  exact (AtH.readsK' true hns is hc hb h rfl hm ho hk).2
section
variable {C:Ctx}{p:List Nat}{df:List Deferred}{T:World→Prop}{fuel:Nat}{listed:Array Bool}{env:Env}{bx:Bx}{hp:List Seg}{S:Base}
theorem AtH.f1 {o:Oper}(i:Nat) (ho:opAt C.body p i=some o) (h:OpOk C o env bx hp S (fun v bx' hp'=>(∀ w,WOk S bx' hp' w→T w)∧AtH C p df T fuel (listed.setIfInBounds i true) (putE o.dst v env) bx' hp' S)) (hr:Region.ready .any (opsOf C.body p) listed=[i]:=by kernel_rfl) (hfit:fits C.nt o.dst=true:=by rfl) (hg:o.guard=none:=by rfl):AtH C p df T (fuel+1) listed env bx hp S :=
  AtH.fork1 i hr ho hfit hg h
theorem AtH.dn (h:At C ⟨1,p,[]⟩ df env bx hp S) (hr:Region.ready .any (opsOf C.body p) listed=[]:=by kernel_rfl):AtH C p df T 0 listed env bx hp S:=AtH.done hr h
end
end Go.Eng
namespace Go.Eng
open Go
def ldO (op:Op):Option (TypeId × Operand):=match op with
  | .load t x => some (t,x)
  | _ => none
theorem AtH.ld {C:Ctx}{p:List Nat}{df:List Deferred}{S:Base}{bx bx0:Bx}{hp hp0:List Seg}{fuel:Nat}{listed:Array Bool}{env:Env}{o:Oper}{t:TypeId}{x:Operand}{b off:Nat}(i:Nat) (V:Value)
    (hl:LdOb C.P S bx hp t b off V) (hk:AtH C p df (WOk S bx hp) fuel (listed.setIfInBounds i true) (putE o.dst V env) bx0 hp0 S)
    (ho:opAt C.body p i=some o:=by rfl) (h1:ldO o.op=some (t,x):=by rfl) (hx:Env.ev env x=some (.pointer (some ⟨b,off,none⟩)):=by rfl)
    (hns:Region.noSelect (opsOf C.body p)=true:=by kernel_rfl) (hc:chkD (opsOf C.body p) [i] listed=true:=by kernel_rfl) (hgn:o.guard=none:=by rfl) (hfit:fits C.nt o.dst=true:=by rfl):AtH C p df (WOk S bx hp) (fuel+1) listed env bx0 hp0 S:=by
  simp only [chkD,Bool.and_eq_true,Bool.and_true] at hc
  obtain⟨hr,hf⟩:=hc
  have hi:(opsOf C.body p)[i]?=some o:=by
    unfold opAt at ho; unfold opsOf
    split at ho
    · rename_i hs'; rw [hs']; rw [nth_eq] at ho; simpa using ho
    · cases ho
  obtain⟨cs,hrd,hv⟩:=hl
  have hop:o.op=.load t x:=by
    unfold ldO at h1
    split at h1
    · rename_i h; simp only [Option.some.injEq,Prod.mk.injEq] at h1; rw [h,h1.1,h1.2]
    · cases h1
  have hall:∀ w,WOk S bx hp w→∀ ρ,Agree env ρ→(execOp ρ o).run C.P w=.ok (.value V) w:=fun w hw ρ hρ=>by
    have hl:=valT_load (P:=C.P) (w:=w) (b:=b) (o:=off) hv (fun j u hu=>hrd w hw j u hu)
    simp [execOp,hop,hρ _ _ hx,hl]
  intro w hw hT tm hsz hkn
  have hy:YieldsIf C.P (opsOf C.body p) (WOk S bx hp) o V ⟨tm,df⟩:=.inl ⟨by simp [Region.wanted,hgn],fun w' hw'=>by rw [eval_fev]; exact hall w' hw' _ hkn.agree⟩
  have hrec:=hk w hw hT _ (by rw [size_put]; exact hsz) (hkn.putE hsz hfit V)
  exact wpAnyH_first hi (Region.noSelect_spec hns) (fun c a w hq=>by cases hq.1) _ listed _ w (Region.free_spec hi hf) (by simpa using hr) hy hT (by rw [put_act]; exact hrec)
section
variable {C:Ctx}{p:List Nat}{df:List Deferred}{T:World→Prop}{fuel:Nat}{listed:Array Bool}{env:Env}{bx:Bx}{hp:List Seg}{S:Base}{o o2:Oper}{ob ob2:Prop}
end
end Go.Eng

/-
  Engine, part 9: regions that draw their order.
-/
import Derived.Test.YtibdpdlghibijaaGreatDoorMP2
import Derived.Deep.Quiet
namespace Go.Eng
open Go
def opsOf (c:Code) (p:List Nat):Array Oper:=match sub c p with
  | .region _ ops _ => ops
  | _ => #[]
def isDraw (c:Code) (p:List Nat):Bool:=match sub c p with
  | .region _ _ d => d
  | _ => false
def Qf (C:Ctx) (p:List Nat) (df:List Deferred) (e:Exit) (a:Act) (w:World):Prop :=
  e=.normal∧a.defers=df∧a.tmps.size=C.nt∧∀ cs,C.Φ cs (lone (C.fr a.tmps df (kont C.body C.tl p)) cs w)
theorem eval_fev (tm:Array Value) (df:List Deferred):(Act.mk tm df).eval=fev tm:=by funext x; cases x <;> rfl
theorem put_act (tm:Array Value) (df:List Deferred) (d:Option Nat) (v:Value):(Act.mk tm df).put d v=⟨putT d v tm,df⟩:=by cases d <;> rfl
theorem defers_le {C:Ctx}{p:List Nat}{df:List Deferred}{ops:Array Oper}:∀ (l:List Nat) (a:Act) (w:World),wpOps C.P ops (Qf C p df) l a w→a.defers.length≤df.length
  | [],a,w,h => by rw [h.2.1]; exact Nat.le_refl _
  | i :: l,a,w,h => by
    simp only [wpOps] at h
    cases ho:ops[i]? with
    | none => simp only [ho] at h; exact defers_le l a w h
    | some o =>
      simp only [ho] at h
      have hput:∀ v,(a.put o.dst v).defers=a.defers:=by intro v; cases o.dst <;> rfl
      by_cases hw:Region.wanted o (yielded ops a.tmps)=true
      · simp only [hw,if_true] at h
        rcases h with h | ⟨-,a₀,w₀,hq,-⟩
        · unfold Oper.wp at h
          cases hr:(execOp a.eval o).run C.P w with
          | halt x w' =>
            rw [hr] at h
            cases x <;> simp only [Oper.upon] at h <;> first | exact h.elim | (have:=h.1; cases this)
          | ok nx w' =>
            rw [hr] at h
            cases nx <;> simp only [Oper.upon] at h <;> try exact h.elim
            case value v=>rw [← hput v]; exact defers_le l _ _ h
            case skip=>rw [← hput undef]; exact defers_le l _ _ h
            case enter f args =>
              obtain⟨e,w'',fr,hR,-⟩:=h []
              cases e with
              | returned v => rw [← hput v]; exact defers_le l _ _ hR
              | panicked c => have:=hR.1; cases this
              | outgrown => obtain⟨_,_,hq,-⟩:=hR; cases hq
            case defer d =>
              have:=defers_le l _ _ h
              have e:({ a with defers:=d :: a.defers }.put o.dst undef:Act).defers=d :: a.defers:=by cases o.dst <;> rfl
              rw [e] at this
              simp at this; omega
            case row row args =>
              obtain⟨v,w'',hR,-⟩:=h default []
              rw [← hput v]; exact defers_le l _ _ hR
        · cases hq
      · simp only [hw,Bool.false_eq_true,if_false] at h
        rw [← hput undef]; exact defers_le l _ _ h
theorem Φ_steps {C:Ctx}{cs:List Frame}:∀ {m m':Machine},Steps C.P m m'→C.Φ cs m'→C.Φ cs m:=by
  intro m m' ⟨n,hn⟩ hΦ
  induction n generalizing m with
  | zero => simp [runN] at hn; exact hn ▸ hΦ
  | succ n ih =>
    simp only [runN] at hn
    cases hst:step C.P m with
    | next m1 => rw [hst] at hn; exact C.back _ _ _ hst (ih hn)
    | ended o w => rw [hst] at hn; simp at hn
def noDefer (ops:Array Oper):Bool:=ops.toList.all fun o=>notDefer o.op
theorem Φ_wpOps {C:Ctx}{p:List Nat}{df:List Deferred}{ops:Array Oper}(hnd:noDefer ops=true):∀ (l:List Nat) (tm:Array Value) (w:World),wpOps C.P ops (Qf C p df) l ⟨tm,df⟩ w →
    ∀ cs,C.Φ cs (lone (C.fr tm df (.inRegion ops l :: kont C.body C.tl p)) cs w)
  | [],tm,w,h,cs => C.back _ _ _ s_regionEnd (h.2.2.2 cs)
  | i :: l,tm,w,h,cs => by
    simp only [wpOps] at h
    cases ho:ops[i]? with
    | none =>
      simp only [ho] at h
      have hst:step C.P (lone (C.fr tm df (.inRegion ops (i :: l) :: kont C.body C.tl p)) cs w)=.next (lone (C.fr tm df (.inRegion ops l :: kont C.body C.tl p)) cs w):=by
        refine step_lone_go ?_
        simp [stepG,stepG.exec,Ctx.fr,ho,Frame.finish]
      exact C.back _ _ _ hst (Φ_wpOps hnd l tm w h cs)
    | some o =>
      simp only [ho] at h
      have hd:∀ c,o.op≠.defer c:=notDefer_ok (List.all_eq_true.1 hnd o (by simpa using Array.mem_of_getElem? ho))
      by_cases hw:Region.wanted o (yielded ops tm)=true
      · simp only [hw,if_true] at h
        rcases h with h | ⟨-,a₀,w₀,hq,-⟩
        · have h':=h
          unfold Oper.wp at h'
          rw [eval_fev] at h'
          have fin:∀ {v:Value}{w':World},wpOps C.P ops (Qf C p df) l ((Act.mk tm df).put o.dst v) w'→C.Φ cs (lone (C.fr (putT o.dst v tm) df (.inRegion ops l :: kont C.body C.tl p)) cs w'):=by
            intro v w' hh
            rw [put_act] at hh
            exact Φ_wpOps hnd l _ w' hh cs
          cases hr:(execOp (fev tm) o).run C.P w with
          | halt x w' =>
            rw [hr] at h'
            cases x <;> simp only [Oper.upon] at h' <;> first | exact h'.elim | (have:=h'.1; cases this)
          | ok nx w' =>
            rw [hr] at h'
            cases nx <;> simp only [Oper.upon] at h' <;> try exact h'.elim
            case value v=>exact C.back _ _ _ (s_op ho hw hd hr) (fin h')
            case skip=>exact C.back _ _ _ (s_opSkip ho hw hd hr) (fin h')
            case enter f args =>
              refine Φ_call (R:=fun u w''=>wpOps C.P ops (Qf C p df) l ((Act.mk tm df).put o.dst u) w'') ho hw hd hr (h'.mono fun e w'' he=>?_) (fun u w'' hh=>fin hh)
              cases e with
              | returned v => exact⟨v,rfl,he⟩
              | panicked c => have:=he.1; cases this
              | outgrown => obtain⟨_,_,hq,-⟩:=he; cases hq
            case defer d =>
              exfalso
              have:=defers_le l _ _ h'
              have e:({ (Act.mk tm df) with defers:=d :: df }.put o.dst undef:Act).defers=d :: df:=by cases o.dst <;> rfl
              rw [e] at this
              simp at this; omega
            case row row args =>
              obtain⟨v,w'',hR,hst⟩:=h' (C.fr tm df (.inRegion ops (i :: l) :: kont C.body C.tl p)) cs
              have hfin:(C.fr tm df (.inRegion ops (i :: l) :: kont C.body C.tl p)).finish v=C.fr (putT o.dst v tm) df (.inRegion ops l :: kont C.body C.tl p):=by
                simp only [Frame.finish,Ctx.fr,ho,Option.bind_some]
                unfold putT; cases o.dst <;> rfl
              rw [hfin] at hst
              exact Φ_steps (.head (s_row ho hw hd hr) hst) (fin hR)
        · cases hq
      · simp only [hw,Bool.false_eq_true,if_false] at h
        rw [put_act] at h
        exact C.back _ _ _ (s_opNot ho (by simpa using hw)) (Φ_wpOps hnd l _ w h cs)
theorem At.ofAny {C:Ctx}{p l:List Nat}{df:List Deferred}{env:Env}{bx:Bx}{hp:List Seg}{S:Base}(hd:isDraw C.body p=true) (hm:C.P.follows .mixedOrders=true) (hnd:noDefer (opsOf C.body p)=true)
    (h:∀ w,WOk S bx hp w→∀ tm,tm.size=C.nt→Knows env tm→wpAny C.P .any (opsOf C.body p) (Qf C p df) (opsOf C.body p).size (Array.replicate (opsOf C.body p).size false) ⟨tm,df⟩ w):At C ⟨0,p,l⟩ df env bx hp S:=by
  intro w hw tm hs hkn cs
  have hsub:∃ id,sub C.body p=.region id (opsOf C.body p) true:=by
    unfold isDraw at hd; unfold opsOf
    split at hd
    · rename_i id ops d hs'
      subst hd
      exact⟨id,by rw [hs']⟩
    · cases hd
  obtain⟨id,hsub⟩:=hsub
  simp only [items,hsub]
  have hst:Go.step C.P (lone (C.fr tm df (.code (.region id (opsOf C.body p) true) :: kont C.body C.tl p)) cs w) =
      .next (lone (C.fr tm df (.inRegion (opsOf C.body p) (Region.schedule (C.P.follows .mixedOrders) (opsOf C.body p) (w.tape w.drawn (.order C.fn id))) :: kont C.body C.tl p)) cs { w with drawn:=w.drawn+1 }) :=
    step_lone_go (by simp [stepG,stepG.exec,Ctx.fr,choose,Sem.run,Question.forced,Question.cut])
  refine C.back _ _ _ hst ?_
  have hany:=h { w with drawn:=w.drawn+1 } (hw.drew rfl rfl rfl rfl) tm hs hkn
  simp only [Region.schedule,hm,Bool.true_or,if_true]
  exact Φ_wpOps hnd _ tm _ (wpAny_sound _ _ _ _ _ hany) cs
def AtD (C:Ctx) (p:List Nat) (df:List Deferred) (fuel:Nat) (listed:Array Bool) (env:Env) (bx:Bx) (hp:List Seg) (S:Base):Prop :=
  ∀ w,WOk S bx hp w→∀ tm,tm.size=C.nt→Knows env tm→wpAny C.P .any (opsOf C.body p) (Qf C p df) fuel listed ⟨tm,df⟩ w
theorem At.draw {C:Ctx}{p l:List Nat}{df:List Deferred}{env:Env}{bx:Bx}{hp:List Seg}{S:Base}(n:Nat) (hd:isDraw C.body p=true) (hm:C.P.follows .mixedOrders=true) (hnd:noDefer (opsOf C.body p)=true) (hn:(opsOf C.body p).size=n)
    (h:AtD C p df n (Array.replicate n false) env bx hp S):At C ⟨0,p,l⟩ df env bx hp S:=At.ofAny hd hm hnd (by rw [hn]; exact h)
theorem AtD.done {C:Ctx}{p:List Nat}{df:List Deferred}{fuel:Nat}{listed:Array Bool}{env:Env}{bx:Bx}{hp:List Seg}{S:Base}(hr:Region.ready .any (opsOf C.body p) listed=[]) (h:At C ⟨1,p,[]⟩ df env bx hp S) :
    AtD C p df fuel listed env bx hp S:=fun w hw tm hs hkn=>wpAny_done hr ⟨rfl,rfl,hs,fun cs=>h w hw tm hs hkn cs⟩ fuel
def pureD (P:Program) (nt:Nat) (nw:Bool) (ops:List Oper):List Nat→Env→Prop→Option (Env × Prop)
  | [],env,ob => some (env,ob)
  | i :: l,env,ob => match nth ops i with
    | none => none
    | some o => match o.guard with
      | some _ => none
      | none => match fits nt o.dst with
        | false => none
        | true => match pure1 P nw env o.op with
          | none => none
          | some (v,o2) => match triv P nw o.op with
            | true => match o.dst with
              | some d => match forced o.op with
                | true => forceV v fun v => pureD P nt nw ops l ((d,v) :: env) ob
                | false => pureD P nt nw ops l ((d,v) :: env) ob
              | none => pureD P nt nw ops l env ob
            | false => match o.dst with
              | some d => pureD P nt nw ops l ((d,v) :: env) (o2∧ob)
              | none => pureD P nt nw ops l env (o2∧ob)
def chkD (ops:Array Oper):List Nat→Array Bool→Bool
  | [],_ => true
  | i :: l,listed => (Region.ready .any ops listed).contains i && Region.free .any ops listed i && chkD ops l (listed.setIfInBounds i true)
def setAll:List Nat→Array Bool→Array Bool
  | [],a => a
  | i :: l,a => setAll l (a.setIfInBounds i true)
theorem pureD_ob {P:Program}{nt:Nat}{nw:Bool}{ops:List Oper}:∀ {l:List Nat}{env env':Env}{ob ob':Prop},pureD P nt nw ops l env ob=some (env',ob')→ob'→ob
  | [],env,env',ob,ob',h,ho => by simp only [pureD,Option.some.injEq,Prod.mk.injEq] at h; exact h.2 ▸ ho
  | i :: l,env,env',ob,ob',h,ho => by
    simp only [pureD] at h
    split at h
    · cases h
    · split at h
      · cases h
      · split at h
        · cases h
        · split at h
          · cases h
          · split at h
            · split at h
              · split at h
                · rw [forceV_eq] at h; exact pureD_ob h ho
                · exact pureD_ob h ho
              · exact pureD_ob h ho
            · split at h
              · exact (pureD_ob h ho).2
              · exact (pureD_ob h ho).2
theorem AtD.pures {C:Ctx}{p:List Nat}{df:List Deferred}{S:Base}{bx:Bx}{hp:List Seg}(nw:Bool) (hns:Region.noSelect (opsOf C.body p)=true):∀ (is:List Nat) {fuel:Nat}{listed:Array Bool}{env env':Env}{ob ob':Prop}
    (_hc:chkD (opsOf C.body p) is listed=true) (_he:pureD C.P C.nt nw (opsOf C.body p).toList is env ob=some (env',ob')) (_ho:ob') (_h:AtD C p df fuel (setAll is listed) env' bx hp S),AtD C p df (fuel+is.length) listed env bx hp S
  | [],fuel,listed,env,env',ob,ob',_,he,_,h => by
    simp only [pureD,Option.some.injEq,Prod.mk.injEq] at he
    rw [he.1]; exact h
  | i :: is,fuel,listed,env,env',ob,ob',hc,he,ho,h => by
    simp only [chkD,Bool.and_eq_true] at hc
    obtain⟨⟨hr,hf⟩,hc'⟩:=hc
    simp only [pureD] at he
    split at he
    · cases he
    · rename_i o hn
      have hi:(opsOf C.body p)[i]?=some o:=by rw [nth_eq] at hn; simpa using hn
      split at he
      · cases he
      · rename_i hg
        split at he
        · cases he
        · rename_i hfit
          split at he
          · cases he
          · rename_i v o2 hp1
            have main:∀ {ob1:Prop},pureD C.P C.nt nw (opsOf C.body p).toList is (putE o.dst v env) ob1=some (env',ob')→o2→AtD C p df (fuel+(i :: is).length) listed env bx hp S:=by
              intro ob1 he' h2 w hw tm hs hkn
              have hrec:=AtD.pures nw hns is hc' he' ho h w hw _ (by rw [size_put]; exact hs) (hkn.putE hs hfit v)
              have hy:Yields C.P (opsOf C.body p) o v ⟨tm,df⟩:=.inl ⟨by simp [Region.wanted,hg],fun w'=>by rw [eval_fev]; exact pure1_ok hp1 h2 hkn.agree⟩
              rw [List.length_cons,← Nat.add_assoc]
              exact wpAny_take hi hns hf hr (fun c a w hq=>by cases hq.1) hy (by rw [put_act]; exact hrec)
            split at he
            · rename_i htr
              have h2:=pure1_triv hp1 htr
              split at he
              · rename_i d hd
                split at he
                · rw [forceV_eq] at he; exact main (by rw [hd]; exact he) h2
                · exact main (by rw [hd]; exact he) h2
              · rename_i hd
                exact main (by rw [hd]; exact he) h2
            · split at he
              · rename_i d hd
                exact main (by rw [hd]; exact he) (pureD_ob he ho).1
              · rename_i hd
                exact main (by rw [hd]; exact he) (pureD_ob he ho).1
def StepD (C:Ctx) (p:List Nat) (df:List Deferred) (fuel:Nat) (listed:Array Bool) (env:Env) (bx:Bx) (hp:List Seg) (S:Base) (i:Nat):Prop :=
  ∀ w,WOk S bx hp w→∀ tm,tm.size=C.nt→Knows env tm→wpOp C.P (opsOf C.body p) (Qf C p df) i (wpAny C.P .any (opsOf C.body p) (Qf C p df) fuel (listed.setIfInBounds i true)) ⟨tm,df⟩ w
theorem AtD.fork {C:Ctx}{p:List Nat}{df:List Deferred}{fuel:Nat}{listed:Array Bool}{env:Env}{bx:Bx}{hp:List Seg}{S:Base}(rs:List Nat) (hr:Region.ready .any (opsOf C.body p) listed=rs) (hne:rs≠[])
    (h:∀ i,i∈rs→StepD C p df fuel listed env bx hp S i):AtD C p df (fuel+1) listed env bx hp S :=
  fun w hw tm hs hkn=>wpAny_all hr hne (fun i hi=>h i hi w hw tm hs hkn)
theorem AtD.fork1 {C:Ctx}{p:List Nat}{df:List Deferred}{fuel:Nat}{listed:Array Bool}{env:Env}{bx:Bx}{hp:List Seg}{S:Base}(i:Nat) (hr:Region.ready .any (opsOf C.body p) listed=[i])
    (h:StepD C p df fuel listed env bx hp S i):AtD C p df (fuel+1) listed env bx hp S:=AtD.fork [i] hr (by simp) (fun j hj=>by simp at hj; subst hj; exact h)
theorem AtD.fork2 {C:Ctx}{p:List Nat}{df:List Deferred}{fuel:Nat}{listed:Array Bool}{env:Env}{bx:Bx}{hp:List Seg}{S:Base}(i j:Nat) (hr:Region.ready .any (opsOf C.body p) listed=[i,j])
    (h1:StepD C p df fuel listed env bx hp S i) (h2:StepD C p df fuel listed env bx hp S j):AtD C p df (fuel+1) listed env bx hp S :=
  AtD.fork [i,j] hr (by simp) (fun k hk=>by simp at hk; rcases hk with rfl | rfl <;> assumption)
theorem StepD.byE {C:Ctx}{p:List Nat}{df:List Deferred}{fuel:Nat}{listed:Array Bool}{env:Env}{bx:Bx}{hp:List Seg}{S:Base}{i:Nat}{o:Oper}{ob:Prop}(ds:List Bool) (ho:opAt C.body p i=some o) (hfit:fits C.nt o.dst=true) (hg:guardAt C.body p o ds env=some ob) (hob:ob)
    (h:OpOk C o env bx hp S (fun v bx' hp'=>AtD C p df fuel (listed.setIfInBounds i true) (putE o.dst v env) bx' hp' S)):StepD C p df fuel listed env bx hp S i:=by
  intro w hw tm hs hkn
  have hi:(opsOf C.body p)[i]?=some o:=by
    unfold opAt at ho; unfold opsOf
    split at ho
    · rename_i hs'; rw [hs']; rw [nth_eq] at ho; simpa using ho
    · cases ho
  have hwn:Region.wanted o (yielded (opsOf C.body p) tm)=true:=by
    unfold guardAt at hg; unfold opsOf
    split at hg
    · rename_i hs'
      rw [hs']
      split at hg
      · rename_i hgo
        simp only [Option.some.injEq] at hg
        subst hg
        exact guardOf_ok hgo hob hkn
      · cases hg
    · cases hg
  unfold wpOp
  simp only [hi,hwn,if_true]
  left
  unfold Oper.wp
  rw [eval_fev]
  rcases h w hw _ hkn.agree with⟨v,w',bx',hp',hr | ⟨hr,rfl⟩,hok,hK⟩ | ⟨f,args,w1,hr,hc⟩
  · rw [hr]; simp only [Oper.upon]; rw [put_act]
    exact hK w' hok _ (by rw [size_put]; exact hs) (hkn.putE hs hfit v)
  · rw [hr]; simp only [Oper.upon]; rw [put_act]
    exact hK w' hok _ (by rw [size_put]; exact hs) (hkn.putE hs hfit undef)
  · rw [hr]
    simp only [Oper.upon]
    refine hc.mono ?_
    rintro e w' ⟨u,rfl,bx',hp',hok,hK⟩
    simp only
    rw [put_act]
    exact hK w' hok _ (by rw [size_put]; exact hs) (hkn.putE hs hfit u)
theorem StepD.by {C:Ctx}{p:List Nat}{df:List Deferred}{fuel d:Nat}{listed:Array Bool}{env:Env}{bx:Bx}{hp:List Seg}{S:Base}{i:Nat}{o:Oper}{ob:Prop}(ds:List Bool) (ho:opAt C.body p i=some o) (hdst:o.dst=some d) (hfit:Nat.ble (d+1) C.nt=true)
    (hg:guardAt C.body p o ds env=some ob) (hob:ob) (h:OpOk C o env bx hp S (fun v bx' hp'=>AtD C p df fuel (listed.setIfInBounds i true) ((d,v) :: env) bx' hp' S)):StepD C p df fuel listed env bx hp S i :=
  StepD.byE ds ho (by rw [hdst]; exact hfit) hg hob (by rw [hdst]; exact h)
theorem StepD.by0 {C:Ctx}{p:List Nat}{df:List Deferred}{fuel:Nat}{listed:Array Bool}{env:Env}{bx:Bx}{hp:List Seg}{S:Base}{i:Nat}{o:Oper}{ob:Prop}(ds:List Bool) (ho:opAt C.body p i=some o) (hdst:o.dst=none)
    (hg:guardAt C.body p o ds env=some ob) (hob:ob) (h:OpOk C o env bx hp S (fun _ bx' hp'=>AtD C p df fuel (listed.setIfInBounds i true) env bx' hp' S)):StepD C p df fuel listed env bx hp S i :=
  StepD.byE ds ho (by rw [hdst]; rfl) hg hob (by rw [hdst]; exact h)
theorem OpOk.one {C:Ctx}{env:Env}{bx:Bx}{hp:List Seg}{S:Base}{o:Oper}{K:Value→Bx→List Seg→Prop}(nw:Bool) (ds:List Bool) (hs:List Hint) {v:Value}{ds':List Bool}{hs':List Hint}{bx':Bx}{ob:Prop}
    (h:one1 C.P nw hp S o.op [] ds hs env bx=some (v,ds',hs',bx',ob)) (ho:ob) (hk:K v bx' hp):OpOk C o env bx hp S K:=by
  intro w hw ρ hρ
  rcases one1_ok h ho hw hρ with⟨w',hw',hr⟩ | ⟨f,args,hr,hc⟩
  · exact .inl ⟨v,w',bx',hp,hr,hw',hk⟩
  · exact .inr ⟨f,args,w,hr,hc.mono fun e w' ⟨u,he,hu,hw'⟩ =>⟨u,he,bx',hp,hw',by rw [hu]; exact hk⟩⟩
def isStore:Op→Bool
  | .store _ _ _ => true
  | _ => false
def mild (hs:List Hint):Bool:=hs.all fun h=>!Nat.beq h.k 3
theorem one1_q {P:Program}{nw:Bool}{hp:List Seg}{S:Base}{o:Oper}{dec:List (Nat × Bool)}{ds ds':List Bool}{hs hs':List Hint}{env:Env}{bx bx':Bx}{v:Value}{ob:Prop}
    (h:one1 P nw hp S o.op dec ds hs env bx=some (v,ds',hs',bx',ob)) (ho:ob) (hst:isStore o.op=false) (hm:mild hs=true):bx'=bx∧mild hs'=true∧∀ w,WOk S bx hp w→∀ ρ,Agree env ρ →
      (execOp ρ o).run P w=.ok (.value v) w∨(∃ f args,(execOp ρ o).run P w=.ok (.enter f args) w∧Calls P f args w (fun e w'=>e=.returned v∧WOk S bx hp w')):=by
  unfold one1 at h
  split at h
  · rename_i c a b hop
    split at h
    · rename_i u ds'' o' hpk
      simp only [Option.some.injEq,Prod.mk.injEq] at h
      obtain⟨rfl,-,rfl,rfl,rfl⟩:=h
      refine⟨rfl,hm,fun w hw ρ hρ=>.inl ?_⟩
      obtain⟨x,hx,hv⟩:=pick1_ok hpk ho hρ
      simp [execOp,hop,hx,asBool,← hv]
    · cases h
  · rename_i t x hop
    split at h
    · rename_i b off hx
      split at h
      · have hm':mild ‹List Hint›=true:=by simp only [mild,List.all_cons,Bool.and_eq_true] at hm; exact hm.2
        split at h
        · split at h
          · rename_i b' t' cs hn
            split at h
            · split at h
              · rename_i u hval
                rw [forceA_eq] at h
                simp only [Option.some.injEq,Prod.mk.injEq] at h
                obtain⟨rfl,-,rfl,rfl,rfl⟩:=h
                subst ho
                refine⟨rfl,hm',fun w hw ρ hρ=>.inl ?_⟩
                have hb:=hw.bx _ (nth_mem hn)
                have hl:=valT_load (P:=P) (w:=w) (b:=b) (o:=off) hval (fun j u hu=>cell_known hb hu)
                simp [execOp,hop,hρ _ _ hx,hl]
              · cases h
            · cases h
          · cases h
        · split at h
          · rename_i n hlen
            revert h
            cases hb:Nat.beq (List.length _) n with
            | false => intro h; cases h
            | true =>
              intro h
              simp only [cond_true] at h
              split at h
              · rename_i u hval
                simp only [Option.some.injEq,Prod.mk.injEq] at h
                obtain⟨rfl,-,rfl,rfl,rfl⟩:=h
                refine⟨rfl,hm',fun w hw ρ hρ=>.inl ?_⟩
                have hl:=valT_load (P:=P) (w:=w) (b:=b) (o:=off) hval (fun j u hu=>ho w hw j u hu)
                simp [execOp,hop,hρ _ _ hx,hl]
              · cases h
          · cases h
        · split at h
          · simp only [Option.some.injEq,Prod.mk.injEq] at h
            obtain⟨rfl,-,rfl,rfl,rfl⟩:=h
            obtain⟨cs,hr,hv⟩:=ho
            refine⟨rfl,hm',fun w hw ρ hρ=>.inl ?_⟩
            have hl:=valT_load (P:=P) (w:=w) (b:=b) (o:=off) hv (fun j u hu=>hr w hw j u hu)
            simp [execOp,hop,hρ _ _ hx,hl]
          · cases h
        · cases h
      · cases h
    · cases h
  · rename_i t x y hop
    rw [hop] at hst; cases hst
  · rename_i t x y ok hop
    split at h
    · rename_i xv hx
      split at h
      · rename_i yv hy
        split at h
        · have hm':mild ‹List Hint›=true:=by simp only [mild,List.all_cons,Bool.and_eq_true] at hm; exact hm.2
          split at h
          · split at h
            · simp only [Option.some.injEq,Prod.mk.injEq] at h
              obtain⟨rfl,-,rfl,rfl,rfl⟩:=h
              refine⟨rfl,hm',fun w hw ρ hρ=>.inl ?_⟩
              simp [execOp,hop,hρ _ _ hx,hρ _ _ hy,ho w hw]
            · cases h
          · cases h
        · cases h
      · cases h
    · cases h
  · rename_i c hop
    split at h
    · rename_i fv hcal
      split at h
      · rename_i fn fi ca hfv
        split at h
        · rename_i f
          split at h
          · rename_i as has
            split at h
            · have hm':mild ‹List Hint›=true:=by simp only [mild,List.all_cons,Bool.and_eq_true] at hm; exact hm.2
              split at h
              · split at h
                · simp only [Option.some.injEq,Prod.mk.injEq] at h
                  obtain⟨rfl,-,rfl,rfl,rfl⟩:=h
                  refine⟨rfl,hm',fun w hw ρ hρ=>.inr ?_⟩
                  have hex:(execOp ρ o).run P w=(callFunc f ⟨allArgs fi as ca⟩).run P w:=by
                    unfold execOp
                    rw [hop,allArgs_eq]
                    exact resolve_value hcal (hρ _ _ hfv) (evs_ok hρ has)
                  obtain⟨hcb,hcl⟩:=ho w hw
                  refine⟨f,⟨allArgs fi as ca⟩,by rw [hex,callFunc_ok hcb],hcl.mono ?_⟩
                  rintro e w' ⟨u,bx1,hp1,he,⟨rfl,rfl,rfl⟩,hext,-,-⟩
                  exact⟨he,hw.ext0 hext⟩
                · simp [mild] at hm
                · simp only [Option.some.injEq,Prod.mk.injEq] at h
                  obtain⟨rfl,-,rfl,rfl,rfl⟩:=h
                  refine⟨rfl,hm',fun w hw ρ hρ=>.inl ?_⟩
                  unfold execOp
                  rw [hop,resolve_value hcal (hρ _ _ hfv) (evs_ok hρ has),← allArgs_eq]
                  exact ho w hw
                · cases h
              · cases h
            · cases h
          · cases h
        · cases h
      · cases h
    · split at h
      · rename_i u o' hp1
        simp only [Option.some.injEq,Prod.mk.injEq] at h
        obtain⟨rfl,-,rfl,rfl,rfl⟩:=h
        exact⟨rfl,hm,fun w hw ρ hρ=>.inl (pure1_ok hp1 ho hρ)⟩
      · cases h
  · split at h
    · rename_i u o' hp1
      simp only [Option.some.injEq,Prod.mk.injEq] at h
      obtain⟨rfl,-,rfl,rfl,rfl⟩:=h
      exact⟨rfl,hm,fun w hw ρ hρ=>.inl (pure1_ok hp1 ho hρ)⟩
    · cases h
theorem one1_tail {P:Program}{nw:Bool}{hp:List Seg}{S:Base}{op:Op}{dec:List (Nat × Bool)}{ds ds':List Bool}{hs hs':List Hint}{env:Env}{bx bx':Bx}{v:Value}{ob:Prop}
    (h:one1 P nw hp S op dec ds hs env bx=some (v,ds',hs',bx',ob)):hs'=hs∨∃ x,hs=x :: hs':=by
  unfold one1 at h
  simp only [forceL_eq,forceN_eq,forceA_eq,cond_eq_ite] at h
  repeat' split at h
  all_goals first
    | (cases h; done)
    | (simp only [Option.some.injEq,Prod.mk.injEq] at h
       obtain⟨-,-,rfl,-,-⟩:=h
       first | exact .inl rfl | exact .inr ⟨_,rfl⟩)
theorem mild_of {P:Program}{nw:Bool}{hp:List Seg}{S:Base}{op:Op}{dec:List (Nat × Bool)}{ds ds':List Bool}{hs hs':List Hint}{env:Env}{bx bx':Bx}{v:Value}{ob:Prop}
    (h:one1 P nw hp S op dec ds hs env bx=some (v,ds',hs',bx',ob)) (hm:mild hs=true):mild hs'=true:=by
  rcases one1_tail h with rfl | ⟨x,rfl⟩
  · exact hm
  · simp only [mild,List.all_cons,Bool.and_eq_true] at hm; exact hm.2
theorem runOps_q {P:Program}{nt:Nat}{nw:Bool}{hp:List Seg}{S:Base}{ops:Array Oper}{df:List Deferred}{Q:Act→Prop}(hns:ops.toList.all (fun o => !isStore o.op)=true) :
    ∀ (n k:Nat) (dec:List (Nat × Bool)) (ds:List Bool) (hs:List Hint) (env:Env) (bx:Bx) (ob:Prop) (r:R),n+k=ops.size→runOps P nt nw hp S ops.toList (List.range' k n) dec ds hs env bx ob=r→r.l=[]→mild hs=true→r.ob →
      (∀ tm,tm.size=nt→Knows r.env tm→Q ⟨tm,df⟩)→ob∧r.bx=bx∧∀ tm,tm.size=nt→Knows env tm→wpQuiet P ops (WOk S bx hp) Q (ops.toList.drop k) ⟨tm,df⟩
  | 0,k,dec,ds,hs,env,bx,ob,r,hk,h,hl,hm,ho,hQ => by
    simp only [List.range',runOps] at h
    subst h
    refine⟨ho,rfl,fun tm hsz hkn=>?_⟩
    rw [List.drop_of_length_le (by simp; omega)]
    exact wpQuiet_nil (hQ tm hsz hkn)
  | n+1,k,dec,ds,hs,env,bx,ob,r,hk,h,hl,hm,ho,hQ => by
    simp only [List.range',runOps] at h
    split at h
    · subst h; simp at hl
    · rename_i o hn
      rw [nth_eq] at hn
      have hi:ops[k]?=some o:=by simpa using hn
      have hdrop:ops.toList.drop k=o :: ops.toList.drop (k+1):=by
        rw [List.drop_eq_getElem_cons (by simp; omega)]
        congr 1
        exact (List.getElem?_eq_some_iff.1 hn).2
      have hos:isStore o.op=false:=by
        have:=List.all_eq_true.1 hns o (List.mem_of_getElem? hn)
        simpa using this
      split at h
      · subst h; simp at hl
      · rename_i hfit
        split at h
        · subst h; simp at hl
        · rename_i wanted dec' ds' o1 hg
          obtain⟨ob1,hob1,himp1⟩:=addG_ok ob hg
          rw [hob1] at h
          cases wanted with
          | false =>
            simp only [putK_eq] at h
            have ih:=runOps_q (df:=df) (Q:=Q) hns n (k+1) _ _ _ _ _ _ r (by omega) h hl hm ho hQ
            obtain⟨h12,hb,h3⟩:=ih
            obtain⟨h1,h2⟩:=himp1 h12
            refine⟨h2,hb,fun tm hsz hkn=>?_⟩
            rw [hdrop]
            unfold wpQuiet
            rw [if_neg (by rw [show (Act.mk tm df).tmps=tm from rfl,guardOf_ok hg h1 hkn]; simp),put_act]
            exact h3 _ (by rw [size_put]; exact hsz) (hkn.putE hsz hfit _)
          | true =>
            simp only at h
            split at h
            · subst h; simp at hl
            · rename_i v ds'' hs'' bx'' o2 ho1
              obtain⟨ob2,hob2,himp2⟩:=addOb_ok (b:=triv P nw o.op) (o:=o2) ob1 (fun ht=>triv_ok ho1 ht)
              rw [hob2] at h
              have h':runOps P nt nw hp S ops.toList (List.range' (k+1) n) dec' ds'' hs'' (putE o.dst v env) bx'' ob2=r:=by
                cases hfc:forced o.op with
                | true => rw [hfc] at h; simp only [forceV_eq,putK_eq] at h; exact h
                | false => rw [hfc] at h; simp only [putK_eq] at h; exact h
              have hq:o2→bx''=bx∧mild hs''=true∧∀ w,WOk S bx hp w→∀ ρ,Agree env ρ→(execOp ρ o).run P w=.ok (.value v) w∨(∃ f args,(execOp ρ o).run P w=.ok (.enter f args) w∧Calls P f args w (fun e w'=>e=.returned v∧WOk S bx hp w')) :=
                fun h2=>one1_q ho1 h2 hos hm
              have hmild:mild hs''=true:=mild_of ho1 hm
              have ih:=runOps_q (df:=df) (Q:=Q) hns n (k+1) _ _ _ _ _ _ r (by omega) h' hl hmild ho hQ
              obtain⟨h012,hb,h3⟩:=ih
              obtain⟨h0,h12⟩:=himp2 h012
              obtain⟨h1,h2⟩:=himp1 h12
              obtain⟨rfl,-,hall⟩:=hq h0
              refine⟨h2,hb,fun tm hsz hkn=>?_⟩
              rw [hdrop]
              unfold wpQuiet
              rw [if_pos (by rw [show (Act.mk tm df).tmps=tm from rfl,guardOf_ok hg h1 hkn])]
              refine⟨v,fun w hw=>?_,by rw [put_act]; exact h3 _ (by rw [size_put]; exact hsz) (hkn.putE hsz hfit _)⟩
              unfold Oper.quietAt
              rw [eval_fev]
              rcases hall w hw _ hkn.agree with hr | ⟨f,args,hr,hc⟩
              · rw [hr]; exact⟨rfl,rfl⟩
              · rw [hr]; exact⟨rfl,hc⟩
structure LexOk (P:Program) (c:Code) (p:List Nat):Prop where
  mixed:P.follows .mixedOrders=true
  lex:Region.lexB .any (opsOf c p)=true
  draw:isDraw c p=true
  noStore:(opsOf c p).toList.all (fun o=>!isStore o.op)=true
  noDef:noDefer (opsOf c p)=true
theorem At.quiet {C:Ctx}{p l l0:List Nat}{df:List Deferred}{env env':Env}{bx bx':Bx}{hp:List Seg}{S:Base}{ds':List Bool}{hs':List Hint}{ob:Prop}(nw:Bool) (ds:List Bool) (hs:List Hint) (hok:LexOk C.P C.body p)
    (hl0:List.range (opsOf C.body p).size=l0) (h:runOps C.P C.nt nw hp S (opsOf C.body p).toList l0 [] ds hs env bx True=⟨[],ds',hs',env',bx',ob⟩) (hm:mild hs=true) (ho:ob)
    (hk:At C ⟨1,p,[]⟩ df env' bx hp S):At C ⟨0,p,l⟩ df env bx hp S:=by
  subst hl0
  refine At.ofAny hok.draw hok.mixed hok.noDef (fun w hw tm hsz hkn=>?_)
  have hlex:=hok.lex
  simp only [Region.lexB,Bool.and_eq_true] at hlex
  have h':=h
  rw [List.range_eq_range'] at h'
  have hr:=runOps_q (df:=df) (Q:=fun a => a.defers=df∧a.tmps.size=C.nt∧∀ w',WOk S bx hp w'→∀ cs,C.Φ cs (lone (C.fr a.tmps df (kont C.body C.tl p)) cs w')) hok.noStore (opsOf C.body p).size 0 [] ds hs env bx True _ (by omega) h' rfl hm ho
    (fun tm hsz hkn =>⟨rfl,hsz,fun w' hw' cs=>hk w' hw' tm hsz hkn cs⟩)
  have hq:=hr.2.2 tm hsz hkn
  rw [List.drop_zero] at hq
  have hany:=wpAnyQ_lex (C:=WOk S bx hp) (md:=.any) hlex.1 (opsOf C.body p).toList 0 (Array.replicate (opsOf C.body p).size false) ⟨tm,df⟩ (by simp) (by simpa using hlex.2) hq
  have:=wpAny_of_quiet (Q':=Qf C p df) (fun a w' hw' hQ =>⟨rfl,hQ.1,hQ.2.1,hQ.2.2 w' hw'⟩) _ _ _ w hw hany
  simpa using this
end Go.Eng

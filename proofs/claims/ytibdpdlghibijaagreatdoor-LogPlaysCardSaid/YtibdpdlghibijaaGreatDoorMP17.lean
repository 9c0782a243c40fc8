/-
  Engine, part 32: regions that draw their order: quiet operations, whichever they are, in the text's order.
-/
import Derived.Test.YtibdpdlghibijaaGreatDoorMP11
import Derived.Test.YtibdpdlghibijaaGreatDoorMP16
namespace Go.Eng
open Go
section
variable {P:Program}{md:Region.Mode}{ops:Array Oper}{W:World→Prop}{Q':Exit→Act→World→Prop}
def wpQ (P:Program) (ops:Array Oper) (W:World→Prop) (L:Act→Prop):List Nat→Act→Prop
  | [],a => L a
  | i :: is,a => qOp P ops W i (wpQ P ops W L is) a
def memB (l:List Nat) (i:Nat):Bool:=l.any fun j=>Nat.beq j i
def chkL (md:Region.Mode) (ops:Array Oper) (q:List Nat):List Nat→Array Bool→Bool
  | [],_ => true
  | k :: is,listed => (Region.ready md ops listed).contains k && Region.free md ops listed k && Nat.beq (clo md ops k 8 listed).size ops.size && (Region.ready md ops (clo md ops k 8 listed)).all (fun j => Nat.beq j k) &&
      (List.range ops.size).all (fun j=>!(clo md ops k 8 listed).getD j false || listed.getD j false || memB q j) && subB listed (clo md ops k 8 listed) && chkL md ops q is (listed.setIfInBounds k true)
def qB (q:List Nat) (l0:Array Bool) (j:Nat):Bool:=l0.getD j false || memB q j
theorem qTo_lx {q:List Nat}{l0 lst:Array Bool}{g:Nat}(hsel:Region.noSelect ops=true) :
    ∀ (is:List Nat) (listed:Array Bool) (a:Act),(∀ j,listed.getD j false=true→qB q l0 j=true)→(∀ k,k∈is→memB q k=true)→setAll is listed=lst→chkL md ops q is listed=true →
      wpQ P ops W (qTo P md ops W Q' (qB q l0) g lst) is a→qTo P md ops W Q' (qB q l0) (g+is.length) listed a
  | [],listed,a,_,_,hm,_,h => by
    have:listed=lst:=hm
    subst this
    exact h
  | k :: is,listed,a,hl,hk,hm,hB,h => by
    simp only [chkL,Bool.and_eq_true] at hB
    obtain⟨⟨⟨⟨⟨⟨hr,hf⟩,hs⟩,hc⟩,hq⟩,hsub⟩,hB'⟩:=hB
    have hr':k∈Region.ready md ops listed:=by simpa using hr
    obtain⟨-,o,h0,-⟩:=mem_ready.1 hr'
    have hst:qOp P ops W k (wpQ P ops W (qTo P md ops W Q' (qB q l0) g lst) is) a:=h
    obtain⟨v,hy,hK⟩:=yieldsIn_of_qOp h0 hst
    have hsz:=Nat.eq_of_beq_eq_true hs
    refine qTo_first h0 (Region.noSelect_spec hsel) hsz (fun j hj => Nat.eq_of_beq_eq_true (List.all_eq_true.1 hc j hj)) (fun j hj => ?_) _ listed a (fun j hj => ?_) (Region.free_spec h0 hf) hr' hy
      (qTo_lx hsel is _ _ (fun j hj=>?_) (fun x hx=>hk x (List.mem_cons_of_mem _ hx)) hm hB' hK)
    · by_cases hjs:j < ops.size
      · have:=List.all_eq_true.1 hq j (List.mem_range.2 hjs)
        rw [hj] at this
        simp only [Bool.not_true,Bool.false_or,Bool.or_eq_true] at this
        rcases this with h1 | h1
        · exact hl j h1
        · unfold qB; rw [h1,Bool.or_true]
      · rw [Array.getD_eq_getD_getElem?,Array.getElem?_eq_none (by omega)] at hj; cases hj
    · by_cases hjs:j < listed.size
      · have:=List.all_eq_true.1 hsub j (List.mem_range.2 hjs)
        rw [hj] at this
        simpa using this
      · rw [Array.getD_eq_getD_getElem?,Array.getElem?_eq_none (by omega)] at hj; cases hj
    · by_cases hjk:k=j
      · subst hjk; unfold qB; rw [hk k (List.mem_cons_self ..),Bool.or_true]
      · rw [getD_set_ne false hjk] at hj; exact hl j hj
end
def noSt (ops:Array Oper) (is:List Nat):Bool:=is.all fun i => match ops[i]? with
  | some o => !isStore o.op
  | none => false
theorem runOps_qI {P:Program}{nt:Nat}{nw:Bool}{hp:List Seg}{S:Base}{ops:Array Oper}{df:List Deferred}{Q:Act→Prop} :
    ∀ (is:List Nat) (dec:List (Nat × Bool)) (ds:List Bool) (hs:List Hint) (env:Env) (bx:Bx) (ob:Prop) (r:R),noSt ops is=true →
      runOps P nt nw hp S ops.toList is dec ds hs env bx ob=r→r.l=[]→mild hs=true→r.ob →
      (∀ tm,tm.size=nt→Knows r.env tm→Q ⟨tm,df⟩)→ob∧r.bx=bx∧∀ tm,tm.size=nt→Knows env tm→wpQ P ops (WOk S bx hp) Q is ⟨tm,df⟩
  | [],dec,ds,hs,env,bx,ob,r,hns,h,hl,hm,ho,hQ => by
    simp only [runOps] at h
    subst h
    exact⟨ho,rfl,fun tm hsz hkn=>hQ tm hsz hkn⟩
  | k :: is,dec,ds,hs,env,bx,ob,r,hns,h,hl,hm,ho,hQ => by
    simp only [runOps] at h
    split at h
    · subst h; simp at hl
    · rename_i o hn
      rw [nth_eq] at hn
      have hi:ops[k]?=some o:=by simpa using hn
      have hns':noSt ops is=true:=by simp only [noSt,List.all_cons,Bool.and_eq_true] at hns; exact hns.2
      have hos:isStore o.op=false:=by
        simp only [noSt,List.all_cons,Bool.and_eq_true,hi] at hns
        simpa using hns.1
      split at h
      · subst h; simp at hl
      · rename_i hfit
        split at h
        · subst h; simp at hl
        · rename_i wanted dec' ds' o1 hg
          obtain⟨ob1,hob1,himp1⟩:=addG_ok ob hg
          rw [hob1] at h
          cases wanted with
          | false =>
            simp only [putK_eq] at h
            have ih:=runOps_qI (df:=df) (Q:=Q) is _ _ _ _ _ _ r hns' h hl hm ho hQ
            obtain⟨h12,hb,h3⟩:=ih
            obtain⟨h1,h2⟩:=himp1 h12
            refine⟨h2,hb,fun tm hsz hkn=>?_⟩
            show qOp P ops (WOk S _ hp) k _ _
            unfold qOp
            simp only [hi]
            rw [if_neg (by rw [guardOf_ok hg h1 hkn]; simp),put_act]
            exact h3 _ (by rw [size_put]; exact hsz) (hkn.putE hsz hfit _)
          | true =>
            simp only at h
            split at h
            · subst h; simp at hl
            · rename_i v ds'' hs'' bx'' o2 ho1
              obtain⟨ob2,hob2,himp2⟩:=addOb_ok (b:=triv P nw o.op) (o:=o2) ob1 (fun ht=>triv_ok ho1 ht)
              rw [hob2] at h
              have h':runOps P nt nw hp S ops.toList is dec' ds'' hs'' (putE o.dst v env) bx'' ob2=r:=by
                cases hfc:forced o.op with
                | true => rw [hfc] at h; simp only [forceV_eq,putK_eq] at h; exact h
                | false => rw [hfc] at h; simp only [putK_eq] at h; exact h
              have hq:o2→bx''=bx∧mild hs''=true∧∀ w,WOk S bx hp w→∀ ρ,Agree env ρ→(execOp ρ o).run P w=.ok (.value v) w∨(∃ f args,(execOp ρ o).run P w=.ok (.enter f args) w∧Calls P f args w (fun e w'=>e=.returned v∧WOk S bx hp w')) :=
                fun h2=>one1_q ho1 h2 hos hm
              have hmild:mild hs''=true:=mild_of ho1 hm
              have ih:=runOps_qI (df:=df) (Q:=Q) is _ _ _ _ _ _ r hns' h' hl hmild ho hQ
              obtain⟨h012,hb,h3⟩:=ih
              obtain⟨h0,h12⟩:=himp2 h012
              obtain⟨h1,h2⟩:=himp1 h12
              obtain⟨rfl,-,hall⟩:=hq h0
              refine⟨h2,hb,fun tm hsz hkn=>?_⟩
              show qOp P ops (WOk S _ hp) k _ _
              unfold qOp
              simp only [hi]
              rw [if_pos (by rw [guardOf_ok hg h1 hkn])]
              refine⟨v,fun w hw=>?_,by rw [put_act]; exact h3 _ (by rw [size_put]; exact hsz) (hkn.putE hsz hfit _)⟩
              unfold Oper.quietAt
              rw [eval_fev]
              rcases hall w hw _ hkn.agree with hr | ⟨f,args,hr,hc⟩
              · rw [hr]; exact⟨rfl,rfl⟩
              · rw [hr]; exact⟨rfl,hc⟩
structure LxOk (P:Program) (c:Code) (p:List Nat) (is:List Nat) (listed lst:Array Bool):Prop where
  sel:Region.noSelect (opsOf c p)=true
  noStore:noSt (opsOf c p) is=true
  mark:setAll is listed=lst
  chk:chkL .any (opsOf c p) is is listed=true
  rest:(Region.ready .any (opsOf c p) lst).all (fun j=>!(qB is listed j))=true
theorem AtD.lx {C:Ctx}{p:List Nat}{df:List Deferred}{env env1:Env}{bx bx1:Bx}{hp:List Seg}{S:Base}{ds1:List Bool}{hs1':List Hint}{ob1:Prop}{listed:Array Bool}(is:List Nat) (g:Nat) (ds:List Bool) (hs:List Hint) (h1:runOps C.P C.nt true hp S (opsOf C.body p).toList is [] ds hs env bx True=⟨[],ds1,hs1',env1,bx1,ob1⟩) (ho1:ob1)
    (hk:AtD C p df g (setAll is listed) env1 bx hp S) (hok:LxOk C.P C.body p is listed (setAll is listed):=by exact⟨by kernel_rfl,by kernel_rfl,rfl,by kernel_rfl,by kernel_rfl⟩) (hm1:mild hs=true:=by rfl)
    (h0:g=0→Region.ready .any (opsOf C.body p) (setAll is listed)=[]:=by first | exact fun h=>absurd h (Nat.succ_ne_zero _) | exact fun _=>by kernel_rfl):AtD C p df (g+is.length) listed env bx hp S:=by
  intro w hw tm hsz hkn
  have base:∀ tm,tm.size=C.nt→Knows env1 tm→qTo C.P .any (opsOf C.body p) (WOk S bx hp) (Qf C p df) (qB is listed) g (setAll is listed) ⟨tm,df⟩:=by
    intro tm hsz hkn
    cases g with
    | zero => exact⟨h0 rfl,fun w hw => hk w hw tm hsz hkn⟩
    | succ g =>
      refine⟨fun w hw=>hk w hw tm hsz hkn,fun j hj hq=>?_⟩
      have h3:=List.all_eq_true.1 hok.rest j hj
      rw [hq] at h3; cases h3
  have hr:=runOps_qI (df:=df) (Q:=qTo C.P .any (opsOf C.body p) (WOk S bx hp) (Qf C p df) (qB is listed) g (setAll is listed)) is [] ds hs env bx True _ hok.noStore h1 rfl hm1 ho1 base
  have hq:=hr.2.2 tm hsz hkn
  have H:=qTo_lx (P:=C.P) (md:=.any) (Q':=Qf C p df) (W:=WOk S bx hp) (q:=is) (l0:=listed) (g:=g) (lst:=setAll is listed) hok.sel is listed ⟨tm,df⟩ (fun j hj=>by unfold qB; rw [hj]; rfl) (fun k hk=>by
    unfold memB; exact List.any_eq_true.2 ⟨k,hk,by simp⟩) hok.mark hok.chk hq
  exact qTo_wp H hw
end Go.Eng

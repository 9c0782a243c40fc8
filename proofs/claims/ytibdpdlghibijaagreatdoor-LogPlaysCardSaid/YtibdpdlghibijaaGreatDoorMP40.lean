/-
  Walk of layer 9's document: a file is set (as in the disk's rows).
-/
import Derived.Test.YtibdpdlghibijaaGreatDoorMP7
import Derived.Test.YtibdpdlghibijaaGreatDoorMP12
import Derived.Test.YtibdpdlghibijaaGreatDoorMP13
import Derived.Test.YtibdpdlghibijaaGreatDoorMP30
namespace Go.Proofs
open Go Go.Eng
set_option maxRecDepth 100000
set_option maxHeartbeats 4000000
attribute [local irreducible] Tri
def restW (n s:List UInt8) (S:FL) (done:Bool) (i:Nat):FL:=if done then (S.drop i).filter (fun q=>!decide (q.1=n)) else setN n s (S.drop i)
theorem restW_step {n s:List UInt8}{S:FL}{i:Nat}{p:List UInt8 × List UInt8}(h:S[i]?=some p):restW n s S true i=(if p.1=n then [] else [p])++restW n s S true (i+1):=by
  have hl:=(List.getElem?_eq_some_iff.1 h).1
  have e:S.drop i=p :: S.drop (i+1):=by
    rw [List.drop_eq_getElem_cons hl]
    congr 1
    rw [List.getElem?_eq_getElem hl] at h
    exact Option.some.inj h
  show (S.drop i).filter _=_++(S.drop (i+1)).filter _
  rw [e,List.filter_cons]
  by_cases hp:p.1=n <;> simp [hp]
theorem restW_less {n s:List UInt8}{S:FL}{i:Nat}{p:List UInt8 × List UInt8}(h:S[i]?=some p) (hp:Op.bytesLess p.1 n=true):restW n s S false i=[p]++restW n s S false (i+1):=by
  have hl:=(List.getElem?_eq_some_iff.1 h).1
  have e:S.drop i=p :: S.drop (i+1):=by
    rw [List.drop_eq_getElem_cons hl]
    congr 1
    rw [List.getElem?_eq_getElem hl] at h
    exact Option.some.inj h
  show setN n s (S.drop i)=_++setN n s (S.drop (i+1))
  rw [e,setN,if_pos hp]; rfl
theorem restW_at {n s:List UInt8}{S:FL}{i:Nat}(h:∀ p,S[i]?=some p→Op.bytesLess p.1 n=false):restW n s S false i=(if s=[] then [] else [(n,s)])++restW n s S true i:=by
  show setN n s (S.drop i)=_++(S.drop i).filter _
  by_cases hl:i < S.length
  · have hi:=List.getElem?_eq_getElem hl
    have e:S.drop i=S[i] :: S.drop (i+1):=List.drop_eq_getElem_cons hl
    rw [e,setN,if_neg (by rw [h _ hi]; simp)]
  · rw [List.drop_of_length_le (by omega),setN]
    simp
theorem restW_end {n s:List UInt8}{S:FL}{i:Nat}(h:S.length≤i):restW n s S true i=[]:=by
  show (S.drop i).filter _=_
  rw [List.drop_of_length_le h]; rfl
def nxtW (n:List UInt8) (S:FL) (i:Nat):FL:=match S[i]? with
  | some p => if p.1=n then [] else [p]
  | none => []
structure HalfW (n s:List UInt8) (S:FL) (i:Nat) (done:Bool) (out:FL):Prop where
  eq:out++(nxtW n S i++restW n s S done (i+1))=setN n s S
  len:out.length≤i+(if done then 1 else 0)
  fin:i=S.length→done=true
theorem Tryz.rSet_w (S:FL) (n s:List UInt8) (a:Option Addr) (cap:Nat) (w:World) (hlen:S.length≤1000000) (hrow:SlOk w a (fl S)) :
    Tri Tryz.prog 62 [.slice a S.length cap,str n,str s] w [] (fun v bx hp=>∃ a1 c1,v=sv a1 (setN n s S).length c1∧bx=[]∧hp=[Seg.row a1 57 2 (setN n s S).length c1 (fl (setN n s S))]):=by
  refine Tri.enter (bx:=[]) (hp:=[]) Tryz.func62 rfl (by kernel_rfl) rfl (Own.nil w) ?_
  refine At.run 100 true [] [] rfl oK ?_
  refine At.nilRow 57 2 ?_
  refine At.loop (n:=S.length+1) (env0:=[(0,.slice a S.length cap),(1,str n),(2,str s),(7,sv none 0 0),(8,.bool false),(9,.int .i64 0)]) (fun m env bx hp => ∃ (i:Nat) (done:Bool) (out:FL) (a1:Option Nat) (c1:Nat),m=S.length+1 - i∧i≤S.length+1∧out++restW n s S done i=setN n s S∧out.length≤i+(if done then 1 else 0)∧(i=S.length+1→done=true) ∧
    env=[(0,.slice a S.length cap),(1,str n),(2,str s),(7,sv a1 out.length c1),(8,.bool done),(9,.int .i64 i)]∧bx=[]∧hp=[Seg.row a1 57 2 out.length c1 (fl out)]) rfl
    ⟨0,false,[],none,0,by simp,by omega,rfl,by simp,by omega,rfl,rfl,rfl⟩ ⟨rfl,rfl,rfl,rfl,rfl,rfl,trivial⟩ ?_
  rintro m env bx hp ⟨i,done,out,a1,c1,rfl,hi,hout,hol,hfin,rfl,rfl,rfl⟩ ih
  by_cases hlt:i < S.length+1
  · refine At.run 100 true [true] [] rfl oK ?_
    refine At.cutS (ι:=(q:(Bool × FL) × (Option Nat × Nat)) ×' HalfW n s S i q.1.1 q.1.2) ⟨3,[0,1,0,0,1,0,0,1,0,1,1,1],[5,6,7,8,9,10,11,12]⟩ (fun q=>[(0,.slice a S.length cap),(1,str n),(2,str s),(7,sv q.1.2.1 q.1.1.2.length q.1.2.2),(8,.bool q.1.1.1),(9,.int .i64 i),(45,.bool (decide ((i:Int) < S.length)))]) (fun _=>[]) (fun q=>[Seg.row q.1.2.1 57 2 q.1.1.2.length q.1.2.2 (fl q.1.1.2)]) ?_ (fun hz=>?_)
    · clear hout hol
      rintro⟨⟨⟨done,out⟩,⟨a1,c1⟩⟩,hh⟩
      have hT:out++(nxtW n S i++restW n s S done (i+1))=setN n s S:=hh.eq
      have hol:out.length≤i+(if done then 1 else 0):=hh.len
      have hd1:(if done=true then 1 else 0)≤1:=by split <;> omega
      have hf2:i=S.length→done=true:=hh.fin
      dsimp only
      by_cases hlt:i < S.length
      · obtain⟨p,hp⟩:∃ p,S[i]?=some p:=⟨_,List.getElem?_eq_getElem hlt⟩
        have hne:S≠[]:=by intro h; rw [h] at hlt; simp at hlt
        obtain⟨g,o,rfl,hc⟩:=hrow.get (fl_ne hne)
        have hmg:g ∉ (⟨w,kys [] []⟩:Base).mods:=by simp [kys]
        have rN:∀ {bx:Bx}{hp:List Seg},RdW ⟨w,kys [] []⟩ bx hp g (o+(i:Int).toNat * 2+0) [str p.1]:=fun {_ _}=>RdW.fileN hc hmg hp (by omega)
        have rE:∀ {bx:Bx}{hp:List Seg},RdW ⟨w,kys [] []⟩ bx hp g (o+(i:Int).toNat * 2) [str p.1,str p.2]:=fun {_ _}=>RdW.fileE hc hmg hp (by omega)
        unfold nxtW at hT
        simp only [hp] at hT
        by_cases hn:p.1=n
        · rw [if_pos hn,List.nil_append] at hT
          refine At.run 100 true [true,false] [hR [str p.1]] rfl (by and_intros <;> first | exact rN | (simp only [bl_of]; simp [hn]) | exact oK) ?_
          refine At.weak (ih _ _ _ _ (by omega) ⟨i+1,done,out,a1,c1,rfl,by omega,hT,by omega,fun h=>hf2 (by omega),rfl,rfl,rfl⟩) ⟨rfl,rfl,rfl,rfl,rfl,some_int_eq (by omega),trivial⟩
        · rw [if_neg hn] at hT
          refine At.run 100 true [true,true] [hR [str p.1],hR [str p.1,str p.2]] rfl (by and_intros <;> first | exact rN | exact rE | (simp only [bl_of]; simp [hn]) | exact oK) ?_
          refine At.append1 0 2 32 rfl rfl rfl rfl rfl rfl rfl rfl rfl trivial (fun _=>rfl) trivial rfl rfl rfl rfl rfl rfl rfl rfl (fun _=>rfl) (by simp [Value.oneCell',str]) (by omega) (by omega) (fun bb a2 c2=>?_)
          refine At.run 100 true [] [] rfl oK ?_
          have e1:(out++[p]).length=out.length+1:=by simp
          have e2:fl (out++[p])=fl out++[str p.1,str p.2]:=fl_snoc _ _
          have ih:=ih _ _ _ _ (by omega) ⟨i+1,done,out++[p],a2,c2,rfl,by omega,by rw [List.append_assoc]; exact hT,by simp; omega,fun h=>hf2 (by omega),rfl,rfl,rfl⟩
          simp only [e1,e2] at ih
          exact At.weak ih ⟨rfl,rfl,rfl,rfl,rfl,some_int_eq (by omega),trivial⟩
      · have hie:i=S.length:=by omega
        subst hie
        have hd:=hf2 rfl
        subst hd
        refine At.run 100 true [false,false] [] rfl oK ?_
        refine At.weak (ih _ _ _ _ (by omega) ⟨S.length+1,true,out,a1,c1,rfl,by omega,?_,by simp; omega,fun _=>rfl,rfl,rfl,rfl⟩) ⟨rfl,rfl,rfl,rfl,rfl,some_int_eq (by omega),trivial⟩
        rw [nxtW,List.getElem?_eq_none (by omega)] at hT
        exact hT
    · cases done with
      | true =>
        simp only [if_true] at hol
        refine At.run 100 true [false,false] [] rfl oK ?_
        refine At.weak (hz ⟨((true,out),(a1,c1)),⟨?_,by simp; omega,fun _=>rfl⟩⟩) ⟨rfl,rfl,rfl,rfl,rfl,rfl,rfl,trivial⟩
        rw [← hout]
        congr 1
        unfold nxtW
        cases hp:S[i]? with
        | some p => exact (restW_step hp).symm
        | none =>
          have:=List.getElem?_eq_none_iff.1 hp
          rw [restW_end this,restW_end (by omega)]; rfl
      | false =>
        simp only [Bool.false_eq_true,if_false,Nat.add_zero] at hol
        have nolt:(∀ p,S[i]?=some p→Op.bytesLess p.1 n=false)→out++((if s=[] then [] else [(n,s)])++(nxtW n S i++restW n s S true (i+1)))=setN n s S:=by
          intro h
          rw [← hout,restW_at h]
          congr 2
          unfold nxtW
          cases hp:S[i]? with
          | some p => exact (restW_step hp).symm
          | none =>
            have:=List.getElem?_eq_none_iff.1 hp
            rw [restW_end this,restW_end (by omega)]; rfl
        refine At.cutS (ι:=PLift (∀ p,S[i]?=some p→Op.bytesLess p.1 n=false)) ⟨0,[1,0,0,1,0,0,0,1,0,0,1,0,1,1,1],[]⟩ (fun _=>[(0,.slice a S.length cap),(1,str n),(2,str s),(7,sv a1 out.length c1),(8,.bool false),(9,.int .i64 i),(34,.bool (!decide (bl ⟨s.toArray⟩=bl ⟨#[]⟩)))]) (fun _=>[]) (fun _=>[Seg.row a1 57 2 out.length c1 (fl out)]) ?_ (fun hy=>?_)
        · rintro⟨hno⟩
          have hT:=nolt hno
          by_cases hs:s=[]
          · subst hs
            rw [if_pos rfl,List.nil_append] at hT
            refine At.run 100 true [false] [] rfl oK ?_
            exact At.weak (hz ⟨((true,out),(a1,c1)),⟨hT,by simp; omega,fun _=>rfl⟩⟩) ⟨rfl,rfl,rfl,rfl,rfl,rfl,rfl,trivial⟩
          · rw [if_neg hs,← List.append_assoc] at hT
            refine At.run 100 true [true] [] rfl (by and_intros <;> first | (simp only [bl_of]; simp [hs]) | exact oK) ?_
            refine At.append1 0 2 32 rfl rfl rfl rfl rfl rfl rfl rfl rfl trivial (fun _=>rfl) trivial rfl rfl rfl rfl rfl rfl rfl rfl (fun _=>rfl) (by simp [Value.oneCell',str]) (by omega) (by omega) (fun bb a2 c2=>?_)
            refine At.run 100 true [] [] rfl oK ?_
            have e1:(out++[(n,s)]).length=out.length+1:=by simp
            have e2:fl (out++[(n,s)])=fl out++[str n,str s]:=fl_snoc _ _
            have hz:=hz ⟨((true,out++[(n,s)]),(a2,c2)),⟨hT,by simp; omega,fun _=>rfl⟩⟩
            simp only [e1,e2] at hz
            exact At.weak hz ⟨rfl,rfl,rfl,rfl,rfl,rfl,rfl,trivial⟩
        · by_cases hlt:i < S.length
          · obtain⟨p,hp⟩:∃ p,S[i]?=some p:=⟨_,List.getElem?_eq_getElem hlt⟩
            have hne:S≠[]:=by intro h; rw [h] at hlt; simp at hlt
            obtain⟨g,o,rfl,hc⟩:=hrow.get (fl_ne hne)
            have hmg:g ∉ (⟨w,kys [] []⟩:Base).mods:=by simp [kys]
            have rN:∀ {bx:Bx}{hp:List Seg},RdW ⟨w,kys [] []⟩ bx hp g (o+(i:Int).toNat * 2+0) [str p.1]:=fun {_ _}=>RdW.fileN hc hmg hp (by omega)
            cases hl:Op.bytesLess p.1 n with
            | true =>
              refine At.run 100 true [true,false,false] [hR [str p.1]] rfl (by and_intros <;> first | exact rN | (simp only [bl_of]; simp [hl]) | exact oK) ?_
              refine At.weak (hz ⟨((false,out),(a1,c1)),⟨?_,by simp; omega,fun h=>by omega⟩⟩) ⟨rfl,rfl,rfl,rfl,rfl,rfl,rfl,trivial⟩
              rw [← hout,restW_less hp hl]
              unfold nxtW
              simp only [hp]
              rw [if_neg (less_ne hl)]
            | false =>
              refine At.run 100 true [true,false,true] [hR [str p.1]] rfl (by and_intros <;> first | exact rN | (simp only [bl_of]; simp [hl]) | exact oK) ?_
              exact At.weak (hy ⟨fun q hq=>by rw [hp] at hq; cases hq; exact hl⟩) ⟨rfl,rfl,rfl,rfl,rfl,rfl,rfl,trivial⟩
          · refine At.run 100 true [true,true,true] [] rfl oK ?_
            exact At.weak (hy ⟨fun q hq=>by rw [List.getElem?_eq_none (by omega)] at hq; cases hq⟩) ⟨rfl,rfl,rfl,rfl,rfl,rfl,rfl,trivial⟩
  · have hie:i=S.length+1:=by omega
    subst hie
    have hd:=hfin rfl
    subst hd
    rw [restW_end (by omega),List.append_nil] at hout
    subst hout
    refine At.run 100 true [false] [] rfl oK ?_
    refine At.keep [] [true] rfl ?_
    exact At.ret [] rfl Tryz.func62 rfl trivial ⟨a1,c1,rfl,rfl,rfl⟩
end Go.Proofs

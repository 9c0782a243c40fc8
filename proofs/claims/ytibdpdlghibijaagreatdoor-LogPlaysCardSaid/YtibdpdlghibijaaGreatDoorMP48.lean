/-
  Walks of layer 9's document: files used, read, set, and put.
-/
import Derived.Test.YtibdpdlghibijaaGreatDoorMP7
import Derived.Test.YtibdpdlghibijaaGreatDoorMP47
import Derived.Test.YtibdpdlghibijaaGreatDoorMP40
import Derived.Test.YtibdpdlghibijaaGreatDoorMP44
import Derived.Test.YtibdpdlghibijaaGreatDoorMP12
namespace Go.Proofs
open Go Go.Eng
set_option maxRecDepth 100000
set_option maxHeartbeats 4000000
attribute [local irreducible] Tri
theorem Tryz.rUsed_w (S:FL) (a:Option Addr) (cap:Nat) (w:World) (hlen:S.length≤9223372036854775807) (hrow:SlOk w a (fl S)) (hu:sumB S≤9223372036854775807) :
    Fun Tryz.prog 71 [.slice a S.length cap] w (.int .i64 (sumB S)):=by
  refine Tri.enter (bx:=[]) (hp:=[]) Tryz.func71 rfl (by kernel_rfl) rfl (Own.nil w) ?_
  refine At.run 100 true [] [] rfl oK ?_
  refine At.loop (n:=S.length) (env0:=[(0,.slice a S.length cap),(3,.int .i64 0),(4,.int .i64 0)]) (fun m env bx hp => ∃ i:Nat,m=S.length - i∧i≤S.length ∧
    env=[(0,.slice a S.length cap),(3,.int .i64 (sumB (S.take i))),(4,.int .i64 i)]∧bx=[]∧hp=[]) rfl
    ⟨0,by simp,by omega,rfl,rfl,rfl⟩ ⟨rfl,rfl,rfl,trivial⟩ ?_
  rintro m env bx hp ⟨i,rfl,hi,rfl,rfl,rfl⟩ ih
  by_cases hlt:i < S.length
  · obtain⟨p,hp⟩:∃ p,S[i]?=some p:=⟨_,List.getElem?_eq_getElem hlt⟩
    have hne:S≠[]:=by intro h; rw [h] at hlt; simp at hlt
    obtain⟨g,o,rfl,hc⟩:=hrow.get (fl_ne hne)
    have hmg:g ∉ (⟨w,kys [] []⟩:Base).mods:=by simp [kys]
    have rB:∀ {bx:Bx}{hp:List Seg},RdW ⟨w,kys [] []⟩ bx hp g (o+(i:Int).toNat * 2+1) [str p.2]:=fun {_ _}=>RdW.fileB hc hmg hp (by omega)
    have hs1:sumB (S.take (i+1))=sumB (S.take i)+p.2.length:=by rw [List.take_add_one,hp]; exact sumB_snoc _ _
    have hs2:sumB (S.take (i+1))≤sumB S:=sumB_take
    have hb2:(bl ⟨p.2.toArray⟩).length=p.2.length:=by rw [bl_of]
    refine At.run 100 true [true] [hR [str p.2]] rfl (by and_intros <;> first | exact rB | exact oK) ?_
    exact At.weak (ih (S.length - (i+1)) _ _ _ (by omega) ⟨i+1,rfl,by omega,rfl,rfl,rfl⟩) ⟨rfl,some_int_eq (by omega),some_int_eq (by omega),trivial⟩
  · have hti:S.take i=S:=List.take_of_length_le (by omega)
    rw [hti]
    refine At.run 100 true [false] [] rfl oK ?_
    exact At.retK [] [] [] rfl rfl Tryz.func71 rfl trivial ⟨rfl,rfl,rfl⟩
theorem readN_drop {S:FL}{n:List UInt8}:∀ {i:Nat},(∀ k p,k < i→S[k]?=some p→p.1≠n)→readN S n=readN (S.drop i) n
  | 0,_ => by simp
  | i+1,h => by
    rw [readN_drop (i:=i) (fun k p hk hp=>h k p (by omega) hp)]
    by_cases hl:i < S.length
    · have hi:=List.getElem?_eq_getElem hl
      rw [List.drop_eq_getElem_cons hl,readN_cons,if_neg (h i _ (by omega) hi)]
    · rw [List.drop_of_length_le (by omega),List.drop_of_length_le (by omega)]
theorem readN_hit {S:FL}{n:List UInt8}{i:Nat}{p:List UInt8 × List UInt8}(h:∀ k p,k < i→S[k]?=some p→p.1≠n) (hp:S[i]?=some p) (hn:p.1=n):readN S n=p.2:=by
  have hl:=(List.getElem?_eq_some_iff.1 hp).1
  rw [readN_drop h,List.drop_eq_getElem_cons hl]
  rw [List.getElem?_eq_getElem hl] at hp
  rw [Option.some.inj hp,readN_cons,if_pos hn]
theorem Tryz.rRead_w (S:FL) (n:List UInt8) (a:Option Addr) (cap:Nat) (w:World) (hlen:S.length≤9223372036854775807) (hrow:SlOk w a (fl S)) :
    Fun Tryz.prog 63 [.slice a S.length cap,str n] w (str (readN S n)):=by
  refine Tri.enter (bx:=[]) (hp:=[]) Tryz.func63 rfl (by kernel_rfl) rfl (Own.nil w) ?_
  refine At.run 100 true [] [] rfl oK ?_
  refine At.loop (n:=S.length) (env0:=[(0,.slice a S.length cap),(1,str n),(5,.int .i64 0)]) (fun m env bx hp => ∃ i:Nat,m=S.length - i∧i≤S.length∧(∀ k p,k < i→S[k]?=some p→p.1≠n) ∧
    env=[(0,.slice a S.length cap),(1,str n),(5,.int .i64 i)]∧bx=[]∧hp=[]) rfl
    ⟨0,by simp,by omega,by omega,rfl,rfl,rfl⟩ ⟨rfl,rfl,rfl,trivial⟩ ?_
  rintro m env bx hp ⟨i,rfl,hi,hno,rfl,rfl,rfl⟩ ih
  by_cases hlt:i < S.length
  · obtain⟨p,hp⟩:∃ p,S[i]?=some p:=⟨_,List.getElem?_eq_getElem hlt⟩
    have hne:S≠[]:=by intro h; rw [h] at hlt; simp at hlt
    obtain⟨g,o,rfl,hc⟩:=hrow.get (fl_ne hne)
    have hmg:g ∉ (⟨w,kys [] []⟩:Base).mods:=by simp [kys]
    have rN:∀ {bx:Bx}{hp:List Seg},RdW ⟨w,kys [] []⟩ bx hp g (o+(i:Int).toNat * 2+0) [str p.1]:=fun {_ _}=>RdW.fileN hc hmg hp (by omega)
    have rB:∀ {bx:Bx}{hp:List Seg},RdW ⟨w,kys [] []⟩ bx hp g (o+(i:Int).toNat * 2+1) [str p.2]:=fun {_ _}=>RdW.fileB hc hmg hp (by omega)
    by_cases hn:p.1=n
    · refine At.run 100 true [true,true] [hR [str p.1],hR [str p.2]] rfl (by and_intros <;> first | exact rN | exact rB | (simp only [bl_of]; exact decide_eq_true hn) | exact oK) ?_
      rw [readN_hit hno hp hn]
      exact At.retK [] [] [] rfl rfl Tryz.func63 rfl trivial ⟨rfl,rfl,rfl⟩
    · refine At.run 100 true [true,false] [hR [str p.1]] rfl (by and_intros <;> first | exact rN | (simp only [bl_of]; exact decide_eq_false hn) | exact oK) ?_
      refine At.weak (ih (S.length - (i+1)) _ _ _ (by omega) ⟨i+1,rfl,by omega,fun k q hk hq=>?_,rfl,rfl,rfl⟩) ⟨rfl,rfl,some_int_eq (by omega),trivial⟩
      by_cases hki:k=i
      · subst hki; rw [hp] at hq; cases hq; exact hn
      · exact hno k q (by omega) hq
  · have hr:readN S n=[]:=by rw [readN_drop hno,List.drop_of_length_le (by omega)]; rfl
    rw [hr]
    refine At.run 100 true [false] [] rfl oK ?_
    exact At.retK [] [] [] rfl rfl Tryz.func63 rfl trivial ⟨rfl,rfl,rfl⟩
theorem Tryz.rPut_w (S:FL) (n s:List UInt8) (at0:Nat) (a:Option Addr) (cap:Nat) (w:World) (hlen:S.length≤1000000) (hrow:SlOk w a (fl S)) (h1:at0+s.length≤16777216) (h2:(readN S n).length≤16777216) :
    Tri Tryz.prog 67 [.slice a S.length cap,str n,.int .i64 at0,str s] w [] (fun v bx hp=>∃ a1 c1,v=sv a1 (setN n (wrB (readN S n) at0 s) S).length c1∧bx=[]∧hp=[Seg.row a1 57 2 (setN n (wrB (readN S n) at0 s) S).length c1 (fl (setN n (wrB (readN S n) at0 s) S))]):=by
  refine Tri.enter (bx:=[]) (hp:=[]) Tryz.func67 rfl (by kernel_rfl) rfl (Own.nil w) ?_
  have hRd:∀ {bx:Bx}{hp:List Seg},CallOb Tryz.prog ⟨w,kys [] []⟩ bx hp 63 [.slice a S.length cap,str n] (str (readN S n)):=fun {_ _} w' hw'=>Tryz.rRead_w S n a cap w' (by omega) (hrow.ext hw'.ext (by simp [kys]))
  have hwl:=wrB_len (readN S n) at0 s
  have hwg:=wrB_get (readN S n) at0 s
  obtain⟨out,hO⟩:∃ out,out=wrB (readN S n) at0 s:=⟨_,rfl⟩
  obtain⟨old,hold⟩:∃ old,old=readN S n:=⟨_,rfl⟩
  rw [← hO,← hold] at hwl hwg
  rw [← hO]
  rw [← hold] at h2 hRd hO
  have hbo:(bl ⟨old.toArray⟩).length=old.length:=by rw [bl_of]
  have hbs:(bl ⟨s.toArray⟩).length=s.length:=by rw [bl_of]
  refine At.run 100 true [] [hC (str old)] rfl (by and_intros <;> first | exact hRd | exact oK) ?_
  refine At.nilRow 5 1 ?_
  refine At.loop (n:=out.length) (env0:=[(0,.slice a S.length cap),(1,str n),(2,.int .i64 at0),(3,str s),(9,str old),(10,sv none 0 0),(11,.int .i64 0)]) (fun m env bx hp => ∃ (i:Nat) (a1:Option Nat) (c1:Nat),m=out.length - i∧i≤out.length ∧
    env=[(0,.slice a S.length cap),(1,str n),(2,.int .i64 at0),(3,str s),(9,str old),(10,sv a1 i c1),(11,.int .i64 i)]∧bx=[]∧hp=[Seg.row a1 5 1 i c1 (u8s (out.take i))]) rfl
    ⟨0,none,0,by simp,by omega,rfl,rfl,rfl⟩ ⟨rfl,rfl,rfl,rfl,rfl,rfl,rfl,trivial⟩ ?_
  rintro m env bx hp ⟨i,a1,c1,rfl,hi,rfl,rfl,rfl⟩ ih
  by_cases hlt:i < out.length
  · obtain⟨x,hx⟩:∃ x,out[i]?=some x:=⟨_,List.getElem?_eq_getElem hlt⟩
    have hxv:=hwg i (by omega)
    rw [hx] at hxv
    have htk:u8s (out.take (i+1))=u8s (out.take i)++[.int .u8 x.toNat]:=by rw [List.take_add_one,hx,u8s_append]; rfl
    refine At.cutS (ι:=Unit) ⟨3,[1,1,0,0,1,0,0,1,0,1,1,1],[2,3,4]⟩ (fun _=>[(0,.slice a S.length cap),(1,str n),(2,.int .i64 at0),(3,str s),(9,str old),(11,.int .i64 i),(53,sv a1 i c1),(54,.int .u8 x.toNat)]) (fun _=>[]) (fun _=>[Seg.row a1 5 1 i c1 (u8s (out.take i))]) ?_ (fun hz=>?_)
    · rintro⟨⟩
      refine At.append1 0 1 1 rfl rfl rfl rfl rfl rfl rfl rfl rfl trivial (fun _=>rfl) trivial rfl rfl rfl rfl rfl rfl rfl rfl (fun _=>rfl) (by simp [Value.oneCell']) (by omega) (by omega) (fun bb a2 c2=>?_)
      refine At.run 100 true [] [] rfl oK ?_
      have ih:=ih _ _ _ _ (by omega) ⟨i+1,a2,c2,rfl,by omega,rfl,rfl,rfl⟩
      rw [htk] at ih
      exact At.weak ih ⟨rfl,rfl,rfl,rfl,rfl,rfl,some_int_eq (by omega),trivial⟩
    · have hz:=hz ()
      refine At.cutS (ι:=Unit) ⟨3,[0,0,1,0,0,1,0,0,1,0,1,1,1],[4,5,6,7,8,9,10]⟩ (fun _=>[(0,.slice a S.length cap),(1,str n),(2,.int .i64 at0),(3,str s),(9,str old),(10,sv a1 i c1),(11,.int .i64 i),(12,.int .u8 0),(33,.bool (decide ((at0:Int)≤i)))]) (fun _=>[]) (fun _=>[Seg.row a1 5 1 i c1 (u8s (out.take i))]) ?_ (fun hy=>?_)
      · rintro⟨⟩
        by_cases hin:at0≤i∧i < at0+s.length
        · rw [if_pos hin] at hxv
          have ec:(bl ⟨s.toArray⟩)[((i:Int) - at0).toNat]?.getD 0=x:=by rw [bl_of,show ((i:Int) - at0).toNat=i - at0 by omega,← hxv]; rfl
          refine At.run 100 true [true,true] [] rfl oK ?_
          exact At.weak hz ⟨rfl,rfl,rfl,rfl,rfl,rfl,rfl,some_int_eq (by rw [ec]),trivial⟩
        · rw [if_neg hin] at hxv
          refine At.cutS (ι:=Unit) ⟨0,[1,1,1,0,1,0,0,1,0,0,1,0,1,1,1],[]⟩ (fun _=>[(0,.slice a S.length cap),(1,str n),(2,.int .i64 at0),(3,str s),(9,str old),(10,sv a1 i c1),(11,.int .i64 i),(12,.int .u8 0),(49,.bool (decide ((i:Int) < (bl ⟨old.toArray⟩).length)))]) (fun _=>[]) (fun _=>[Seg.row a1 5 1 i c1 (u8s (out.take i))]) ?_ (fun hv=>?_)
          · rintro⟨⟩
            by_cases hlo:i < old.length
            · rw [if_pos hlo] at hxv
              have ec:(bl ⟨old.toArray⟩)[((i:Nat):Int).toNat]?.getD 0=x:=by rw [bl_of,Int.toNat_natCast,← hxv]; rfl
              refine At.run 100 true [true] [] rfl oK ?_
              exact At.weak hz ⟨rfl,rfl,rfl,rfl,rfl,rfl,rfl,some_int_eq (by rw [ec]),trivial⟩
            · rw [if_neg hlo] at hxv
              cases hxv
              refine At.run 100 true [false] [] rfl oK ?_
              exact At.weak hz ⟨rfl,rfl,rfl,rfl,rfl,rfl,rfl,rfl,trivial⟩
          · have hv:=hv ()
            by_cases ha:at0≤i
            · refine At.run 100 true [true,false] [] rfl oK ?_
              exact At.weak hv ⟨rfl,rfl,rfl,rfl,rfl,rfl,rfl,rfl,rfl,trivial⟩
            · refine At.run 100 true [false,false] [] rfl oK ?_
              exact At.weak hv ⟨rfl,rfl,rfl,rfl,rfl,rfl,rfl,rfl,rfl,trivial⟩
      · have hy:=hy ()
        by_cases hlo:i < old.length
        · refine At.run 100 true [true,true] [] rfl oK ?_
          exact At.weak hy ⟨rfl,rfl,rfl,rfl,rfl,rfl,rfl,rfl,rfl,trivial⟩
        · refine At.run 100 true [false,true] [] rfl oK ?_
          exact At.weak hy ⟨rfl,rfl,rfl,rfl,rfl,rfl,rfl,rfl,rfl,trivial⟩
  · have hie:i=out.length:=by omega
    subst hie
    rw [List.take_length]
    refine At.run 100 true [false,false] [] rfl oK ?_
    refine At.step [] rfl rfl rfl rfl rfl trivial (OpOk.toStr (l:=out) 0 rfl rfl rfl rfl rfl rfl ?_)
    refine At.step [] rfl rfl rfl rfl rfl trivial (OpOk.call rfl (fun w' hw'=>Tryz.rSet_w S n out a cap w' hlen (hrow.ext hw'.ext (by simp [kys]))) ?_)
    rintro v bx' hp' ⟨a2,c2,rfl,rfl,rfl⟩
    refine At.run 100 true [] [] rfl oK ?_
    refine At.keep [] [true] rfl ?_
    exact At.ret [] rfl Tryz.func67 rfl trivial ⟨a2,c2,rfl,rfl,rfl⟩
theorem one_of {l:List Value}(h:l.all Value.oneCell'=true):∀ u,u∈l→u.oneCell'=true:=List.all_eq_true.1 h
def rdV (vS vK vP:Value) (r:Nat):List Value:=[vS,vK,vP,.int .i64 r]
def wrL (p:List UInt8 × Nat × List UInt8):List Value:=[str p.1,.int .i64 p.2.1,str p.2.2]
theorem wrL_len (W:List (List UInt8 × Nat × List UInt8)):(W.flatMap wrL).length=W.length * 3:=flat_len fun _ _=>rfl
theorem Tryz.rSync_w (sa ka pa:Option Addr) (sn sc kn kc pn pc r:Nat) (w:World) :
    Fun Tryz.prog 33 [.agg ⟨rdV (.slice sa sn sc) (.slice ka kn kc) (.slice pa pn pc) r⟩] w (.agg ⟨rdV (.slice sa sn sc) (.slice sa sn sc) (.slice none 0 0) r⟩):=by
  refine Tri.enter (bx:=[]) (hp:=[]) Tryz.func33 rfl (by kernel_rfl) rfl (Own.nil w) ?_
  refine At.run 100 true [] [] rfl trivial ?_
  refine At.step [] rfl rfl rfl rfl rfl trivial (OpOk.box rfl rfl rfl fun bq hbq=>?_)
  refine At.step [] rfl rfl rfl rfl rfl trivial (OpOk.alloc (cs:=[.slice none 0 0,.slice none 0 0,.slice none 0 0,.int .i64 0]) rfl (by kernel_rfl) fun b2 hb2=>?_)
  refine At.run 100 true [] [hB 1,hB 1,hB 1,hB 1,hB 0] rfl oK ?_
  exact At.retK [] [] [hB 0] rfl rfl Tryz.func33 rfl oK ⟨rfl,rfl,rfl⟩
theorem setN_len (n s:List UInt8):∀ S:FL,(setN n s S).length≤S.length+1
  | [] => by
    unfold setN
    split <;> simp
  | p :: l => by
    unfold setN
    split
    · have:=setN_len n s l
      simp only [List.length_cons]; omega
    · have h1:=List.length_filter_le (fun q:List UInt8 × List UInt8 => !decide (q.1=n)) (p :: l)
      rw [List.length_append]
      split <;> simp only [List.length_cons,List.length_nil] at h1 ⊢ <;> omega
def BOK (S:FL):Prop:=∀ p,p∈S→p.2.length≤1048576
theorem BOK.read {S:FL}(h:BOK S) (n:List UInt8):(readN S n).length≤1048576:=by
  rcases @readN_mem S n with h1 | h1
  · rw [h1]; simp
  · exact h _ h1
theorem BOK.set {S:FL}(h:BOK S) {n s:List UInt8}(hs:s.length≤1048576):BOK (setN n s S):=by
  intro p hp
  rcases (setN_mem n s S p).1 hp with⟨-,rfl⟩ | ⟨h1,-⟩
  · exact hs
  · exact h p h1
theorem BOK.put {S:FL}(h:BOK S) {n s:List UInt8}{at0:Nat}(hs:at0+s.length≤1048576):BOK (setN n (wrB (readN S n) at0 s) S):=by
  refine h.set ?_
  have:=h.read n
  rw [wrB_len]; omega
def kpN (ks:List Int) (i:Nat) (l:Nat):Int:=match ks[i]? with
  | some k => if k < l then k else l
  | none => l
theorem kpN_min (ks:List Int) (i l:Nat) (hl:l≤1048576):(0 < kpN ks i l↔0 < min (max (keepN ks i) 0) (l:Int))∧(0 < kpN ks i l→min (max (keepN ks i) 0) (l:Int)=kpN ks i l)∧kpN ks i l≤l:=by
  unfold kpN keepN
  cases ks[i]? with
  | none => simp only; omega
  | some k => simp only; split <;> omega
def OneOf (t:TypeId) (sz:Nat) (ka:Option Addr) (kc:Nat) (xs0 xs:List Value) (a:Option Addr) (n c:Nat) (hp:List Seg):Prop :=
  (hp=[]∧a=ka∧c=kc∧xs=xs0)∨∃ g,a=svA g∧hp=[Seg.row g t sz n c xs]
theorem OneOf.sl {S:Base}{t:TypeId}{sz:Nat}{ka:Option Addr}{kc:Nat}{xs0 xs:List Value}{a:Option Addr}{n c:Nat}{hp:List Seg}(h:OneOf t sz ka kc xs0 xs a n c hp) (hm:S.mods=[]) (h0:SlOk S.w0 ka xs0) {bx:Bx}{hp':List Seg}{w:World}(hw:WOk S bx hp' w) (hs:∀ s,s∈hp→s∈hp'):SlOk w a xs:=by
  rcases h with⟨-,rfl,-,rfl⟩ | ⟨g,rfl,rfl⟩
  · exact h0.ext hw.ext (by simp [hm])
  · exact SlOk.row (hw.hp _ (hs (Seg.row g t sz n c xs) (by simp)))
theorem Tryz.rCrash_w (K:FL) (W:List (List UInt8 × Nat × List UInt8)) (ks:List Int) (sa ka pa xa:Option Addr) (sn sc kc pc xc r:Nat) (w:World) (hlen:K.length+W.length≤1000000) (hK:SlOk w ka (fl K)) (hW:SlOk w pa (W.flatMap wrL)) (hks:SlOk w xa (i64s ks)) (_hkl:ks.length≤1000000)
    (hki:∀ x,x∈ks→inK .i64 x) (hBK:BOK K) (hWb:∀ e,e∈W→e.2.1+e.2.2.length≤1048576) :
    Tri Tryz.prog 34 [.agg ⟨rdV (.slice sa sn sc) (.slice ka K.length kc) (.slice pa W.length pc) r⟩,.slice xa ks.length xc] w [] (fun v bx hp => ∃ a1 c1,v=.agg ⟨rdV (.slice a1 (crashR K W (keepN ks) 0).length c1) (.slice a1 (crashR K W (keepN ks) 0).length c1) (.slice none 0 0) r⟩∧bx=[] ∧
      OneOf 57 2 ka kc (fl K) (fl (crashR K W (keepN ks) 0)) a1 (crashR K W (keepN ks) 0).length c1 hp):=by
  refine Tri.enter (bx:=[]) (hp:=[]) Tryz.func34 rfl (by kernel_rfl) rfl (Own.nil w) ?_
  refine At.run 100 true [] [] rfl trivial ?_
  refine At.step [] rfl rfl rfl rfl rfl trivial (OpOk.box rfl rfl rfl fun bq hbq=>?_)
  refine At.step [] rfl rfl rfl rfl rfl trivial (OpOk.alloc (cs:=[.slice none 0 0,.slice none 0 0,.slice none 0 0,.int .i64 0]) rfl (by kernel_rfl) fun b4 hb4=>?_)
  refine At.run 100 true [] [] rfl oK ?_
  refine At.loop (n:=W.length) (env0:=[(1,.slice xa ks.length xc),(2,.pointer (some ⟨bq,0,none⟩)),(4,.pointer (some ⟨b4,0,none⟩)),(5,.int .i64 0)]) (fun m env bx hp => ∃ (i:Nat) (K1:FL) (a1:Option Addr) (c1:Nat),m=W.length - i∧i≤W.length∧crashR K1 (W.drop i) (keepN ks) i=crashR K W (keepN ks) 0∧K1.length≤K.length+i∧BOK K1∧OneOf 57 2 ka kc (fl K) (fl K1) a1 K1.length c1 hp ∧
    env=[(1,.slice xa ks.length xc),(2,.pointer (some ⟨bq,0,none⟩)),(4,.pointer (some ⟨b4,0,none⟩)),(5,.int .i64 i)]∧bx=[(b4,71,[.slice none 0 0,.slice none 0 0,.slice none 0 0,.int .i64 0]),(bq,71,rdV (.slice sa sn sc) (.slice a1 K1.length c1) (.slice pa W.length pc) r)]) rfl
    ⟨0,K,ka,kc,by simp,by omega,rfl,by omega,hBK,.inl ⟨rfl,rfl,rfl,rfl⟩,rfl,rfl⟩ ⟨rfl,rfl,rfl,rfl,trivial⟩ ?_
  rintro m env bx hp ⟨i,K1,a1,c1,rfl,hi,hcr,hKl,hBk,hone,rfl,rfl⟩ ih
  by_cases hlt:i < W.length
  · obtain⟨e,he⟩:∃ e,W[i]?=some e:=⟨_,List.getElem?_eq_getElem hlt⟩
    have hem:=List.mem_of_getElem? he
    have hWe:=hWb e hem
    have hdrop:W.drop i=e :: W.drop (i+1):=by rw [List.drop_eq_getElem_cons hlt,(List.getElem?_eq_some_iff.1 he).2]
    have hne:W.flatMap wrL≠[]:=by
      intro h
      have:=wrL_len W
      rw [h] at this; simp only [List.length_nil] at this; omega
    obtain⟨g,o,rfl,hc⟩:=hW.get hne
    have hmg:g ∉ (⟨w,kys [] []⟩:Base).mods:=by simp [kys]
    have rE:∀ {bx:Bx}{hp:List Seg},RdW ⟨w,kys [] []⟩ bx hp g (o+(i:Int).toNat * 3) (wrL e):=fun {_ _}=>RdW.sl hc hmg (i * 3) (by omega) (fun j u hu=>flat_get (f:=wrL) (sz:=3) (fun _ _=>rfl) he j u hu)
    refine At.run 100 true [true] [hB 1,hB 1,hR (wrL e)] rfl (by and_intros <;> first | exact rE | exact oK) ?_
    refine At.step [] rfl rfl rfl rfl rfl trivial (OpOk.alloc (cs:=[str [],.int .i64 0,str []]) rfl (by kernel_rfl) fun b6 hb6=>?_)
    have hbs:(bl ⟨e.2.2.toArray⟩).length=e.2.2.length:=by rw [bl_of]
    refine At.cutS (ι:=Unit) ⟨0,[1,1,1,1,0,0,1,0,0,1,0,1],[]⟩ (fun _ => [(1,.slice xa ks.length xc),(2,.pointer (some ⟨bq,0,none⟩)),(4,.pointer (some ⟨b4,0,none⟩)),(5,.int .i64 i),(6,.pointer (some ⟨b6,0,none⟩)),(7,.int .i64 (kpN ks i e.2.2.length)),(40,.bool (decide (0 < kpN ks i e.2.2.length)))])
      (fun _=>[(b6,118,wrL e),(b4,71,[.slice none 0 0,.slice none 0 0,.slice none 0 0,.int .i64 0]),(bq,71,rdV (.slice sa sn sc) (.slice a1 K1.length c1) (.slice (some ⟨g,o,none⟩) W.length pc) r)]) (fun _=>hp) ?_ (fun hz=>?_)
    · rintro⟨⟩
      obtain⟨k1,k2,k3⟩:=kpN_min ks i e.2.2.length (by omega)
      by_cases hk:0 < kpN ks i e.2.2.length
      · have hcr2:crashR (setN e.1 (wrB (readN K1 e.1) e.2.1 (e.2.2.take (kpN ks i e.2.2.length).toNat)) K1) (W.drop (i+1)) (keepN ks) (i+1)=crashR K W (keepN ks) 0:=by
          rw [← hcr,hdrop]
          show _=crashR (if 0 < min (max (keepN ks i) 0) (e.2.2.length:Int) then setN e.1 (wrB (readN K1 e.1) e.2.1 (e.2.2.take (min (max (keepN ks i) 0) (e.2.2.length:Int)).toNat)) K1 else K1) _ _ _
          rw [if_pos (k1.1 hk),k2 hk]
        have htl:(e.2.2.take (kpN ks i e.2.2.length).toNat).length≤e.2.2.length:=by rw [List.length_take]; omega
        have hrd:=hBk.read e.1
        refine At.run 100 true [true] [] rfl oK ?_
        refine At.quietT 10 3 true [] [hB 2,hB 0,hB 0,hB 0] ⟨by kernel_rfl,by kernel_rfl,rfl,by kernel_rfl,by kernel_rfl,by kernel_rfl,rfl,rfl,rfl⟩ rfl rfl rfl oK rfl ?_
        simp only [bl_of]
        refine AtD.fork1 10 (by kernel_rfl) (StepD.by [] rfl rfl rfl rfl trivial (OpOk.call rfl (fun w' hw'=>Tryz.rPut_w K1 e.1 (e.2.2.take (kpN ks i e.2.2.length).toNat) e.2.1 a1 c1 w' (by omega) (hone.sl (by rfl) hK hw' (fun s hs=>hs)) (by omega) (by omega)) ?_))
        rintro v bx' hp' ⟨a2,c2,rfl,rfl,rfl⟩
        refine AtD.pures (ob:=True) true (by kernel_rfl) [11] (fuel:=1) (by kernel_rfl) rfl oK ?_
        refine AtD.fork1 12 (by kernel_rfl) (StepD.by0 [] rfl rfl rfl trivial (OpOk.one true [] [hB 2] rfl oK ?_))
        refine AtD.done (by kernel_rfl) ?_
        refine At.run 100 true [] [] rfl oK ?_
        have hsl:=setN_len e.1 (wrB (readN K1 e.1) e.2.1 (e.2.2.take (kpN ks i e.2.2.length).toNat)) K1
        have hBn:BOK (setN e.1 (wrB (readN K1 e.1) e.2.1 (e.2.2.take (kpN ks i e.2.2.length).toNat)) K1):=hBk.put (by omega)
        rcases hone with⟨rfl,-,-,-⟩ | ⟨g1,-,rfl⟩
        · refine At.keep [false,true,true] [true] rfl ?_
          exact At.weak (ih _ _ _ _ (by omega) ⟨i+1,_,_,_,rfl,by omega,hcr2,by omega,hBn,.inr ⟨a2,rfl,rfl⟩,rfl,rfl⟩) ⟨rfl,rfl,rfl,some_int_eq (by omega),trivial⟩
        · refine At.keep [false,true,true] [true,false] rfl ?_
          exact At.weak (ih _ _ _ _ (by omega) ⟨i+1,_,_,_,rfl,by omega,hcr2,by omega,hBn,.inr ⟨a2,rfl,rfl⟩,rfl,rfl⟩) ⟨rfl,rfl,rfl,some_int_eq (by omega),trivial⟩
      · have hcr2:crashR K1 (W.drop (i+1)) (keepN ks) (i+1)=crashR K W (keepN ks) 0:=by
          rw [← hcr,hdrop]
          show _=crashR (if 0 < min (max (keepN ks i) 0) (e.2.2.length:Int) then setN e.1 (wrB (readN K1 e.1) e.2.1 (e.2.2.take (min (max (keepN ks i) 0) (e.2.2.length:Int)).toNat)) K1 else K1) _ _ _
          rw [if_neg (fun h=>hk (k1.2 h))]
        refine At.run 100 true [false] [] rfl oK ?_
        rcases hone with⟨rfl,h1,h2,h3⟩ | ⟨g1,h1,rfl⟩
        · refine At.keep [false,true,true] [] rfl ?_
          exact At.weak (ih _ _ _ _ (by omega) ⟨i+1,_,_,_,rfl,by omega,hcr2,by omega,hBk,.inl ⟨rfl,h1,h2,h3⟩,rfl,rfl⟩) ⟨rfl,rfl,rfl,some_int_eq (by omega),trivial⟩
        · refine At.keep [false,true,true] [true] rfl ?_
          exact At.weak (ih _ _ _ _ (by omega) ⟨i+1,_,_,_,rfl,by omega,hcr2,by omega,hBk,.inr ⟨g1,h1,rfl⟩,rfl,rfl⟩) ⟨rfl,rfl,rfl,some_int_eq (by omega),trivial⟩
    · have hz:=hz ()
      by_cases hik:i < ks.length
      · obtain⟨k,hk⟩:∃ k,ks[i]?=some k:=⟨_,List.getElem?_eq_getElem hik⟩
        have hik64:i64s ks≠[]:=by
          intro h
          have:=congrArg List.length h
          simp [i64s] at this
          rw [this] at hik; simp at hik
        obtain⟨xg,xo,rfl,hxc⟩:=hks.get hik64
        have hmx:xg ∉ (⟨w,kys [] []⟩:Base).mods:=by simp [kys]
        have rK:∀ {bx:Bx}{hp:List Seg},RdW ⟨w,kys [] []⟩ bx hp xg (xo+(i:Int).toNat * 1) [.int .i64 k]:=fun {_ _}=>RdW.sl hxc hmx i (by omega) (fun j u hu=>by
          match j,hu with
          | 0,hu => simp only [List.getElem?_cons_zero,Option.some.injEq] at hu; subst hu; show (ks.map (Value.int .i64))[i+0]?=_; rw [List.getElem?_map,Nat.add_zero,hk]; rfl)
        have hkk:inK .i64 k:=hki k (List.mem_of_getElem? hk)
        have hkp:kpN ks i e.2.2.length=if k < e.2.2.length then k else e.2.2.length:=by unfold kpN; rw [hk]
        by_cases hkl2:k < e.2.2.length
        · rw [if_pos hkl2] at hkp
          rw [hkp] at hz
          refine At.run 100 true [true,true] [hB 0,hB 0,hR [.int .i64 k],hR [.int .i64 k]] rfl (by and_intros <;> first | exact rK | exact one_of rfl | exact oK) ?_
          exact At.weak hz ⟨rfl,rfl,rfl,rfl,rfl,rfl,rfl,trivial⟩
        · rw [if_neg hkl2] at hkp
          rw [hkp] at hz
          refine At.run 100 true [true,false] [hB 0,hB 0,hR [.int .i64 k]] rfl (by and_intros <;> first | exact rK | exact one_of rfl | exact oK) ?_
          exact At.weak hz ⟨rfl,rfl,rfl,rfl,rfl,some_int_eq (by omega),by rw [hbs]; rfl,trivial⟩
      · have hkp:kpN ks i e.2.2.length=e.2.2.length:=by unfold kpN; rw [List.getElem?_eq_none (by omega)]
        rw [hkp] at hz
        refine At.run 100 true [false,false] [hB 0,hB 0] rfl (by and_intros <;> first | exact one_of rfl | exact oK) ?_
        exact At.weak hz ⟨rfl,rfl,rfl,rfl,rfl,some_int_eq (by omega),by rw [hbs]; rfl,trivial⟩
  · have hie:i=W.length:=by omega
    subst hie
    rw [List.drop_length] at hcr
    have hcr:K1=crashR K W (keepN ks) 0:=hcr
    rw [← hcr]
    refine At.run 100 true [false] [hB 1,hB 1,hB 1,hB 1,hB 1,hB 0] rfl (by and_intros <;> first | exact one_of rfl | exact oK) ?_
    rcases hone with⟨rfl,h1,h2,h3⟩ | ⟨g1,h1,rfl⟩
    · exact At.retK [] [] [hB 0] rfl rfl Tryz.func34 rfl oK ⟨_,_,rfl,rfl,.inl ⟨rfl,h1,h2,h3⟩⟩
    · exact At.retK [] [true] [hB 0] rfl rfl Tryz.func34 rfl oK ⟨_,_,rfl,rfl,.inr ⟨g1,h1,rfl⟩⟩
theorem wrL_one {W:List (List UInt8 × Nat × List UInt8)}:∀ v,v∈W.flatMap wrL→v.oneCell'=true:=by
  intro v hv
  obtain⟨e,-,h⟩:=List.mem_flatMap.1 hv
  exact one_of (l:=wrL e) rfl v h
theorem setN_sum (n s:List UInt8):∀ S:FL,sumB (setN n s S)≤sumB S+s.length
  | [] => by
    unfold setN
    split <;> simp [sumB]
  | p :: l => by
    unfold setN
    split
    · have:=setN_sum n s l
      simp only [sumB_cons]; omega
    · have hf:sumB ((p :: l).filter fun q=>!decide (q.1=n))≤sumB (p :: l):=by
        generalize p :: l=L
        induction L with
        | nil => simp [sumB]
        | cons q L ih =>
          rw [List.filter_cons]
          split <;> simp only [sumB_cons] <;> omega
      have e:sumB ((if s=[] then [] else [(n,s)])++(p :: l).filter fun q=>!decide (q.1=n))=sumB (if s=[] then [] else [(n,s)])+sumB ((p :: l).filter fun q=>!decide (q.1=n)):=by simp [sumB]
      rw [e]
      have e2:sumB (if s=[] then [] else [(n,s)])≤s.length:=by split <;> simp [sumB]
      omega
theorem Tryz.rWrites_w (S:FL) (W:List (List UInt8 × Nat × List UInt8)) (n s:List UInt8) (az:Int) (a ka pa:Option Addr) (ca kn kc pc r:Nat) (w:World) (hlen:S.length≤1000000) (hS:SlOk w a (fl S)) (hP:SlOk w pa (W.flatMap wrL)) (hW:W.length≤1000000) (hn:n.length≤9223372036854775807) (hs:s.length≤1048576)
    (hz:inK .i64 az) (hu:sumB S≤1048576) (_hr:r≤9223372036854775807) :
    Tri Tryz.prog 70 [.agg ⟨rdV (.slice a S.length ca) (.slice ka kn kc) (.slice pa W.length pc) r⟩,.agg ⟨[str n,.int .i64 az,str s]⟩] w [] (fun v bx hp => bx=[] ∧
      if wrR r S n az s=0 then ∃ a1 c1 a2 c2,v=.tuple #[.agg ⟨rdV (sv a1 (setN n (wrB (readN S n) az.toNat s) S).length c1) (.slice ka kn kc) (sv a2 (W.length+1) c2) r⟩,.int .i64 0] ∧
        hp=[Seg.row a2 118 3 (W.length+1) c2 ((W++[(n,az.toNat,s)]).flatMap wrL),Seg.row a1 57 2 (setN n (wrB (readN S n) az.toNat s) S).length c1 (fl (setN n (wrB (readN S n) az.toNat s) S))]
      else v=.tuple #[.agg ⟨rdV (.slice a S.length ca) (.slice ka kn kc) (.slice pa W.length pc) r⟩,.int .i64 (wrR r S n az s)]∧hp=[]):=by
  refine Tri.enter (bx:=[]) (hp:=[]) Tryz.func70 rfl (by kernel_rfl) rfl (Own.nil w) ?_
  have hbn:(bl ⟨n.toArray⟩).length=n.length:=by rw [bl_of]
  have hbs:(bl ⟨s.toArray⟩).length=s.length:=by rw [bl_of]
  have hbr:(bl ⟨(readN S n).toArray⟩).length=(readN S n).length:=by rw [bl_of]
  have hrl:(readN S n).length≤sumB S:=by
    rcases @readN_mem S n with h5 | h5
    · rw [h5]; simp
    · exact sumB_mem h5
  have hNm:∀ {bx:Bx}{hp:List Seg},CallOb Tryz.prog ⟨w,kys [] []⟩ bx hp 48 [str n] (.bool (namedB n)):=fun {_ _} w' hw'=>Tryz.rNamed_w n w' hn
  have hRd:∀ {bx:Bx}{hp:List Seg},CallOb Tryz.prog ⟨w,kys [] []⟩ bx hp 63 [.slice a S.length ca,str n] (str (readN S n)):=fun {_ _} w' hw'=>Tryz.rRead_w S n a ca w' (by omega) (hS.ext hw'.ext (by simp [kys]))
  refine At.run 100 true [] [] rfl trivial ?_
  refine At.step [] rfl rfl rfl rfl rfl trivial (OpOk.box rfl rfl rfl fun bq hbq=>?_)
  refine At.step [] rfl rfl rfl rfl rfl trivial (OpOk.box rfl rfl rfl fun b3 hb3=>?_)
  refine At.step [] rfl rfl rfl rfl rfl trivial (OpOk.alloc (cs:=[.slice none 0 0,.slice none 0 0,.slice none 0 0,.int .i64 0]) rfl (by kernel_rfl) fun b4 hb4=>?_)
  cases h1:namedB n with
  | false =>
    have hE:wrR r S n az s=1:=by unfold wrR; rw [if_pos (.inl h1)]
    rw [h1] at hNm
    refine At.run 100 true [true,true] [hB 1,hC (.bool false),hB 2,hB 0] rfl (by and_intros <;> first | exact hNm | exact one_of rfl | exact oK) ?_
    exact At.retK [] [] [hB 0] rfl rfl Tryz.func70 rfl oK ⟨rfl,by rw [if_neg (by omega),hE]; exact⟨rfl,rfl⟩⟩
  | true =>
  rw [h1] at hNm
  by_cases h2:s=[]
  · have hE:wrR r S n az s=1:=by unfold wrR; rw [if_pos (.inr h2)]
    subst h2
    refine At.run 100 true [false,true] [hB 1,hC (.bool true),hB 1,hB 2,hB 0] rfl (by and_intros <;> first | exact hNm | exact one_of rfl | exact oK) ?_
    exact At.retK [] [] [hB 0] rfl rfl Tryz.func70 rfl oK ⟨rfl,by rw [if_neg (by omega),hE]; exact⟨rfl,rfl⟩⟩
  have hif1:¬ (namedB n=false∨s=[]):=by rw [h1]; simp [h2]
  have hsd:decide (bl ⟨s.toArray⟩=bl ⟨#[]⟩)=false:=by rw [bl_of]; simp [h2,bl]
  by_cases h3:az < 0
  · have hE:wrR r S n az s=11:=by unfold wrR; rw [if_neg hif1,if_pos (.inl h3)]
    refine At.run 100 true [false,false,true,true] [hB 1,hC (.bool true),hB 1,hB 2,hB 1,hC (str (readN S n)),hB 1,hB 2,hB 0] rfl (by and_intros <;> first | exact hNm | exact hRd | exact hsd | exact one_of rfl | exact oK) ?_
    exact At.retK [] [] [hB 0] rfl rfl Tryz.func70 rfl oK ⟨rfl,by rw [if_neg (by omega),hE]; exact⟨rfl,rfl⟩⟩
  by_cases h4:((readN S n).length:Int) < az
  · have hE:wrR r S n az s=11:=by unfold wrR; rw [if_neg hif1,if_pos (.inr h4)]
    refine At.run 100 true [false,false,false,true] [hB 1,hC (.bool true),hB 1,hB 2,hB 1,hC (str (readN S n)),hB 1,hB 1,hB 2,hB 0] rfl (by and_intros <;> first | exact hNm | exact hRd | exact hsd | exact one_of rfl | exact oK) ?_
    exact At.retK [] [] [hB 0] rfl rfl Tryz.func70 rfl oK ⟨rfl,by rw [if_neg (by omega),hE]; exact⟨rfl,rfl⟩⟩
  have hif2:¬ (az < 0∨((readN S n).length:Int) < az):=by omega
  obtain⟨at0,rfl⟩:∃ k:Nat,az=k:=⟨az.toNat,by omega⟩
  rw [Int.toNat_natCast]
  refine At.run 100 true [false,false,false,false] [hB 1,hC (.bool true),hB 1,hB 2,hB 1,hC (str (readN S n)),hB 1,hB 1] rfl (by and_intros <;> first | exact hNm | exact hRd | exact hsd | exact one_of rfl | exact oK) ?_
  refine At.cutS (ι:=PLift (¬ (readN S n=[]∧S.length=4096))) ⟨3,[0,1,1,1,1,1],[1,2,3,4,5,6,7,8,9]⟩ (fun _=>[(43,.pointer (some ⟨bq,0,none⟩)),(2,.pointer (some ⟨bq,0,none⟩)),(3,.pointer (some ⟨b3,0,none⟩)),(4,.pointer (some ⟨b4,0,none⟩))]) (fun _=>[(b4,71,[.slice none 0 0,.slice none 0 0,.slice none 0 0,.int .i64 0]),(b3,118,[str n,.int .i64 at0,str s]),(bq,71,rdV (.slice a S.length ca) (.slice ka kn kc) (.slice pa W.length pc) r)]) (fun _=>[]) ?_ (fun hy=>?_)
  · rintro⟨hif3⟩
    refine At.run 100 true [] [hB 2,hB 1,hB 1,hB 1] rfl oK ?_
    have hpb:=wrB_len (readN S n) at0 s
    have hss:=setN_sum n (wrB (readN S n) at0 s) S
    refine At.step [] rfl rfl rfl rfl rfl trivial (OpOk.call rfl (fun w' hw'=>Tryz.rPut_w S n s at0 a ca w' hlen (hS.ext hw'.ext (by simp [kys])) (by omega) (by omega)) ?_)
    rintro v bx' hp' ⟨a1,c1,rfl,rfl,rfl⟩
    refine At.run 100 true [] [] rfl oK ?_
    have hsl:=setN_len n (wrB (readN S n) at0 s) S
    have hU:∀ {bx:Bx}{hp:List Seg},CallOb Tryz.prog ⟨w,kys [] []⟩ bx (Seg.row a1 57 2 (setN n (wrB (readN S n) at0 s) S).length c1 (fl (setN n (wrB (readN S n) at0 s) S)) :: hp) 71 [sv a1 (setN n (wrB (readN S n) at0 s) S).length c1] (.int .i64 (sumB (setN n (wrB (readN S n) at0 s) S))):=fun {_ _} w' hw' =>
      Tryz.rUsed_w (setN n (wrB (readN S n) at0 s) S) (svA a1) c1 w' (by omega) (SlOk.row (hw'.hp (Seg.row a1 57 2 (setN n (wrB (readN S n) at0 s) S).length c1 (fl (setN n (wrB (readN S n) at0 s) S))) (by simp))) (by omega)
    refine At.quiet true [] [hC (.int .i64 (sumB (setN n (wrB (readN S n) at0 s) S))),hB 2] ⟨by kernel_rfl,by kernel_rfl,rfl,rfl,rfl⟩ rfl rfl rfl (by and_intros <;> first | exact hU | exact oK) ?_
    by_cases h6:r < sumB (setN n (wrB (readN S n) at0 s) S)
    · have hE:wrR r S n at0 s=6:=by unfold wrR; rw [if_neg hif1,if_neg hif2,if_neg hif3,Int.toNat_natCast,if_pos h6]
      refine At.run 100 true [true] [hB 2,hB 0] rfl (by and_intros <;> first | exact one_of rfl | exact oK) ?_
      refine At.keep [true,true,true] [] rfl ?_
      exact At.retK [] [] [hB 0] rfl rfl Tryz.func70 rfl oK ⟨rfl,by rw [if_neg (by omega),hE]; exact⟨rfl,rfl⟩⟩
    · have hE:wrR r S n at0 s=0:=by unfold wrR; rw [if_neg hif1,if_neg hif2,if_neg hif3,Int.toNat_natCast,if_neg h6]
      refine At.run 100 true [false] [hB 2] rfl (by and_intros <;> first | exact one_of rfl | exact oK) ?_
      refine At.draw 9 rfl rfl rfl rfl ?_
      refine AtD.cutS (ι:=Nat × Option Nat × Nat × Nat) 3 #[true,true,true,true,true,true,false,false,false] (fun q=>[(60,sv (some q.1) 0 0),(61,.pointer (some ⟨bq,2,none⟩)),(62,.slice pa W.length pc),(63,sv q.2.1 (0+W.length) q.2.2.1),(64,.agg ⟨[str n,.int .i64 at0,str s]⟩),(65,.slice (some ⟨q.2.2.2,0,none⟩) 1 1),(2,.pointer (some ⟨bq,0,none⟩)),(3,.pointer (some ⟨b3,0,none⟩)),(4,.pointer (some ⟨b4,0,none⟩))]) (fun q=>[(q.2.2.2,118,[str n,.int .i64 at0,str s]),(b4,71,[.slice none 0 0,.slice none 0 0,.slice none 0 0,.int .i64 0]),(b3,118,[str n,.int .i64 at0,str s]),(bq,71,rdV (sv a1 (setN n (wrB (readN S n) at0 s) S).length c1) (.slice ka kn kc) (.slice pa W.length pc) r)]) (fun q=>[Seg.row q.2.1 118 3 (0+W.length) q.2.2.1 ([]++W.flatMap wrL),Seg.row a1 57 2 (setN n (wrB (readN S n) at0 s) S).length c1 (fl (setN n (wrB (readN S n) at0 s) S))]) ?_ (fun hd5=>?_)
      · rintro⟨g,a5,c5,bb⟩
        refine AtD.fork1 6 (by kernel_rfl) (StepD.by [] rfl rfl rfl rfl trivial (OpOk.append 0 3 40 [str n,.int .i64 at0,str s] rfl rfl rfl rfl rfl rfl rfl (RdW.blk0 (i:=0) rfl) rfl (one_of rfl) (by omega) (by omega) fun a2 c2=>?_))
        refine AtD.pures (ob:=True) true (by kernel_rfl) [7] (fuel:=1) (by kernel_rfl) rfl oK ?_
        refine AtD.fork1 8 (by kernel_rfl) (StepD.by0 [] rfl rfl rfl trivial (OpOk.one true [] [hB 3] rfl oK ?_))
        refine AtD.done (by kernel_rfl) ?_
        refine At.run 100 true [] [hB 3,hB 1] rfl (by and_intros <;> first | exact one_of rfl | exact oK) ?_
        refine At.retK [] [true,true] [hB 1] rfl rfl Tryz.func70 rfl oK ⟨rfl,?_⟩
        rw [hE,if_pos rfl]
        exact⟨a1,c1,a2,c2,by rw [Nat.zero_add]; rfl,by rw [Nat.zero_add,List.flatMap_append,List.flatMap_singleton,List.nil_append]; rfl⟩
      refine AtD.cutS (ι:=Nat × Option Nat × Nat) 4 #[true,true,true,true,true,false,false,false,false] (fun q=>[(60,sv (some q.1) 0 0),(61,.pointer (some ⟨bq,2,none⟩)),(62,.slice pa W.length pc),(63,sv q.2.1 (0+W.length) q.2.2),(64,.agg ⟨[str n,.int .i64 at0,str s]⟩),(2,.pointer (some ⟨bq,0,none⟩)),(3,.pointer (some ⟨b3,0,none⟩)),(4,.pointer (some ⟨b4,0,none⟩))]) (fun q=>[(b4,71,[.slice none 0 0,.slice none 0 0,.slice none 0 0,.int .i64 0]),(b3,118,[str n,.int .i64 at0,str s]),(bq,71,rdV (sv a1 (setN n (wrB (readN S n) at0 s) S).length c1) (.slice ka kn kc) (.slice pa W.length pc) r)]) (fun q=>[Seg.row q.2.1 118 3 (0+W.length) q.2.2 ([]++W.flatMap wrL),Seg.row a1 57 2 (setN n (wrB (readN S n) at0 s) S).length c1 (fl (setN n (wrB (readN S n) at0 s) S))]) ?_ (fun hd4=>?_)
      · rintro⟨g,a5,c5⟩
        refine AtD.fork1 5 (by kernel_rfl) ?_
        refine StepD.by [] rfl rfl rfl rfl trivial (OpOk.buildSlice rfl rfl rfl rfl rfl rfl rfl (fun bb hbb=>?_))
        exact AtD.weak (hd5 (g,a5,c5,bb)) ⟨rfl,rfl,rfl,rfl,rfl,rfl,rfl,rfl,rfl,trivial⟩
      refine AtD.cutS (ι:=Nat × Option Nat × Nat) 5 #[true,true,true,true,false,false,false,false,false] (fun q=>[(60,sv (some q.1) 0 0),(61,.pointer (some ⟨bq,2,none⟩)),(62,.slice pa W.length pc),(63,sv q.2.1 (0+W.length) q.2.2),(2,.pointer (some ⟨bq,0,none⟩)),(3,.pointer (some ⟨b3,0,none⟩)),(4,.pointer (some ⟨b4,0,none⟩))]) (fun q=>[(b4,71,[.slice none 0 0,.slice none 0 0,.slice none 0 0,.int .i64 0]),(b3,118,[str n,.int .i64 at0,str s]),(bq,71,rdV (sv a1 (setN n (wrB (readN S n) at0 s) S).length c1) (.slice ka kn kc) (.slice pa W.length pc) r)]) (fun q=>[Seg.row q.2.1 118 3 (0+W.length) q.2.2 ([]++W.flatMap wrL),Seg.row a1 57 2 (setN n (wrB (readN S n) at0 s) S).length c1 (fl (setN n (wrB (readN S n) at0 s) S))]) ?_ (fun hd3=>?_)
      · rintro⟨g,a5,c5⟩
        refine AtD.fork1 4 (by kernel_rfl) ?_
        refine StepD.by [] rfl rfl rfl rfl trivial (OpOk.one true [] [hB 1] rfl oK ?_)
        exact AtD.weak (hd4 (g,a5,c5)) ⟨rfl,rfl,rfl,rfl,rfl,rfl,rfl,rfl,trivial⟩
      refine AtD.cutS (ι:=Nat × Nat) 4 #[true,true,true,false,true,true,false,false,false] (fun q=>[(60,sv (some q.1) 0 0),(61,.pointer (some ⟨bq,2,none⟩)),(62,.slice pa W.length pc),(64,.agg ⟨[str n,.int .i64 at0,str s]⟩),(65,.slice (some ⟨q.2,0,none⟩) 1 1),(2,.pointer (some ⟨bq,0,none⟩)),(3,.pointer (some ⟨b3,0,none⟩)),(4,.pointer (some ⟨b4,0,none⟩))]) (fun q=>[(q.2,118,[str n,.int .i64 at0,str s]),(b4,71,[.slice none 0 0,.slice none 0 0,.slice none 0 0,.int .i64 0]),(b3,118,[str n,.int .i64 at0,str s]),(bq,71,rdV (sv a1 (setN n (wrB (readN S n) at0 s) S).length c1) (.slice ka kn kc) (.slice pa W.length pc) r)]) (fun q=>[Seg.row (some q.1) 118 3 0 0 [],Seg.row a1 57 2 (setN n (wrB (readN S n) at0 s) S).length c1 (fl (setN n (wrB (readN S n) at0 s) S))]) ?_ (fun hd7=>?_)
      · rintro⟨g,bb⟩
        refine AtD.fork1 3 (by kernel_rfl) ?_
        refine StepD.by [] rfl rfl rfl rfl trivial (OpOk.appendS 0 3 40 (W.flatMap wrL) rfl rfl rfl rfl rfl rfl rfl rfl (fun w' hw'=>hP.ext hw'.ext (by simp [kys])) (wrL_len W) wrL_one (by omega) (by omega) (fun a5 c5=>?_))
        exact AtD.weak (hd5 (g,a5,c5,bb)) ⟨rfl,rfl,rfl,rfl,rfl,rfl,rfl,rfl,rfl,trivial⟩
      refine AtD.cutS (ι:=Nat) 5 #[true,true,true,false,true,false,false,false,false] (fun q=>[(60,sv (some q) 0 0),(61,.pointer (some ⟨bq,2,none⟩)),(62,.slice pa W.length pc),(64,.agg ⟨[str n,.int .i64 at0,str s]⟩),(2,.pointer (some ⟨bq,0,none⟩)),(3,.pointer (some ⟨b3,0,none⟩)),(4,.pointer (some ⟨b4,0,none⟩))]) (fun q=>[(b4,71,[.slice none 0 0,.slice none 0 0,.slice none 0 0,.int .i64 0]),(b3,118,[str n,.int .i64 at0,str s]),(bq,71,rdV (sv a1 (setN n (wrB (readN S n) at0 s) S).length c1) (.slice ka kn kc) (.slice pa W.length pc) r)]) (fun q=>[Seg.row (some q) 118 3 0 0 [],Seg.row a1 57 2 (setN n (wrB (readN S n) at0 s) S).length c1 (fl (setN n (wrB (readN S n) at0 s) S))]) ?_ (fun hd6=>?_)
      · rintro g
        refine AtD.fork2 3 5 (by kernel_rfl) ?_ ?_
        · refine StepD.by [] rfl rfl rfl rfl trivial (OpOk.appendS 0 3 40 (W.flatMap wrL) rfl rfl rfl rfl rfl rfl rfl rfl (fun w' hw' => hP.ext hw'.ext (by simp [kys])) (wrL_len W) wrL_one (by omega) (by omega) (fun a5 c5 => ?_))
          exact AtD.weak (hd4 (g,a5,c5)) ⟨rfl,rfl,rfl,rfl,rfl,rfl,rfl,rfl,trivial⟩
        · refine StepD.by [] rfl rfl rfl rfl trivial (OpOk.buildSlice rfl rfl rfl rfl rfl rfl rfl (fun bb hbb=>?_))
          exact AtD.weak (hd7 (g,bb)) ⟨rfl,rfl,rfl,rfl,rfl,rfl,rfl,rfl,trivial⟩
      refine AtD.cutS (ι:=Nat) 6 #[true,true,true,false,false,false,false,false,false] (fun q=>[(60,sv (some q) 0 0),(61,.pointer (some ⟨bq,2,none⟩)),(62,.slice pa W.length pc),(2,.pointer (some ⟨bq,0,none⟩)),(3,.pointer (some ⟨b3,0,none⟩)),(4,.pointer (some ⟨b4,0,none⟩))]) (fun q=>[(b4,71,[.slice none 0 0,.slice none 0 0,.slice none 0 0,.int .i64 0]),(b3,118,[str n,.int .i64 at0,str s]),(bq,71,rdV (sv a1 (setN n (wrB (readN S n) at0 s) S).length c1) (.slice ka kn kc) (.slice pa W.length pc) r)]) (fun q=>[Seg.row (some q) 118 3 0 0 [],Seg.row a1 57 2 (setN n (wrB (readN S n) at0 s) S).length c1 (fl (setN n (wrB (readN S n) at0 s) S))]) ?_ (fun hd2=>?_)
      · rintro g
        refine AtD.fork2 3 4 (by kernel_rfl) ?_ ?_
        · refine StepD.by [] rfl rfl rfl rfl trivial (OpOk.appendS 0 3 40 (W.flatMap wrL) rfl rfl rfl rfl rfl rfl rfl rfl (fun w' hw' => hP.ext hw'.ext (by simp [kys])) (wrL_len W) wrL_one (by omega) (by omega) (fun a5 c5 => ?_))
          exact AtD.weak (hd3 (g,a5,c5)) ⟨rfl,rfl,rfl,rfl,rfl,rfl,rfl,trivial⟩
        · refine StepD.by [] rfl rfl rfl rfl trivial (OpOk.one true [] [hB 1] rfl oK ?_)
          exact AtD.weak (hd6 g) ⟨rfl,rfl,rfl,rfl,rfl,rfl,rfl,trivial⟩
      refine AtD.cutS (ι:=Nat × Nat) 5 #[true,true,false,false,true,true,false,false,false] (fun q=>[(60,sv (some q.1) 0 0),(61,.pointer (some ⟨bq,2,none⟩)),(64,.agg ⟨[str n,.int .i64 at0,str s]⟩),(65,.slice (some ⟨q.2,0,none⟩) 1 1),(2,.pointer (some ⟨bq,0,none⟩)),(3,.pointer (some ⟨b3,0,none⟩)),(4,.pointer (some ⟨b4,0,none⟩))]) (fun q=>[(q.2,118,[str n,.int .i64 at0,str s]),(b4,71,[.slice none 0 0,.slice none 0 0,.slice none 0 0,.int .i64 0]),(b3,118,[str n,.int .i64 at0,str s]),(bq,71,rdV (sv a1 (setN n (wrB (readN S n) at0 s) S).length c1) (.slice ka kn kc) (.slice pa W.length pc) r)]) (fun q=>[Seg.row (some q.1) 118 3 0 0 [],Seg.row a1 57 2 (setN n (wrB (readN S n) at0 s) S).length c1 (fl (setN n (wrB (readN S n) at0 s) S))]) ?_ (fun hd9=>?_)
      · rintro⟨g,bb⟩
        refine AtD.fork1 2 (by kernel_rfl) ?_
        refine StepD.by [] rfl rfl rfl rfl trivial (OpOk.one true [] [hB 3] rfl rfl ?_)
        exact AtD.weak (hd7 (g,bb)) ⟨rfl,rfl,rfl,rfl,rfl,rfl,rfl,rfl,trivial⟩
      refine AtD.cutS (ι:=Nat) 6 #[true,true,false,false,true,false,false,false,false] (fun q=>[(60,sv (some q) 0 0),(61,.pointer (some ⟨bq,2,none⟩)),(64,.agg ⟨[str n,.int .i64 at0,str s]⟩),(2,.pointer (some ⟨bq,0,none⟩)),(3,.pointer (some ⟨b3,0,none⟩)),(4,.pointer (some ⟨b4,0,none⟩))]) (fun q=>[(b4,71,[.slice none 0 0,.slice none 0 0,.slice none 0 0,.int .i64 0]),(b3,118,[str n,.int .i64 at0,str s]),(bq,71,rdV (sv a1 (setN n (wrB (readN S n) at0 s) S).length c1) (.slice ka kn kc) (.slice pa W.length pc) r)]) (fun q=>[Seg.row (some q) 118 3 0 0 [],Seg.row a1 57 2 (setN n (wrB (readN S n) at0 s) S).length c1 (fl (setN n (wrB (readN S n) at0 s) S))]) ?_ (fun hd8=>?_)
      · rintro g
        refine AtD.fork2 2 5 (by kernel_rfl) ?_ ?_
        · refine StepD.by [] rfl rfl rfl rfl trivial (OpOk.one true [] [hB 2] rfl rfl ?_)
          exact AtD.weak (hd6 g) ⟨rfl,rfl,rfl,rfl,rfl,rfl,rfl,trivial⟩
        · refine StepD.by [] rfl rfl rfl rfl trivial (OpOk.buildSlice rfl rfl rfl rfl rfl rfl rfl (fun bb hbb=>?_))
          exact AtD.weak (hd9 (g,bb)) ⟨rfl,rfl,rfl,rfl,rfl,rfl,rfl,trivial⟩
      refine AtD.cutS (ι:=Nat) 7 #[true,true,false,false,false,false,false,false,false] (fun q=>[(60,sv (some q) 0 0),(61,.pointer (some ⟨bq,2,none⟩)),(2,.pointer (some ⟨bq,0,none⟩)),(3,.pointer (some ⟨b3,0,none⟩)),(4,.pointer (some ⟨b4,0,none⟩))]) (fun q=>[(b4,71,[.slice none 0 0,.slice none 0 0,.slice none 0 0,.int .i64 0]),(b3,118,[str n,.int .i64 at0,str s]),(bq,71,rdV (sv a1 (setN n (wrB (readN S n) at0 s) S).length c1) (.slice ka kn kc) (.slice pa W.length pc) r)]) (fun q=>[Seg.row (some q) 118 3 0 0 [],Seg.row a1 57 2 (setN n (wrB (readN S n) at0 s) S).length c1 (fl (setN n (wrB (readN S n) at0 s) S))]) ?_ (fun hd1=>?_)
      · rintro g
        refine AtD.fork2 2 4 (by kernel_rfl) ?_ ?_
        · refine StepD.by [] rfl rfl rfl rfl trivial (OpOk.one true [] [hB 2] rfl rfl ?_)
          exact AtD.weak (hd2 g) ⟨rfl,rfl,rfl,rfl,rfl,rfl,trivial⟩
        · refine StepD.by [] rfl rfl rfl rfl trivial (OpOk.one true [] [hB 1] rfl oK ?_)
          exact AtD.weak (hd8 g) ⟨rfl,rfl,rfl,rfl,rfl,rfl,trivial⟩
      refine AtD.cutS (ι:=Nat) 5 #[false,true,true,false,true,true,false,false,false] (fun q=>[(61,.pointer (some ⟨bq,2,none⟩)),(62,.slice pa W.length pc),(64,.agg ⟨[str n,.int .i64 at0,str s]⟩),(65,.slice (some ⟨q,0,none⟩) 1 1),(2,.pointer (some ⟨bq,0,none⟩)),(3,.pointer (some ⟨b3,0,none⟩)),(4,.pointer (some ⟨b4,0,none⟩))]) (fun q=>[(q,118,[str n,.int .i64 at0,str s]),(b4,71,[.slice none 0 0,.slice none 0 0,.slice none 0 0,.int .i64 0]),(b3,118,[str n,.int .i64 at0,str s]),(bq,71,rdV (sv a1 (setN n (wrB (readN S n) at0 s) S).length c1) (.slice ka kn kc) (.slice pa W.length pc) r)]) (fun q=>[Seg.row a1 57 2 (setN n (wrB (readN S n) at0 s) S).length c1 (fl (setN n (wrB (readN S n) at0 s) S))]) ?_ (fun hd12=>?_)
      · rintro bb
        refine AtD.fork1 0 (by kernel_rfl) ?_
        refine StepD.by [] rfl rfl rfl rfl trivial (OpOk.buildNil rfl rfl rfl fun g hg=>?_)
        exact AtD.weak (hd7 (g,bb)) ⟨rfl,rfl,rfl,rfl,rfl,rfl,rfl,rfl,trivial⟩
      refine AtD.cutS (ι:=Unit) 6 #[false,true,true,false,true,false,false,false,false] (fun _=>[(61,.pointer (some ⟨bq,2,none⟩)),(62,.slice pa W.length pc),(64,.agg ⟨[str n,.int .i64 at0,str s]⟩),(2,.pointer (some ⟨bq,0,none⟩)),(3,.pointer (some ⟨b3,0,none⟩)),(4,.pointer (some ⟨b4,0,none⟩))]) (fun _=>[(b4,71,[.slice none 0 0,.slice none 0 0,.slice none 0 0,.int .i64 0]),(b3,118,[str n,.int .i64 at0,str s]),(bq,71,rdV (sv a1 (setN n (wrB (readN S n) at0 s) S).length c1) (.slice ka kn kc) (.slice pa W.length pc) r)]) (fun _=>[Seg.row a1 57 2 (setN n (wrB (readN S n) at0 s) S).length c1 (fl (setN n (wrB (readN S n) at0 s) S))]) ?_ (fun hd11=>?_)
      · rintro⟨⟩
        refine AtD.fork2 0 5 (by kernel_rfl) ?_ ?_
        · refine StepD.by [] rfl rfl rfl rfl trivial (OpOk.buildNil rfl rfl rfl fun g hg=>?_)
          exact AtD.weak (hd6 g) ⟨rfl,rfl,rfl,rfl,rfl,rfl,rfl,trivial⟩
        · refine StepD.by [] rfl rfl rfl rfl trivial (OpOk.buildSlice rfl rfl rfl rfl rfl rfl rfl (fun bb hbb=>?_))
          exact AtD.weak (hd12 bb) ⟨rfl,rfl,rfl,rfl,rfl,rfl,rfl,trivial⟩
      refine AtD.cutS (ι:=Unit) 7 #[false,true,true,false,false,false,false,false,false] (fun _=>[(61,.pointer (some ⟨bq,2,none⟩)),(62,.slice pa W.length pc),(2,.pointer (some ⟨bq,0,none⟩)),(3,.pointer (some ⟨b3,0,none⟩)),(4,.pointer (some ⟨b4,0,none⟩))]) (fun _=>[(b4,71,[.slice none 0 0,.slice none 0 0,.slice none 0 0,.int .i64 0]),(b3,118,[str n,.int .i64 at0,str s]),(bq,71,rdV (sv a1 (setN n (wrB (readN S n) at0 s) S).length c1) (.slice ka kn kc) (.slice pa W.length pc) r)]) (fun _=>[Seg.row a1 57 2 (setN n (wrB (readN S n) at0 s) S).length c1 (fl (setN n (wrB (readN S n) at0 s) S))]) ?_ (fun hd10=>?_)
      · rintro⟨⟩
        refine AtD.fork2 0 4 (by kernel_rfl) ?_ ?_
        · refine StepD.by [] rfl rfl rfl rfl trivial (OpOk.buildNil rfl rfl rfl fun g hg=>?_)
          exact AtD.weak (hd2 g) ⟨rfl,rfl,rfl,rfl,rfl,rfl,trivial⟩
        · refine StepD.by [] rfl rfl rfl rfl trivial (OpOk.one true [] [hB 1] rfl oK ?_)
          exact AtD.weak (hd11 ()) ⟨rfl,rfl,rfl,rfl,rfl,rfl,trivial⟩
      refine AtD.cutS (ι:=Nat) 6 #[false,true,false,false,true,true,false,false,false] (fun q=>[(61,.pointer (some ⟨bq,2,none⟩)),(64,.agg ⟨[str n,.int .i64 at0,str s]⟩),(65,.slice (some ⟨q,0,none⟩) 1 1),(2,.pointer (some ⟨bq,0,none⟩)),(3,.pointer (some ⟨b3,0,none⟩)),(4,.pointer (some ⟨b4,0,none⟩))]) (fun q=>[(q,118,[str n,.int .i64 at0,str s]),(b4,71,[.slice none 0 0,.slice none 0 0,.slice none 0 0,.int .i64 0]),(b3,118,[str n,.int .i64 at0,str s]),(bq,71,rdV (sv a1 (setN n (wrB (readN S n) at0 s) S).length c1) (.slice ka kn kc) (.slice pa W.length pc) r)]) (fun q=>[Seg.row a1 57 2 (setN n (wrB (readN S n) at0 s) S).length c1 (fl (setN n (wrB (readN S n) at0 s) S))]) ?_ (fun hd14=>?_)
      · rintro bb
        refine AtD.fork2 0 2 (by kernel_rfl) ?_ ?_
        · refine StepD.by [] rfl rfl rfl rfl trivial (OpOk.buildNil rfl rfl rfl fun g hg=>?_)
          exact AtD.weak (hd9 (g,bb)) ⟨rfl,rfl,rfl,rfl,rfl,rfl,rfl,trivial⟩
        · refine StepD.by [] rfl rfl rfl rfl trivial (OpOk.one true [] [hB 3] rfl rfl ?_)
          exact AtD.weak (hd12 bb) ⟨rfl,rfl,rfl,rfl,rfl,rfl,rfl,trivial⟩
      refine AtD.cutS (ι:=Unit) 7 #[false,true,false,false,true,false,false,false,false] (fun _=>[(61,.pointer (some ⟨bq,2,none⟩)),(64,.agg ⟨[str n,.int .i64 at0,str s]⟩),(2,.pointer (some ⟨bq,0,none⟩)),(3,.pointer (some ⟨b3,0,none⟩)),(4,.pointer (some ⟨b4,0,none⟩))]) (fun _=>[(b4,71,[.slice none 0 0,.slice none 0 0,.slice none 0 0,.int .i64 0]),(b3,118,[str n,.int .i64 at0,str s]),(bq,71,rdV (sv a1 (setN n (wrB (readN S n) at0 s) S).length c1) (.slice ka kn kc) (.slice pa W.length pc) r)]) (fun _=>[Seg.row a1 57 2 (setN n (wrB (readN S n) at0 s) S).length c1 (fl (setN n (wrB (readN S n) at0 s) S))]) ?_ (fun hd13=>?_)
      · rintro⟨⟩
        refine AtD.fork3 0 2 5 (by kernel_rfl) ?_ ?_ ?_
        · refine StepD.by [] rfl rfl rfl rfl trivial (OpOk.buildNil rfl rfl rfl fun g hg=>?_)
          exact AtD.weak (hd8 g) ⟨rfl,rfl,rfl,rfl,rfl,rfl,trivial⟩
        · refine StepD.by [] rfl rfl rfl rfl trivial (OpOk.one true [] [hB 2] rfl rfl ?_)
          exact AtD.weak (hd11 ()) ⟨rfl,rfl,rfl,rfl,rfl,rfl,trivial⟩
        · refine StepD.by [] rfl rfl rfl rfl trivial (OpOk.buildSlice rfl rfl rfl rfl rfl rfl rfl (fun bb hbb=>?_))
          exact AtD.weak (hd14 bb) ⟨rfl,rfl,rfl,rfl,rfl,rfl,trivial⟩
      refine AtD.cutS (ι:=Unit) 8 #[false,true,false,false,false,false,false,false,false] (fun _=>[(61,.pointer (some ⟨bq,2,none⟩)),(2,.pointer (some ⟨bq,0,none⟩)),(3,.pointer (some ⟨b3,0,none⟩)),(4,.pointer (some ⟨b4,0,none⟩))]) (fun _=>[(b4,71,[.slice none 0 0,.slice none 0 0,.slice none 0 0,.int .i64 0]),(b3,118,[str n,.int .i64 at0,str s]),(bq,71,rdV (sv a1 (setN n (wrB (readN S n) at0 s) S).length c1) (.slice ka kn kc) (.slice pa W.length pc) r)]) (fun _=>[Seg.row a1 57 2 (setN n (wrB (readN S n) at0 s) S).length c1 (fl (setN n (wrB (readN S n) at0 s) S))]) ?_ (fun hd0=>?_)
      · rintro⟨⟩
        refine AtD.fork3 0 2 4 (by kernel_rfl) ?_ ?_ ?_
        · refine StepD.by [] rfl rfl rfl rfl trivial (OpOk.buildNil rfl rfl rfl fun g hg=>?_)
          exact AtD.weak (hd1 g) ⟨rfl,rfl,rfl,rfl,rfl,trivial⟩
        · refine StepD.by [] rfl rfl rfl rfl trivial (OpOk.one true [] [hB 2] rfl rfl ?_)
          exact AtD.weak (hd10 ()) ⟨rfl,rfl,rfl,rfl,rfl,trivial⟩
        · refine StepD.by [] rfl rfl rfl rfl trivial (OpOk.one true [] [hB 1] rfl oK ?_)
          exact AtD.weak (hd13 ()) ⟨rfl,rfl,rfl,rfl,rfl,trivial⟩
      refine AtD.pures (ob:=True) true (by kernel_rfl) [1] (fuel:=8) (by kernel_rfl) rfl oK ?_
      exact AtD.weak (hd0 ()) ⟨rfl,rfl,rfl,rfl,trivial⟩
  · by_cases h5:readN S n=[]
    · by_cases h7:S.length=4096
      · have hE:wrR r S n at0 s=4:=by unfold wrR; rw [if_neg hif1,if_neg hif2,if_pos ⟨h5,h7⟩]
        have hd:decide (bl ⟨(readN S n).toArray⟩=bl ⟨#[]⟩)=true:=by rw [bl_of]; simp [h5,bl]
        refine At.run 100 true [true,true] [hB 2,hB 2,hB 0] rfl (by and_intros <;> first | exact hd | exact one_of rfl | exact oK) ?_
        exact At.retK [] [] [hB 0] rfl rfl Tryz.func70 rfl oK ⟨rfl,by rw [if_neg (by omega),hE]; exact⟨rfl,rfl⟩⟩
      · have hd:decide (bl ⟨(readN S n).toArray⟩=bl ⟨#[]⟩)=true:=by rw [bl_of]; simp [h5,bl]
        refine At.run 100 true [true,false] [hB 2] rfl (by and_intros <;> first | exact hd | exact oK) ?_
        exact At.weak (hy ⟨fun h=>h7 h.2⟩) ⟨rfl,rfl,rfl,rfl,trivial⟩
    · have hd:decide (bl ⟨(readN S n).toArray⟩=bl ⟨#[]⟩)=false:=by rw [bl_of]; simp [h5,bl]
      refine At.run 100 true [false,false] [] rfl (by and_intros <;> first | exact hd | exact oK) ?_
      exact At.weak (hy ⟨fun h=>h5 h.1⟩) ⟨rfl,rfl,rfl,rfl,trivial⟩
theorem SlOk.takeN {w:World}{a:Option Addr}{xs:List Value}(h:SlOk w a xs) (k:Nat):SlOk w a (xs.take k):=by
  rcases h with rfl | ⟨b,o,h1,h2⟩
  · exact .inl (by simp)
  · refine .inr ⟨b,o,h1,fun j u hu => h2 j u ?_⟩
    rw [List.getElem?_take] at hu
    split at hu
    · exact hu
    · cases hu
theorem FilesOk.capF {w:World}{t:TypeId}{b:Nat}{F:List FileE}(h:FilesOk w t b F) {n:List UInt8}{a:Option Addr}{m c:Nat}(hv:valF F n=.slice a m c):m≤c:=by
  unfold valF at hv
  split at hv
  · rename_i f hf
    have:=(h.row f (getF_some hf).1).le
    simp only [sv,Value.slice.injEq] at hv
    omega
  · simp only [sv,Value.slice.injEq] at hv
    omega
theorem Tryz.DSync_w (d r bs:Nat) (kk:Option Nat) (pa:Option Addr) (pn pc:Nat) (FS:List FileE) (w:World) (hown:Own [(d,93,dkV r bs (.map kk) (.slice pa pn pc))] [Seg.files 5 bs FS] w) (hFb:FOK (nbs FS)) :
    Tri Tryz.prog 52 [.pointer (some ⟨d,0,none⟩)] w (kys [(d,93,dkV r bs (.map kk) (.slice pa pn pc))] [Seg.files 5 bs FS])
      (fun v bx hp=>v=.int .i64 0∧∃ b2 F2,bx=[(d,93,dkV r bs (.map (some b2)) (.slice none 0 0))]∧hp=[Seg.files 5 b2 F2,Seg.files 5 bs FS]∧(nbs F2).Perm (nbs FS)):=by
  refine Tri.enter Tryz.func52 rfl (by kernel_rfl) rfl hown ?_
  refine At.run 100 true [false] [hB 0] rfl oK ?_
  refine At.step [] rfl rfl rfl rfl rfl trivial (OpOk.call rfl (fun w' hw'=>Tryz.copied_w bs FS w' (hw'.files (by simp)) (fun f hf=>by have:=hFb _ (mem_nbs hf); simp only at this; omega)) ?_)
  rintro v bx' hp' ⟨b2,F2,rfl,rfl,rfl,hp2⟩
  refine At.run 100 true [] [hB 0,hB 0] rfl oK ?_
  exact At.ret [] rfl Tryz.func52 rfl trivial ⟨rfl,b2,F2,rfl,rfl,hp2⟩
theorem Tryz.DCut_w (d r bs:Nat) (kk:Option Nat) (pa:Option Addr) (pn pc:Nat) (FS:List FileE) (n:List UInt8) (m:Int) (w:World) (hown:Own [(d,93,dkV r bs (.map kk) (.slice pa pn pc))] [Seg.files 5 bs FS] w) (hFb:FOK (nbs FS)) (_hm:inK .i64 m) (hpn:pn≤9223372036854775807) :
    Tri Tryz.prog 90 [.pointer (some ⟨d,0,none⟩),str n,.int .i64 m] w (kys [(d,93,dkV r bs (.map kk) (.slice pa pn pc))] [Seg.files 5 bs FS])
      (fun v bx hp => if 0 < pn then v=.int .i64 8∧bx=[(d,93,dkV r bs (.map kk) (.slice pa pn pc))]∧hp=[Seg.files 5 bs FS]
        else if m < 0 then v=.int .i64 1∧bx=[(d,93,dkV r bs (.map kk) (.slice pa pn pc))]∧hp=[Seg.files 5 bs FS]
        else if ((bytesF FS n).length:Int)≤m then v=.int .i64 0∧bx=[(d,93,dkV r bs (.map kk) (.slice pa pn pc))]∧hp=[Seg.files 5 bs FS]
        else v=.int .i64 0∧∃ b2 F2 g c,bx=[(d,93,dkV r bs (.map (some b2)) (.slice pa pn pc))] ∧
          hp=[Seg.files 5 b2 F2,Seg.files 5 bs (if m=0 then delF FS n else putF FS ⟨n,(bytesF FS n).take m.toNat,g,c⟩)]∧(nbs F2).Perm (nbs (if m=0 then delF FS n else putF FS ⟨n,(bytesF FS n).take m.toNat,g,c⟩))):=by
  refine Tri.enter Tryz.func90 rfl (by kernel_rfl) rfl hown ?_
  by_cases h1:0 < pn
  · refine At.run 100 true [false,true,true] [hB 0] rfl oK ?_
    exact At.ret [] rfl Tryz.func90 rfl trivial (by rw [if_pos h1]; exact⟨rfl,rfl,rfl⟩)
  by_cases h2:m < 0
  · refine At.run 100 true [false,false,true] [hB 0] rfl oK ?_
    exact At.ret [] rfl Tryz.func90 rfl trivial (by rw [if_neg h1,if_pos h2]; exact⟨rfl,rfl,rfl⟩)
  obtain⟨ao,co,hval,hsl⟩:=FilesOk.slF (hown.files (t:=5) (b:=bs) (F:=FS) (by simp)) n
  have hlen:=(hFb.read n)
  rw [readN_nbs] at hlen
  have hLk:∀ {bx:Bx}{hp:List Seg},LookOb Tryz.prog ⟨w,kys [(d,93,dkV r bs (.map kk) (.slice pa pn pc))] [Seg.files 5 bs FS]⟩ bx (Seg.files 5 bs FS :: hp) 90 (.map (some bs)) (str n) false (.slice ao (bytesF FS n).length co):=fun {_ _}=>by
    rw [← hval]
    exact LookOb.file Tryz.filesT Tryz.strT Tryz.zeroBytes (fun w' hw'=>hw'.files (t:=5) (by simp))
  by_cases h3:((bytesF FS n).length:Int)≤m
  · refine At.run 100 true [false,false,false,true] [hB 0,hB 0,hL (.slice ao (bytesF FS n).length co)] rfl (by and_intros <;> first | exact hLk | exact oK) ?_
    exact At.ret [] rfl Tryz.func90 rfl trivial (by rw [if_neg h1,if_neg h2,if_pos h3]; exact⟨rfl,rfl,rfl⟩)
  refine At.run 100 true [false,false,false,false] [hB 0,hB 0,hL (.slice ao (bytesF FS n).length co)] rfl (by and_intros <;> first | exact hLk | exact oK) ?_
  by_cases h0:m=0
  · refine At.run 100 true [true] [hB 0] rfl oK ?_
    refine At.step0 [] rfl rfl rfl rfl trivial (OpOk.filesDel 0 rfl Tryz.filesT Tryz.strT rfl ?_)
    refine At.run 100 true [] [hB 0] rfl oK ?_
    refine At.step [] rfl rfl rfl rfl rfl trivial (OpOk.call rfl (fun w' hw'=>Tryz.copied_w bs (delF FS n) w' (hw'.files (by simp [setL])) (fun f hf=>by have:=hFb _ (mem_nbs (delF_sub.mem hf)); simp only at this; omega)) ?_)
    rintro v bx' hp' ⟨b2,F2,rfl,rfl,rfl,hp2⟩
    refine At.run 100 true [] [hB 0] rfl oK ?_
    exact At.ret [] rfl Tryz.func90 rfl trivial (by rw [if_neg h1,if_neg h2,if_neg h3]; exact⟨rfl,b2,F2,0,0,rfl,by rw [if_pos h0]; rfl,by rw [if_pos h0]; exact hp2⟩)
  · refine At.run 100 true [false] [] rfl oK ?_
    have hco:(bytesF FS n).length≤co:=FilesOk.capF (hown.files (t:=5) (b:=bs) (F:=FS) (by simp)) hval
    have hcl:(bytesF FS n).length≤9223372036854775807:=by omega
    refine At.draw 10 rfl rfl rfl rfl ?_
    refine AtD.pures (ob:=True) true (by kernel_rfl) [0,1,2,4,5,6,7] (fuel:=3) (by kernel_rfl) rfl oK ?_
    have htl:((bytesF FS n).take m.toNat).length=m.toNat:=by rw [List.length_take]; omega
    have e45:Value.slice ao m.toNat co=.slice ao ((bytesF FS n).take m.toNat).length co:=by rw [htl]
    rw [e45]
    have hClone:∀ {bx:Bx}{w':World},WOk ⟨w,kys [(d,93,dkV r bs (.map kk) (.slice pa pn pc))] [Seg.files 5 bs FS]⟩ bx [Seg.files 5 bs FS] w'→_:=fun {_ w'} hw' =>
      Tryz.cloneB_w ((bytesF FS n).take m.toNat) ao co w' (by omega) (by omega) (by
        obtain⟨a2,c2,hv2,hs2⟩:=FilesOk.slF (hw'.files (t:=5) (b:=bs) (F:=FS) (by simp)) n
        rw [hval] at hv2
        injection hv2 with e1 e2 e3
        subst e1
        have:u8s ((bytesF FS n).take m.toNat)=(u8s (bytesF FS n)).take m.toNat:=List.map_take ..
        rw [this]
        exact SlOk.takeN hs2 _)
    refine AtD.cutS (ι:=Nat × Nat) 1 #[true,true,true,true,true,true,true,true,true,false] (fun q=>[(0,.pointer (some ⟨d,0,none⟩)),(41,.map (some bs)),(42,str n),(46,sv (some q.1) ((bytesF FS n).take m.toNat).length q.2)]) (fun _=>[(d,93,dkV r bs (.map kk) (.slice pa pn pc))]) (fun q=>[Seg.row (some q.1) 5 1 ((bytesF FS n).take m.toNat).length q.2 (u8s ((bytesF FS n).take m.toNat)),Seg.files 5 bs FS]) ?_ (fun hd=>?_)
    · rintro⟨g,c⟩
      refine AtD.fork1 9 (by kernel_rfl) (StepD.by0 [] rfl rfl rfl trivial (OpOk.filesPut ⟨n,(bytesF FS n).take m.toNat,g,c⟩ rfl rfl rfl rfl Tryz.filesT Tryz.strT ?_))
      refine AtD.done (by kernel_rfl) ?_
      refine At.run 100 true [] [hB 0] rfl oK ?_
      refine At.step [] rfl rfl rfl rfl rfl trivial (OpOk.call rfl (fun w' hw'=>Tryz.copied_w bs (putF FS ⟨n,(bytesF FS n).take m.toNat,g,c⟩) w' (hw'.files (by simp)) (fun f hf=>?_)) ?_)
      · rcases putF_mem hf with rfl | hf
        · simp only [htl]; omega
        · have:=hFb _ (mem_nbs hf); simp only at this; omega
      rintro v bx' hp' ⟨b2,F2,rfl,rfl,rfl,hp2⟩
      refine At.run 100 true [] [hB 0] rfl oK ?_
      exact At.ret [] rfl Tryz.func90 rfl trivial (by rw [if_neg h1,if_neg h2,if_neg h3]; exact⟨rfl,b2,F2,g,c,rfl,by rw [if_neg h0]; rfl,by rw [if_neg h0]; exact hp2⟩)
    refine AtD.fork2 3 8 (by kernel_rfl) ?_ ?_
    · refine StepD.by [] rfl rfl rfl rfl trivial (OpOk.one true [] [hB 0] rfl oK ?_)
      refine AtD.fork1 8 (by kernel_rfl) (StepD.by [] rfl rfl rfl rfl trivial (OpOk.call rfl (fun w' hw'=>hClone hw') ?_))
      rintro v bx' hp' ⟨g,c,rfl,rfl,rfl⟩
      exact AtD.weak (hd (g,c)) ⟨rfl,rfl,rfl,rfl,trivial⟩
    · refine StepD.by [] rfl rfl rfl rfl trivial (OpOk.call rfl (fun w' hw' => hClone hw') ?_)
      rintro v bx' hp' ⟨g,c,rfl,rfl,rfl⟩
      refine AtD.fork1 3 (by kernel_rfl) (StepD.by [] rfl rfl rfl rfl trivial (OpOk.one true [] [hB 0] rfl oK ?_))
      exact AtD.weak (hd (g,c)) ⟨rfl,rfl,rfl,rfl,trivial⟩
theorem Tryz.lSame_w (d r bs bk pn pc cS cK cP:Nat) (pa aS aK aP:Option Addr) (FS FK:List FileE) (w:World) (hb:w.heap[d]?=some (.cells (dkV r bs (.map (some bk)) (.slice pa pn pc)).toArray 93 (0,0))) (hFS:FilesOk w 5 bs FS) (hFK:FilesOk w 5 bk FK)
    (hS:SlOk w aS (fl (ordN (nbs FS)))) (hK:SlOk w aK (fl (ordN (nbs FK)))) (hlS:FS.length≤1000000) (hlK:FK.length≤1000000) (hr:r≤1048576) (hu:sumB (nbs FS)≤r) (_hpn:pn≤1000000) :
    Fun Tryz.prog 38 [.pointer (some ⟨d,0,none⟩),.agg ⟨rdV (.slice aS (ordN (nbs FS)).length cS) (.slice aK (ordN (nbs FK)).length cK) (.slice aP pn cP) r⟩] w (.bool true):=by
  refine Tri.enter (bx:=[]) (hp:=[]) Tryz.func38 rfl (by kernel_rfl) rfl (Own.nil w) ?_
  have hdS:((nbs FS).map (·.1)).Nodup:=by have:=hFS.names; rw [nbs,List.map_map]; exact this
  have hdK:((nbs FK).map (·.1)).Nodup:=by have:=hFK.names; rw [nbs,List.map_map]; exact this
  have hoS:(ordN (nbs FS)).length=FS.length:=by rw [ordN_len hdS,nbs_len]
  have hoK:(ordN (nbs FK)).length=FK.length:=by rw [ordN_len hdK,nbs_len]
  have hus:sumB (ordN (nbs FS))=sumB (nbs FS):=sum_ord hdS
  have huF:usedF FS=sumB (nbs FS):=usedF_nbs FS
  have hdl:=(Array.getElem?_eq_some_iff.1 hb).1
  have hbw:∀ {bx:Bx}{hp:List Seg}{w':World},WOk ⟨w,kys [] []⟩ bx hp w'→w'.heap[d]?=some (.cells (dkV r bs (.map (some bk)) (.slice pa pn pc)).toArray 93 (0,0)):=fun {_ _ w'} hw'=>by rw [hw'.ext.block d hdl (by simp [kys])]; exact hb
  have hU0:∀ {bx:Bx}{hp:List Seg},CallOb Tryz.prog ⟨w,kys [] []⟩ bx hp 71 [.slice aS (ordN (nbs FS)).length cS] (.int .i64 (sumB (nbs FS))):=fun {_ _} w' hw'=>by
    rw [← hus]; exact Tryz.rUsed_w (ordN (nbs FS)) aS cS w' (by omega) (hS.ext hw'.ext (by simp [kys])) (by omega)
  have hS1:∀ {bx:Bx}{hp:List Seg}{a5:Option Nat}{c5:Nat},CallOb Tryz.prog ⟨w,kys [] []⟩ bx (Seg.row a5 57 2 FS.length c5 (fl (ordN (nbs FS))) :: hp) 20 [sv a5 FS.length c5,.slice aS (ordN (nbs FS)).length cS] (.bool true):=fun {_ _ a5 c5} w' hw'=>by
    have:=Tryz.rSame9_w (ordN (nbs FS)) (ordN (nbs FS)) (svA a5) aS c5 cS w' (by omega) (by omega) (by have:=SlOk.row (hw'.hp (Seg.row a5 57 2 FS.length c5 (fl (ordN (nbs FS)))) (by simp)); exact this) (hS.ext hw'.ext (by simp [kys]))
    rw [decide_eq_true rfl] at this
    rw [show sv a5 FS.length c5=.slice (svA a5) (ordN (nbs FS)).length c5 by rw [hoS]; rfl]
    exact this
  have hS2:∀ {bx:Bx}{hp:List Seg}{a6:Option Nat}{c6:Nat},CallOb Tryz.prog ⟨w,kys [] []⟩ bx (Seg.row a6 57 2 FK.length c6 (fl (ordN (nbs FK))) :: hp) 20 [sv a6 FK.length c6,.slice aK (ordN (nbs FK)).length cK] (.bool true):=fun {_ _ a6 c6} w' hw'=>by
    have:=Tryz.rSame9_w (ordN (nbs FK)) (ordN (nbs FK)) (svA a6) aK c6 cK w' (by omega) (by omega) (by have:=SlOk.row (hw'.hp (Seg.row a6 57 2 FK.length c6 (fl (ordN (nbs FK)))) (by simp)); exact this) (hK.ext hw'.ext (by simp [kys]))
    rw [decide_eq_true rfl] at this
    rw [show sv a6 FK.length c6=.slice (svA a6) (ordN (nbs FK)).length c6 by rw [hoK]; rfl]
    exact this
  have hPd:∀ {bx:Bx}{hp:List Seg},CallOb Tryz.prog ⟨w,kys [] []⟩ bx hp 31 [.pointer (some ⟨d,0,none⟩)] (.int .i64 pn):=fun {_ _} w' hw'=>Tryz.Pending_w d r bs (.map (some bk)) pa pn pc w' (hbw hw')
  have hUs:∀ {bx:Bx}{hp:List Seg},CallOb Tryz.prog ⟨w,kys [] []⟩ bx hp 74 [.pointer (some ⟨d,0,none⟩)] (.int .i64 (sumB (nbs FS))):=fun {_ _} w' hw'=>by
    rw [← huF]; exact Tryz.Used_w d r bs (.map (some bk)) (.slice pa pn pc) FS w' (hbw hw') (hFS.ext hw'.ext (by simp [kys])) (by omega)
  have hRm:∀ {bx:Bx}{hp:List Seg},CallOb Tryz.prog ⟨w,kys [] []⟩ bx hp 45 [.pointer (some ⟨d,0,none⟩)] (.int .i64 ((r:Int) - (sumB (nbs FS):Int))):=fun {_ _} w' hw'=>by
    rw [← huF]; exact Tryz.Room_w d r bs (.map (some bk)) (.slice pa pn pc) FS w' (hbw hw') (hFS.ext hw'.ext (by simp [kys])) (by omega) (by omega)
  refine At.run 100 true [] [] rfl trivial ?_
  refine At.step [] rfl rfl rfl rfl rfl trivial (OpOk.box rfl rfl rfl fun b3 hb3=>?_)
  refine At.run 100 true [] [hB 0,hC (.int .i64 (sumB (nbs FS)))] rfl (by and_intros <;> first | exact hU0 | exact oK) ?_
  refine At.draw 36 rfl rfl rfl rfl ?_
  refine AtD.cutS (ι:=Option Nat × Nat × Option Nat × Nat) 25 #[true,true,true,true,true,true,true,true,true,true,true,false,false,false,false,false,false,false,false,false,false,false,false,false,false,false,false,false,false,false,false,false,false,false,false,false] (fun q=>[(9,.pointer (some ⟨d,0,none⟩)),(10,sv q.1 FS.length q.2.1),(11,.pointer (some ⟨b3,0,none⟩)),(12,.slice aS (ordN (nbs FS)).length cS),(13,.bool true),(14,.bool true),(15,.pointer (some ⟨d,0,none⟩)),(16,sv q.2.2.1 FK.length q.2.2.2),(17,.pointer (some ⟨b3,1,none⟩)),(18,.slice aK (ordN (nbs FK)).length cK),(19,.bool true),(0,.pointer (some ⟨d,0,none⟩)),(3,.pointer (some ⟨b3,0,none⟩)),(5,.int .i64 (sumB (nbs FS)))]) (fun q=>[(b3,71,rdV (.slice aS (ordN (nbs FS)).length cS) (.slice aK (ordN (nbs FK)).length cK) (.slice aP pn cP) r)]) (fun q=>[Seg.row q.2.2.1 57 2 FK.length q.2.2.2 (fl (ordN (nbs FK))),Seg.row q.1 57 2 FS.length q.2.1 (fl (ordN (nbs FS)))]) ?_ (fun hd6=>?_)
  · rintro⟨a5,c5,a6,c6⟩
    refine AtD.lex 11 25 0 true [true,true,true,true] [hC (.int .i64 pn),hB 0,hC (.int .i64 (sumB (nbs FS))),hC (.int .i64 ((r:Int) - (sumB (nbs FS):Int))),hB 0] ⟨by kernel_rfl,by kernel_rfl,by kernel_rfl,rfl,by kernel_rfl,by kernel_rfl⟩ rfl rfl rfl (by and_intros <;> first | exact hPd | exact hUs | exact hRm | exact oK) (fun _=>by kernel_rfl) ?_
    refine AtD.done (by kernel_rfl) ?_
    refine At.run 100 true [] [] rfl oK ?_
    exact At.retK [] [] [] rfl rfl Tryz.func38 rfl oK ⟨by simp [tupV],rfl,rfl⟩
  refine AtD.cutS (ι:=Option Nat × Nat × Option Nat × Nat) 26 #[true,true,true,true,true,true,true,true,true,true,false,false,false,false,false,false,false,false,false,false,false,false,false,false,false,false,false,false,false,false,false,false,false,false,false,false] (fun q=>[(9,.pointer (some ⟨d,0,none⟩)),(10,sv q.1 FS.length q.2.1),(11,.pointer (some ⟨b3,0,none⟩)),(12,.slice aS (ordN (nbs FS)).length cS),(13,.bool true),(14,.bool true),(15,.pointer (some ⟨d,0,none⟩)),(16,sv q.2.2.1 FK.length q.2.2.2),(17,.pointer (some ⟨b3,1,none⟩)),(18,.slice aK (ordN (nbs FK)).length cK),(0,.pointer (some ⟨d,0,none⟩)),(3,.pointer (some ⟨b3,0,none⟩)),(5,.int .i64 (sumB (nbs FS)))]) (fun q=>[(b3,71,rdV (.slice aS (ordN (nbs FS)).length cS) (.slice aK (ordN (nbs FK)).length cK) (.slice aP pn cP) r)]) (fun q=>[Seg.row q.2.2.1 57 2 FK.length q.2.2.2 (fl (ordN (nbs FK))),Seg.row q.1 57 2 FS.length q.2.1 (fl (ordN (nbs FS)))]) ?_ (fun hd5=>?_)
  · rintro⟨a5,c5,a6,c6⟩
    refine AtD.fork1 10 (by kernel_rfl) ?_
    refine StepD.by [true] rfl rfl rfl rfl rfl (OpOk.one true [] [hC (.bool true)] rfl (by and_intros <;> first | exact hS2 | exact oK) ?_)
    exact AtD.weak (hd6 (a5,c5,a6,c6)) ⟨rfl,rfl,rfl,rfl,rfl,rfl,rfl,rfl,rfl,rfl,rfl,rfl,rfl,rfl,trivial⟩
  refine AtD.cutS (ι:=Option Nat × Nat × Option Nat × Nat) 27 #[true,true,true,true,true,true,true,true,true,false,false,false,false,false,false,false,false,false,false,false,false,false,false,false,false,false,false,false,false,false,false,false,false,false,false,false] (fun q=>[(9,.pointer (some ⟨d,0,none⟩)),(10,sv q.1 FS.length q.2.1),(11,.pointer (some ⟨b3,0,none⟩)),(12,.slice aS (ordN (nbs FS)).length cS),(13,.bool true),(14,.bool true),(15,.pointer (some ⟨d,0,none⟩)),(16,sv q.2.2.1 FK.length q.2.2.2),(17,.pointer (some ⟨b3,1,none⟩)),(0,.pointer (some ⟨d,0,none⟩)),(3,.pointer (some ⟨b3,0,none⟩)),(5,.int .i64 (sumB (nbs FS)))]) (fun q=>[(b3,71,rdV (.slice aS (ordN (nbs FS)).length cS) (.slice aK (ordN (nbs FK)).length cK) (.slice aP pn cP) r)]) (fun q=>[Seg.row q.2.2.1 57 2 FK.length q.2.2.2 (fl (ordN (nbs FK))),Seg.row q.1 57 2 FS.length q.2.1 (fl (ordN (nbs FS)))]) ?_ (fun hd4=>?_)
  · rintro⟨a5,c5,a6,c6⟩
    refine AtD.fork1 9 (by kernel_rfl) ?_
    refine StepD.by [true] rfl rfl rfl rfl rfl (OpOk.one true [] [hB 0] rfl oK ?_)
    exact AtD.weak (hd5 (a5,c5,a6,c6)) ⟨rfl,rfl,rfl,rfl,rfl,rfl,rfl,rfl,rfl,rfl,rfl,rfl,rfl,trivial⟩
  refine AtD.cutS (ι:=Option Nat × Nat) 27 #[true,true,true,true,true,true,true,false,true,true,false,false,false,false,false,false,false,false,false,false,false,false,false,false,false,false,false,false,false,false,false,false,false,false,false,false] (fun q=>[(9,.pointer (some ⟨d,0,none⟩)),(10,sv q.1 FS.length q.2),(11,.pointer (some ⟨b3,0,none⟩)),(12,.slice aS (ordN (nbs FS)).length cS),(13,.bool true),(14,.bool true),(15,.pointer (some ⟨d,0,none⟩)),(17,.pointer (some ⟨b3,1,none⟩)),(18,.slice aK (ordN (nbs FK)).length cK),(0,.pointer (some ⟨d,0,none⟩)),(3,.pointer (some ⟨b3,0,none⟩)),(5,.int .i64 (sumB (nbs FS)))]) (fun q=>[(b3,71,rdV (.slice aS (ordN (nbs FS)).length cS) (.slice aK (ordN (nbs FK)).length cK) (.slice aP pn cP) r)]) (fun q=>[Seg.row q.1 57 2 FS.length q.2 (fl (ordN (nbs FS)))]) ?_ (fun hd7=>?_)
  · rintro⟨a5,c5⟩
    refine AtD.fork1 7 (by kernel_rfl) ?_
    refine StepD.by [true] rfl rfl rfl rfl rfl (OpOk.call rfl (fun w' hw'=>Tryz.DKept_w d r bs bk (.slice pa pn pc) FK w' (hbw hw') (hFK.ext hw'.ext (by simp [kys])) hlK) ?_)
    rintro v bx' hp' ⟨a6,c6,rfl,rfl,rfl⟩
    exact AtD.weak (hd5 (a5,c5,a6,c6)) ⟨rfl,rfl,rfl,rfl,rfl,rfl,rfl,rfl,rfl,rfl,rfl,rfl,rfl,trivial⟩
  refine AtD.cutS (ι:=Option Nat × Nat) 28 #[true,true,true,true,true,true,true,false,true,false,false,false,false,false,false,false,false,false,false,false,false,false,false,false,false,false,false,false,false,false,false,false,false,false,false,false] (fun q=>[(9,.pointer (some ⟨d,0,none⟩)),(10,sv q.1 FS.length q.2),(11,.pointer (some ⟨b3,0,none⟩)),(12,.slice aS (ordN (nbs FS)).length cS),(13,.bool true),(14,.bool true),(15,.pointer (some ⟨d,0,none⟩)),(17,.pointer (some ⟨b3,1,none⟩)),(0,.pointer (some ⟨d,0,none⟩)),(3,.pointer (some ⟨b3,0,none⟩)),(5,.int .i64 (sumB (nbs FS)))]) (fun q=>[(b3,71,rdV (.slice aS (ordN (nbs FS)).length cS) (.slice aK (ordN (nbs FK)).length cK) (.slice aP pn cP) r)]) (fun q=>[Seg.row q.1 57 2 FS.length q.2 (fl (ordN (nbs FS)))]) ?_ (fun hd3=>?_)
  · rintro⟨a5,c5⟩
    refine AtD.fork2 7 9 (by kernel_rfl) ?_ ?_
    · refine StepD.by [true] rfl rfl rfl rfl rfl (OpOk.call rfl (fun w' hw' => Tryz.DKept_w d r bs bk (.slice pa pn pc) FK w' (hbw hw') (hFK.ext hw'.ext (by simp [kys])) hlK) ?_)
      rintro v bx' hp' ⟨a6,c6,rfl,rfl,rfl⟩
      exact AtD.weak (hd4 (a5,c5,a6,c6)) ⟨rfl,rfl,rfl,rfl,rfl,rfl,rfl,rfl,rfl,rfl,rfl,rfl,trivial⟩
    · refine StepD.by [true] rfl rfl rfl rfl rfl (OpOk.one true [] [hB 0] rfl oK ?_)
      exact AtD.weak (hd7 (a5,c5)) ⟨rfl,rfl,rfl,rfl,rfl,rfl,rfl,rfl,rfl,rfl,rfl,rfl,trivial⟩
  refine AtD.cutS (ι:=Option Nat × Nat) 32 #[true,true,true,true,false,false,false,false,false,false,false,false,false,false,false,false,false,false,false,false,false,false,false,false,false,false,false,false,false,false,false,false,false,false,false,false] (fun q=>[(9,.pointer (some ⟨d,0,none⟩)),(10,sv q.1 FS.length q.2),(11,.pointer (some ⟨b3,0,none⟩)),(12,.slice aS (ordN (nbs FS)).length cS),(0,.pointer (some ⟨d,0,none⟩)),(3,.pointer (some ⟨b3,0,none⟩)),(5,.int .i64 (sumB (nbs FS)))]) (fun q=>[(b3,71,rdV (.slice aS (ordN (nbs FS)).length cS) (.slice aK (ordN (nbs FK)).length cK) (.slice aP pn cP) r)]) (fun q=>[Seg.row q.1 57 2 FS.length q.2 (fl (ordN (nbs FS)))]) ?_ (fun hd2=>?_)
  · rintro⟨a5,c5⟩
    refine AtD.fork1 4 (by kernel_rfl) ?_
    refine StepD.by [] rfl rfl rfl rfl trivial (OpOk.one true [] [hC (.bool true)] rfl (by and_intros <;> first | exact hS1 | exact oK) ?_)
    refine AtD.pures (ob:=True) true (by kernel_rfl) [5] (fuel:=30) (by kernel_rfl) rfl oK ?_
    refine AtD.pureG (fuel:=29) (i:=6) true [true] (by kernel_rfl) (by kernel_rfl) rfl rfl rfl rfl oK rfl oK ?_
    refine AtD.pureG (fuel:=28) (i:=8) true [true] (by kernel_rfl) (by kernel_rfl) rfl rfl rfl rfl oK rfl oK ?_
    exact AtD.weak (hd3 (a5,c5)) ⟨rfl,rfl,rfl,rfl,rfl,rfl,rfl,rfl,rfl,rfl,rfl,trivial⟩
  refine AtD.cutS (ι:=Option Nat × Nat) 33 #[true,true,true,false,false,false,false,false,false,false,false,false,false,false,false,false,false,false,false,false,false,false,false,false,false,false,false,false,false,false,false,false,false,false,false,false] (fun q=>[(9,.pointer (some ⟨d,0,none⟩)),(10,sv q.1 FS.length q.2),(11,.pointer (some ⟨b3,0,none⟩)),(0,.pointer (some ⟨d,0,none⟩)),(3,.pointer (some ⟨b3,0,none⟩)),(5,.int .i64 (sumB (nbs FS)))]) (fun q=>[(b3,71,rdV (.slice aS (ordN (nbs FS)).length cS) (.slice aK (ordN (nbs FK)).length cK) (.slice aP pn cP) r)]) (fun q=>[Seg.row q.1 57 2 FS.length q.2 (fl (ordN (nbs FS)))]) ?_ (fun hd1=>?_)
  · rintro⟨a5,c5⟩
    refine AtD.fork1 3 (by kernel_rfl) ?_
    refine StepD.by [] rfl rfl rfl rfl trivial (OpOk.one true [] [hB 0] rfl oK ?_)
    exact AtD.weak (hd2 (a5,c5)) ⟨rfl,rfl,rfl,rfl,rfl,rfl,rfl,trivial⟩
  refine AtD.cutS (ι:=Unit) 33 #[true,false,true,true,false,false,false,false,false,false,false,false,false,false,false,false,false,false,false,false,false,false,false,false,false,false,false,false,false,false,false,false,false,false,false,false] (fun _=>[(9,.pointer (some ⟨d,0,none⟩)),(11,.pointer (some ⟨b3,0,none⟩)),(12,.slice aS (ordN (nbs FS)).length cS),(0,.pointer (some ⟨d,0,none⟩)),(3,.pointer (some ⟨b3,0,none⟩)),(5,.int .i64 (sumB (nbs FS)))]) (fun _=>[(b3,71,rdV (.slice aS (ordN (nbs FS)).length cS) (.slice aK (ordN (nbs FK)).length cK) (.slice aP pn cP) r)]) (fun _=>[]) ?_ (fun hd8=>?_)
  · rintro⟨⟩
    refine AtD.fork1 1 (by kernel_rfl) ?_
    refine StepD.by [] rfl rfl rfl rfl trivial (OpOk.call rfl (fun w' hw'=>Tryz.DFiles_w d r bs bk (.slice pa pn pc) FS w' (hbw hw') (hFS.ext hw'.ext (by simp [kys])) hlS) ?_)
    rintro v bx' hp' ⟨a5,c5,rfl,rfl,rfl⟩
    exact AtD.weak (hd2 (a5,c5)) ⟨rfl,rfl,rfl,rfl,rfl,rfl,rfl,trivial⟩
  refine AtD.cutS (ι:=Unit) 34 #[true,false,true,false,false,false,false,false,false,false,false,false,false,false,false,false,false,false,false,false,false,false,false,false,false,false,false,false,false,false,false,false,false,false,false,false] (fun _=>[(9,.pointer (some ⟨d,0,none⟩)),(11,.pointer (some ⟨b3,0,none⟩)),(0,.pointer (some ⟨d,0,none⟩)),(3,.pointer (some ⟨b3,0,none⟩)),(5,.int .i64 (sumB (nbs FS)))]) (fun _=>[(b3,71,rdV (.slice aS (ordN (nbs FS)).length cS) (.slice aK (ordN (nbs FK)).length cK) (.slice aP pn cP) r)]) (fun _=>[]) ?_ (fun hd0=>?_)
  · rintro⟨⟩
    refine AtD.fork2 1 3 (by kernel_rfl) ?_ ?_
    · refine StepD.by [] rfl rfl rfl rfl trivial (OpOk.call rfl (fun w' hw' => Tryz.DFiles_w d r bs bk (.slice pa pn pc) FS w' (hbw hw') (hFS.ext hw'.ext (by simp [kys])) hlS) ?_)
      rintro v bx' hp' ⟨a5,c5,rfl,rfl,rfl⟩
      exact AtD.weak (hd1 (a5,c5)) ⟨rfl,rfl,rfl,rfl,rfl,rfl,trivial⟩
    · refine StepD.by [] rfl rfl rfl rfl trivial (OpOk.one true [] [hB 0] rfl oK ?_)
      exact AtD.weak (hd8 ()) ⟨rfl,rfl,rfl,rfl,rfl,rfl,trivial⟩
  refine AtD.pures (ob:=True) true (by kernel_rfl) [0,2] (fuel:=34) (by kernel_rfl) rfl oK ?_
  exact AtD.weak (hd0 ()) ⟨rfl,rfl,rfl,rfl,rfl,trivial⟩
theorem ord_perm {S R:FL}(hR:(R.map (·.1)).Nodup) (hp:S.Perm R):ordN S=ordN R:=ordN_of_perm (ordN_ris hR) (hp.trans (ordN_perm hR).symm)
end Go.Proofs

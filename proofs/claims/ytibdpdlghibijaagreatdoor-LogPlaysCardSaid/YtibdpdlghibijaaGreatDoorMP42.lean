/-
  Walks of layer 22: the least number of a segment's file above one.
-/
import Derived.Test.YtibdpdlghibijaaGreatDoorMP16
import Derived.Test.YtibdpdlghibijaaGreatDoorMP7
import Derived.Test.YtibdpdlghibijaaGreatDoorMP38
import Derived.Test.YtibdpdlghibijaaGreatDoorMP41
import Derived.Test.YtibdpdlghibijaaGreatDoorMP37
import Derived.Test.YtibdpdlghibijaaGreatDoorMP19
import Derived.Test.YtibdpdlghibijaaGreatDoorMP21
import Derived.Test.YtibdpdlghibijaaGreatDoorMP17
import Derived.Test.YtibdpdlghibijaaGreatDoorMP12
import Derived.Test.YtibdpdlghibijaaGreatDoorMP32
import Derived.Test.YtibdpdlghibijaaGreatDoorMP11
import Derived.Test.YtibdpdlghibijaaGreatDoorMP30
namespace Go.Proofs
open Go Go.Eng
set_option maxRecDepth 100000
set_option maxHeartbeats 4000000
attribute [local irreducible] Tri
instance:DecidableEq HdB:=fun x y=>decidable_of_iff (x.i=y.i∧x.f=y.f∧x.c=y.c∧x.b=y.b∧x.p=y.p∧x.r=y.r) (by cases x; cases y; simp)
def segK (P:Nat) (R:List (List UInt8)) (k:Nat):List (List UInt8):=(R.drop (k * P)).take P
theorem readN_cons (p:List UInt8 × List UInt8) (S:FL) (m:List UInt8):readN (p :: S) m=if p.1=m then p.2 else readN S m:=by
  unfold readN; rw [List.find?_cons]; by_cases h:p.1=m <;> simp [h]
theorem readN_nil (m:List UInt8):readN [] m=[]:=rfl
theorem readN_filter {n m:List UInt8}(h:m≠n):∀ S:FL,readN (S.filter fun q => !decide (q.1=n)) m=readN S m
  | [] => rfl
  | p :: l => by
    rw [List.filter_cons,readN_cons]
    by_cases hp:p.1=n
    · rw [if_neg (by simp [hp]),readN_filter h l,if_neg (fun e=>h (e.symm.trans hp))]
    · rw [if_pos (by simp [hp]),readN_cons,readN_filter h l]
theorem readN_set (n s m:List UInt8):∀ S:FL,readN (setN n s S) m=if m=n then s else readN S m
  | [] => by
    unfold setN
    by_cases hs:s=[]
    · rw [if_pos hs,readN_nil,hs]; split <;> rfl
    · rw [if_neg hs,readN_cons,readN_nil]
      by_cases h:m=n
      · rw [if_pos h,if_pos h.symm]
      · rw [if_neg h,if_neg (Ne.symm h)]
  | p :: l => by
    unfold setN
    by_cases hp:Op.bytesLess p.1 n=true
    · rw [if_pos hp,readN_cons,readN_cons,readN_set n s m l]
      by_cases h:p.1=m
      · have:m≠n:=fun e => less_ne hp (h.trans e)
        rw [if_pos h,if_neg this,if_pos h]
      · rw [if_neg h,if_neg h]
    · rw [if_neg hp]
      by_cases h:m=n
      · rw [if_pos h]
        by_cases hs:s=[]
        · rw [if_pos hs,List.nil_append,hs]
          exact readF_none fun q hq=>by
            have:=(List.mem_filter.1 hq).2
            simp only [Bool.not_eq_true',decide_eq_false_iff_not] at this
            rw [h]; exact this
        · rw [if_neg hs,List.singleton_append,readN_cons,if_pos h.symm]
      · rw [if_neg h,← readN_filter h (p :: l)]
        by_cases hs:s=[]
        · rw [if_pos hs,List.nil_append]
        · rw [if_neg hs,List.singleton_append,readN_cons,if_neg (Ne.symm h)]
def wrapL (s:List UInt8):List UInt8:=rowL s++[165]
theorem wrapL_eq (s rest:List UInt8):wrapL s++rest=numL s.length++(s++165 :: rest):=by simp [wrapL,rowL]
theorem wrapL_len (s:List UInt8):(wrapL s).length=(numL s.length).length+s.length+1:=by simp [wrapL,rowL]; omega
theorem frB_wrap {s:List UInt8}(rest:List UInt8) (h1:1≤s.length) (h2:s.length≤65536):frB (wrapL s++rest)=(s,(wrapL s).length,0):=by
  have e:=wrapL_eq s rest
  have h:=rdN_put (l:=wrapL s++rest) (a:=0) (n:=s.length) (most:=65536) (rest:=s++165 :: rest) (by omega) h2 (by rw [List.drop_zero,e])
  have hl:(wrapL s++rest).length=(numL s.length).length+s.length+1+rest.length:=by rw [List.length_append,wrapL_len]
  unfold frB
  rw [if_neg (by intro h0; rw [h0] at hl; simp only [List.length_nil] at hl; omega),h]
  simp only [Nat.zero_add,ne_eq,not_true_eq_false,if_false]
  rw [if_neg (by omega),if_neg (by omega),e]
  rw [List.getElem?_append_right (by omega),Nat.add_sub_cancel_left,List.getElem?_append_right (Nat.le_refl _),Nat.sub_self,if_neg (by simp),List.drop_left,List.take_left,wrapL_len]
theorem numL_pos (k:Nat):1≤(numL k).length:=by
  by_cases h:k < 128
  · rw [numL_small h]; simp
  · rw [numL_big (by omega)]; simp
theorem nmB_inj {c:UInt8}{k j:Nat}(hk:k≤1099511627776) (hj:j≤1099511627776) (h:nmB c k=nmB c j):k=j:=by
  unfold nmB at h
  rw [if_pos (by omega),if_pos (by omega)] at h
  have:=itoa_inj (by simp only [inK]; omega) (by simp only [inK]; omega) (List.cons.inj h).2
  omega
theorem nmB_heads {k:Nat}(hk:k≤1099511627776):nmB 115 k≠headsB:=by
  unfold nmB headsB; rw [if_pos (by omega)]; intro h; cases h
theorem kindB_nm {k:Nat}(hk:k≤1099511627776):kindB (nmB 115 k)=(1,(k:Int),true):=by
  have h1:=nmB_heads hk
  unfold kindB
  rw [if_neg h1]
  unfold nmB
  rw [if_pos (by omega)]
  have:Lib.itoa (k:Int)=Lib.decDigits k:=by unfold Lib.itoa; rw [if_neg (by omega)]; simp
  rw [this]
  simp [numS_dec hk]
def logF (P:Nat) (R:List (List UInt8)):Nat→FL
  | 0 => []
  | i+1 => setN (nmB 115 ((i / P:Nat):Int)) (readN (logF P R i) (nmB 115 ((i / P:Nat):Int))++wrapL (R[i]?.getD [])) (logF P R i)
theorem segK_snoc {P i k:Nat}{R:List (List UInt8)}(hP:1≤P) (hi:i < R.length):segK P (R.take (i+1)) k=segK P (R.take i) k++if k=i / P then [R[i]?.getD []] else []:=by
  have hx:R[i]?.getD []=R[i]:=by rw [List.getElem?_eq_getElem hi]; rfl
  have ht:R.take (i+1)=R.take i++[R[i]]:=by rw [List.take_add_one,List.getElem?_eq_getElem hi]; rfl
  have hl:(R.take i).length=i:=by rw [List.length_take]; omega
  have hd:i=P * (i / P)+i % P:=(Nat.div_add_mod i P).symm
  have hm:i % P < P:=Nat.mod_lt _ (by omega)
  rw [hx,ht]
  unfold segK
  by_cases h1:k=i / P
  · rw [if_pos h1]
    have hk:k * P=P * (i / P):=by rw [h1,Nat.mul_comm]
    rw [List.drop_append_of_le_length (by rw [hl]; omega),List.take_of_length_le (l:=List.drop (k * P) (List.take i R)++[R[i]]) (by rw [List.length_append,List.length_drop,hl,List.length_singleton]; omega),List.take_of_length_le (l:=List.drop (k * P) (List.take i R)) (by rw [List.length_drop,hl]; omega)]
  · rw [if_neg h1,List.append_nil]
    by_cases h2:k < i / P
    · have h3:(k+1) * P≤P * (i / P):=by rw [Nat.mul_comm P]; exact Nat.mul_le_mul_right P h2
      rw [Nat.add_mul] at h3
      rw [List.drop_append_of_le_length (by rw [hl]; omega),List.take_append_of_le_length (by rw [List.length_drop,hl]; omega)]
    · have h3:(i / P+1) * P≤k * P:=Nat.mul_le_mul_right P (by omega)
      rw [Nat.add_mul,Nat.mul_comm] at h3
      rw [List.drop_of_length_le (by rw [List.length_append,hl,List.length_singleton]; omega),List.drop_of_length_le (by rw [hl]; omega)]
theorem logF_read {P:Nat}{R:List (List UInt8)}(hP:1≤P) (hR:R.length≤1000000) {k:Nat}(hk:k≤1000000):∀ i,i≤R.length→readN (logF P R i) (nmB 115 (k:Int))=(segK P (R.take i) k).flatMap wrapL
  | 0,_ => by simp [logF,readN_nil,segK]
  | i+1,hi => by
    have ih:=logF_read hP hR hk i (by omega)
    have hd:i / P≤i:=Nat.div_le_self i P
    rw [logF,readN_set,segK_snoc hP (by omega),List.flatMap_append]
    by_cases h:k=i / P
    · subst h
      rw [if_pos rfl,if_pos rfl,ih]; simp
    · rw [if_neg (fun e=>h (nmB_inj (by omega) (by omega) e)),if_neg h,ih]; simp
theorem logF_mem {P:Nat}{R:List (List UInt8)}{m:Nat}(hm:∀ x,x∈R→x.length≤m) (hs:m < 16384):∀ i,i≤R.length→∀ p,p∈logF P R i→(∃ k,k * P < i∧k≤i∧p.1=nmB 115 ((k:Nat):Int))∧p.2.length≤i * (m+3)
  | 0,_,p,hp => by cases hp
  | i+1,hi,p,hp => by
    have ih:=logF_mem (P:=P) hm hs i (by omega)
    rw [logF] at hp
    have hd:P * (i / P)≤i:=Nat.mul_div_le i P
    have hw:(wrapL (R[i]?.getD [])).length≤m+3:=by
      rw [List.getElem?_eq_getElem (by omega:i < R.length)]
      have h1:=hm _ (List.getElem_mem (by omega:i < R.length))
      have h2:=numL_len 1 R[i].length (by omega)
      rw [wrapL_len]; simp only [Option.getD_some]; omega
    rcases (setN_mem _ _ _ _).1 hp with⟨-,rfl⟩ | ⟨h1,-⟩
    · refine⟨⟨i / P,by rw [Nat.mul_comm]; omega,by have:=Nat.div_le_self i P; omega,rfl⟩,?_⟩
      have h3:(readN (logF P R i) (nmB 115 ((i / P:Nat):Int))).length≤i * (m+3):=readF_len fun q hq=>(ih q hq).2
      rw [List.length_append,Nat.add_mul]; omega
    · obtain⟨⟨k,h2,h3,h4⟩,h5⟩:=ih p h1
      exact⟨⟨k,by omega,by omega,h4⟩,by rw [Nat.add_mul]; omega⟩
theorem setN_few (n s:List UInt8):∀ S:FL,(setN n s S).length≤S.length+1
  | [] => by unfold setN; split <;> simp
  | p :: l => by
    unfold setN
    split
    · have:=setN_few n s l; simp only [List.length_cons]; omega
    · rw [List.length_append]
      have h1:=List.length_filter_le (fun q:List UInt8 × List UInt8=>!decide (q.1=n)) (p :: l)
      split <;> simp only [List.length_nil,List.length_cons] at * <;> omega
theorem logF_few (P:Nat) (R:List (List UInt8)):∀ i,(logF P R i).length≤i
  | 0 => Nat.le_refl _
  | i+1 => by have:=setN_few (nmB 115 ((i / P:Nat):Int)) (readN (logF P R i) (nmB 115 ((i / P:Nat):Int))++wrapL (R[i]?.getD [])) (logF P R i); have:=logF_few P R i; rw [logF]; omega
def mkH (P n:Nat) (R:List (List UInt8)) (k:Nat) (p:List UInt8):HdB:=⟨k,(k * P:Nat),P,sumL (segK P R k),p,rootB n (segK P R k)⟩
def prevB (P n:Nat) (R:List (List UInt8)):Nat→List UInt8
  | 0 => cutH n []
  | k+1 => hashH n (mkH P n R k (prevB P n R k))
def hdK (P n:Nat) (R:List (List UInt8)) (k:Nat):HdB:=mkH P n R k (prevB P n R k)
def hdsB (P n:Nat) (R:List (List UInt8)) (m:Nat):List HdB:=(List.range m).map (hdK P n R)
theorem prevB_len {P n:Nat}(hn:n≤32) (R:List (List UInt8)) (k:Nat):(prevB P n R k).length=n:=by
  cases k with
  | zero => exact cutH_len hn _
  | succ k => exact cutH_len hn _
theorem sumL_few {m:Nat}:∀ {l:List (List UInt8)},(∀ x,x∈l→x.length≤m)→sumL l≤l.length * m
  | [],_ => by simp [sumL]
  | x :: l,h => by
    have h1:=h x (by simp)
    have h2:=sumL_few fun y hy=>h y (List.mem_cons_of_mem x hy)
    have e:sumL (x :: l)=x.length+sumL l:=by simp [sumL]
    rw [e,List.length_cons,Nat.add_mul]; omega
theorem segK_mem0 {P k:Nat}{R:List (List UInt8)}{x:List UInt8}(h:x∈segK P R k):x∈R:=List.mem_of_mem_drop (List.mem_of_mem_take h)
theorem putH_short {h:HdB}{n:Nat}(hm:mayH h n=true) (hn:n≤32):1≤(putH h).length∧(putH h).length≤65536:=by
  have mx:=mayH_in hm
  have n1:=numL_len10 h.i.toNat (by omega)
  have n2:=numL_len10 h.f.toNat (by omega)
  have n3:=numL_len10 h.c.toNat (by omega)
  have n4:=numL_len10 h.b.toNat (by omega)
  have n5:=numL_len10 h.p.length (by omega)
  have n6:=numL_len10 h.r.length (by omega)
  have n7:=numL_pos h.i.toNat
  simp only [putH,rowL,List.length_append]
  omega
theorem hdK_may {P n:Nat}{R:List (List UInt8)}{k:Nat}(hP:1≤P∧P≤64) (hn:n≤32) (hR:R.length≤1000000) (hx:∀ x,x∈R→x.length≤1000000) (hk:(k+1) * P≤R.length):mayH (hdK P n R k) n=true:=by
  have h1:=prevB_len (P:=P) hn R k
  have h2:=rootB_len hn (segK P R k)
  have h3:=sumL_few (l:=segK P R k) fun x h=>hx x (segK_mem0 h)
  have h4:(segK P R k).length≤64:=by unfold segK; rw [List.length_take]; omega
  have h5:(segK P R k).length * 1000000≤64 * 1000000:=Nat.mul_le_mul_right _ h4
  rw [Nat.add_mul] at hk
  have h6:k≤k * P:=Nat.le_mul_of_pos_right k (by omega)
  unfold hdK mkH mayH
  simp only
  exact decide_eq_true (by refine⟨?_,?_,?_,?_,?_,?_,?_,?_,?_,?_⟩ <;> omega)
theorem hdsB_len (P n:Nat) (R:List (List UInt8)) (m:Nat):(hdsB P n R m).length=m:=by simp [hdsB]
def filesB (P n:Nat) (R:List (List UInt8)):FL:=setN headsB (((hdsB P n R (R.length / P)).map putH).flatMap wrapL) (logF P R R.length)
theorem same_no {A B:List (List UInt8)}(hl:A.length=B.length) (h:∀ j,j < A.length→A[j]?=B[j]?):A=B:=by
  apply List.ext_getElem?
  intro j
  by_cases hj:j < A.length
  · exact h j hj
  · rw [List.getElem?_eq_none (by omega),List.getElem?_eq_none (by omega)]
theorem Tryz.same03_w (A B:List (List UInt8)) (a b:Option Addr) (ca cb:Nat) (w:World) (hla:A.length≤1000000) (_hlb:B.length≤1000000) (ha:SlOk w a (A.map str)) (hb:SlOk w b (B.map str)) :
    Fun Tryz.prog 18 [.slice a A.length ca,.slice b B.length cb] w (.bool (decide (A=B))):=by
  refine Tri.enter (bx:=[]) (hp:=[]) Tryz.func18 rfl (by kernel_rfl) rfl (Own.nil w) ?_
  by_cases hl:A.length=B.length
  · refine At.go [false] [] rfl (by and_intros <;> first | (simp [hl]; done) | exact oK) ?_
    refine At.loop (env0:=[(0,.slice a A.length ca),(1,.slice b B.length cb),(5,.int .i64 0)]) (fun m_ env bx hp => ∃ (i:Nat),m_=A.length - i∧(i≤A.length)∧(∀ j,j < i→A[j]?=B[j]?)∧env=[(0,.slice a A.length ca),(1,.slice b B.length cb),(5,.int .i64 i)]∧bx=[]∧hp=[]) rfl
      ⟨0,rfl,(by omega),(fun j h=>absurd h (Nat.not_lt_zero j)),rfl,rfl,rfl⟩ sB ?_
    rintro m_ env bx hp ⟨i,rfl,hi,hno,rfl,rfl,rfl⟩ ih
    by_cases hlt:i < A.length
    · obtain⟨x,hx⟩:∃ x,A[i]?=some x:=⟨_,List.getElem?_eq_getElem hlt⟩
      obtain⟨y,hy⟩:∃ y,B[i]?=some y:=⟨_,List.getElem?_eq_getElem (by omega)⟩
      have ex:(A.map str)[i]?=some (str x):=by rw [List.getElem?_map,hx]; rfl
      have ey:(B.map str)[i]?=some (str y):=by rw [List.getElem?_map,hy]; rfl
      obtain⟨g,o,rfl,hc⟩:=ha.get (by intro h; rw [h] at ex; simp at ex)
      obtain⟨g',o',rfl,hc'⟩:=hb.get (by intro h; rw [h] at ey; simp at ey)
      have rA:∀ {bx:Bx}{hp:List Seg},RdW ⟨w,kys [] []⟩ bx hp g (o+(i:Int).toNat * 1) [str x]:=fun {_ _}=>RdW.base1 (by simp [kys]) (by rw [Int.toNat_natCast,Nat.mul_one]; exact hc _ _ ex)
      have rB:∀ {bx:Bx}{hp:List Seg},RdW ⟨w,kys [] []⟩ bx hp g' (o'+(i:Int).toNat * 1) [str y]:=fun {_ _}=>RdW.base1 (by simp [kys]) (by rw [Int.toNat_natCast,Nat.mul_one]; exact hc' _ _ ey)
      by_cases hxy:x=y
      · have q1:(!decide (bl ⟨x.toArray⟩=bl ⟨y.toArray⟩))=false:=by rw [bl_of,bl_of,decide_eq_true hxy]; rfl
        refine At.go [true] [] rfl (by and_intros <;> first | exact rA | exact rB | exact q1 | exact decide_eq_true (by omega) | exact oK) ?_
        refine At.qt [] [hR [.string { data:=x.toArray }],hR [.string { data:=y.toArray }]] rfl rfl (by and_intros <;> first | exact rA | exact rB | exact q1 | exact decide_eq_true (by omega) | exact oK) ?_
        refine At.go [false] [] rfl (by and_intros <;> first | exact rA | exact rB | exact q1 | exact decide_eq_true (by omega) | exact oK) ?_
        exact At.weak (ih _ _ _ _ (by omega) ⟨i+1,rfl,by omega,fun j hj=>by by_cases hji:j=i; subst hji; rw [hx,hy,hxy]; exact hno j (by omega),rfl,rfl,rfl⟩) sB
      · have q1:(!decide (bl ⟨x.toArray⟩=bl ⟨y.toArray⟩))=true:=by rw [bl_of,bl_of,decide_eq_false hxy]; rfl
        have hne:decide (A=B)=false:=decide_eq_false fun h=>by rw [h,hy] at hx; exact hxy (Option.some.inj hx).symm
        rw [hne]
        refine At.go [true] [] rfl (by and_intros <;> first | exact rA | exact rB | exact q1 | exact decide_eq_true (by omega) | exact oK) ?_
        refine At.qt [] [hR [.string { data:=x.toArray }],hR [.string { data:=y.toArray }]] rfl rfl (by and_intros <;> first | exact rA | exact rB | exact q1 | exact decide_eq_true (by omega) | exact oK) ?_
        refine At.go [true] [] rfl (by and_intros <;> first | exact rA | exact rB | exact q1 | exact decide_eq_true (by omega) | exact oK) ?_
        refine At.rt [] [] [] Tryz.func18 ?_
        exact⟨rfl,rfl,rfl⟩
    · obtain rfl:i=A.length:=by omega
      rw [decide_eq_true (same_no hl hno)]
      refine At.go [false] [] rfl (by and_intros <;> first | exact decide_eq_false (by omega) | exact oK) ?_
      refine At.rt [] [] [] Tryz.func18 ?_
      exact⟨rfl,rfl,rfl⟩
  · rw [decide_eq_false (fun h => hl (by rw [h]):¬ A=B)]
    refine At.go [true] [] rfl (by and_intros <;> first | (simp; omega) | exact oK) ?_
    refine At.rt [] [] [] Tryz.func18 ?_
    exact⟨rfl,rfl,rfl⟩
theorem nm0:nmB 115 0=[115,48]:=by
  unfold nmB Lib.itoa
  rw [if_pos (by decide),if_neg (by decide),Lib.decDigits,dif_pos (by decide)]; rfl
theorem Tryz.key_cells:cellsT Tryz.prog 36 (.agg ⟨keyC⟩)=some (keyC,∀ u,u∈keyC→u.oneCell'=true):=by
  unfold cellsT
  rw [show aggT Tryz.prog 36=some true by rfl,show szT Tryz.prog 36=some 72 by rfl]
  simp only [keyC_len]; rfl
theorem key_ones:∀ u,u∈keyC→u.oneCell'=true:=by
  rw [keyC_eq]; exact all1 rfl
theorem key_put {l:List Value}(h:l.length=72):putL l 0 keyC=keyC:=by
  rw [putL_eq keyC l 0 (by rw [keyC_len]; omega),keyC_len,List.drop_of_length_le (by omega)]; simp
end Go.Proofs

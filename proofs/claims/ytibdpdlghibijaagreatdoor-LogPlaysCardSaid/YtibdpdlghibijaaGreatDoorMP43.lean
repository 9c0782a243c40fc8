/-
  Walks of layers 7 and 19's document: frames, headers, a log's files.
-/
import Derived.Test.YtibdpdlghibijaaGreatDoorMP21
import Derived.Test.YtibdpdlghibijaaGreatDoorMP16
import Derived.Test.YtibdpdlghibijaaGreatDoorMP7
import Derived.Test.YtibdpdlghibijaaGreatDoorMP40
import Derived.Test.YtibdpdlghibijaaGreatDoorMP29
import Derived.Test.YtibdpdlghibijaaGreatDoorMP42
import Derived.Test.YtibdpdlghibijaaGreatDoorMP28
import Derived.Test.YtibdpdlghibijaaGreatDoorMP19
import Derived.Test.YtibdpdlghibijaaGreatDoorMP17
import Derived.Test.YtibdpdlghibijaaGreatDoorMP12
import Derived.Test.YtibdpdlghibijaaGreatDoorMP38
import Derived.Test.YtibdpdlghibijaaGreatDoorMP37
namespace Go.Proofs
open Go Go.Eng
set_option maxRecDepth 100000
set_option maxHeartbeats 4000000
attribute [local irreducible] Tri
theorem Tryz.rWrap_w (s:List UInt8) (w:World) (hs:s.length≤1000000):Fun Tryz.prog 64 [str s] w (str (wrapL s)):=by
  have fR:∀ {S:Base}{bx:Bx}{hp:List Seg},CallOb Tryz.prog S bx hp 104 [str s] (str (rowL s)):=fun {_ _ _} w' _=>Tryz.rrow_w s w' hs
  have h1:=numL_len10 s.length (by omega)
  have h2:(rowL s).length≤1000010:=by unfold rowL; rw [List.length_append]; omega
  refine Tri.enter (bx:=[]) (hp:=[]) Tryz.func64 rfl (by kernel_rfl) rfl (Own.nil w) ?_
  refine At.go [] [hC (.string { data:=(rowL s).toArray })] rfl (by and_intros <;> first | exact fR | (simp; omega) | exact oK) ?_
  refine At.rt [] [] [] Tryz.func64 ?_
  exact⟨rfl,rfl,rfl⟩
theorem hdC_one (x:HdB):∀ u,u∈hdC x→u.oneCell'=true:=by simp [hdC,Value.oneCell',str]
theorem Tryz.rHeader_w (P n:Nat) (i f c3 c4:Int) (p:List UInt8) (l:List (List UInt8)) (a:Option Addr) (cap:Nat) (w:World) (hn:n≤32) (hl:l.length≤64) (hcap:l.length≤cap) (hx:∀ x,x∈l→x.length≤100000) (hr:SlOk w a (l.map str)) :
    Fun Tryz.prog 11 [.agg ⟨keyC⟩,.agg ⟨[.int .i64 P,.int .i64 n,.int .i64 c3,.int .i64 c4]⟩,.int .i64 i,.int .i64 f,str p,.slice a l.length cap] w (.agg ⟨hdC ⟨i,f,l.length,sumL l,p,rootB n l⟩⟩):=by
  have fR:∀ {bx:Bx}{hp:List Seg},CallOb Tryz.prog ⟨w,kys [] []⟩ bx hp 42 [.agg ⟨keyC⟩,.slice a l.length cap,.int .i64 n] (str (rootB n l)):=fun {_ _} w' hw'=>Tryz.rRoot_w n hn l.length l a cap w' (Nat.le_refl _) (by omega) hcap hx (hr.ext hw'.ext (by simp [kys]))
  have hsum:∀ j,sumL (l.take j)≤64 * 100000:=fun j=>by
    have h1:=sumL_few (l:=l.take j) fun x h=>hx x (List.mem_of_mem_take h)
    have h2:(l.take j).length * 100000≤64 * 100000:=Nat.mul_le_mul_right _ (by rw [List.length_take]; omega)
    exact Nat.le_trans h1 h2
  generalize rootB n l=r at fR ⊢
  refine Tri.enter (bx:=[]) (hp:=[]) Tryz.func11 rfl (by kernel_rfl) rfl (Own.nil w) ?_
  refine At.go [] [] rfl (by and_intros <;> first | exact fR | exact Tryz.key_ld (i:=1) rfl | exact Tryz.key_ld (i:=2) rfl | (simp; done) | exact oK) ?_
  refine At.bo fun b6 hb6=>?_
  refine At.bo fun b7 hb7=>?_
  refine At.al fun b12 hb12=>?_
  refine At.go [] [hK (.agg { toList:=keyC }),hB 1,hC (.string { data:=r.toArray })] rfl (by and_intros <;> first | exact fR | exact Tryz.key_ld (i:=1) rfl | exact Tryz.key_ld (i:=2) rfl | (simp; done) | exact oK) ?_
  refine At.al fun b13 hb13=>?_
  refine At.go [] [hB 0] rfl (by and_intros <;> first | exact fR | exact Tryz.key_ld (i:=1) rfl | exact Tryz.key_ld (i:=2) rfl | (simp [Value.oneCell',str]; done) | exact oK) ?_
  refine At.loop (env0:=[(5,.slice a l.length cap),(12,.pointer (some ⟨b12,0,none⟩)),(13,.pointer (some ⟨b13,0,none⟩)),(14,.int .i64 0)]) (fun m_ env bx hp => ∃ (j:Nat),m_=l.length - j∧(j≤l.length)∧env=[(5,.slice a l.length cap),(12,.pointer (some ⟨b12,0,none⟩)),(13,.pointer (some ⟨b13,0,none⟩)),(14,.int .i64 (j:Int))]∧bx=[(b13,28,[.int .i64 (i:Int),.int .i64 (f:Int),.int .i64 (l.length:Int),.int .i64 ((sumL (l.take j):Nat):Int),str p,str r]),(b12,28,[.int .i64 0,.int .i64 0,.int .i64 0,.int .i64 0,.string { data:=#[] },.string { data:=#[] }]),(b7,23,[.int .i64 ↑P,.int .i64 ↑n,.int .i64 c3,.int .i64 c4]),(b6,36,keyC)]∧hp=[]) rfl
    ⟨0,rfl,(Nat.zero_le _),rfl,rfl,rfl⟩ sB ?_
  rintro m_ env bx hp ⟨j,rfl,hj,rfl,rfl,rfl⟩ ih
  by_cases hlt:j < l.length
  · obtain⟨x,hx'⟩:∃ x,l[j]?=some x:=⟨_,List.getElem?_eq_getElem hlt⟩
    have hxl:=hx x (List.mem_of_getElem? hx')
    have ex:(l.map str)[j]?=some (str x):=by rw [List.getElem?_map,hx']; rfl
    obtain⟨g,o,rfl,hc⟩:=hr.get (by intro h; rw [h] at ex; simp at ex)
    have rA:∀ {bx:Bx}{hp:List Seg},RdW ⟨w,kys [] []⟩ bx hp g (o+(j:Int).toNat * 1) [str x]:=fun {_ _}=>RdW.base1 (by simp [kys]) (by rw [Int.toNat_natCast,Nat.mul_one]; exact hc _ _ ex)
    have hs1:=hsum j
    have hs2:=hsum (j+1)
    have hst:sumL (l.take (j+1))=sumL (l.take j)+x.length:=by rw [List.take_add_one,hx']; exact sumL_snoc _ x
    refine At.go [true] [] rfl (by and_intros <;> first | exact rA | exact decide_eq_true (by omega) | (simp only; omega) | (simp; done) | exact oK) ?_
    refine At.qT 9 1 [] [hB 0,hR [.string { data:=x.toArray }]] rfl rfl (by and_intros <;> first | exact rA | exact decide_eq_true (by omega) | (simp only [bl_of]; omega) | (simp; done) | exact oK) ?_
    refine AtD.f1 9 [] [] [hB 0] rfl rfl rfl (by first | exact rA | exact decide_eq_true (by omega) | (simp only [bl_of]; omega) | (simp [Value.oneCell']; done) | exact oK) (by first | exact rA | exact decide_eq_true (by omega) | (simp only; omega) | (simp; done) | exact oK) ?_
    refine AtD.dn ?_
    refine At.go [] [] rfl (by and_intros <;> first | exact rA | exact decide_eq_true (by omega) | (simp only; omega) | (simp; done) | exact oK) ?_
    rw [show ((sumL (l.take j):Nat):Int)+((bl ⟨x.toArray⟩).length:Int)=((sumL (l.take (j+1)):Nat):Int) by rw [bl_of,hst]; omega]
    exact At.weak (ih _ _ _ _ (by omega) ⟨j+1,rfl,by omega,rfl,rfl,rfl⟩) sB
  · obtain rfl:j=l.length:=by omega
    rw [List.take_length]
    refine At.go [false] [hB 0,hB 1] rfl (by and_intros <;> first | exact decide_eq_false (by omega) | (simp [Value.oneCell',str]; done) | exact oK) ?_
    refine At.rt [] [] [hB 1] Tryz.func11 ?_
    exact⟨rfl,rfl,rfl⟩
theorem putH_124 {h:HdB}{n:Nat}(hm:mayH h n=true) (hn:n≤32):(putH h).length≤124:=by
  have mx:=mayH_in hm
  have n1:=numL_len10 h.i.toNat (by omega)
  have n2:=numL_len10 h.f.toNat (by omega)
  have n3:=numL_len10 h.c.toNat (by omega)
  have n4:=numL_len10 h.b.toNat (by omega)
  have n5:=numL_len10 h.p.length (by omega)
  have n6:=numL_len10 h.r.length (by omega)
  simp only [putH,rowL,List.length_append]
  omega
theorem wraps_len {n:Nat}(hn:n≤32):∀ L:List HdB,(∀ x,x∈L→mayH x n=true)→((L.map putH).flatMap wrapL).length≤L.length * 135
  | [],_ => by simp
  | x :: L,h => by
    have h1:=putH_124 (h x (by simp)) hn
    have h2:=numL_len10 (putH x).length (by omega)
    have h3:=wraps_len hn L fun y hy=>h y (List.mem_cons_of_mem _ hy)
    rw [List.map_cons,List.flatMap_cons,List.length_append,wrapL_len,List.length_cons,Nat.add_mul]; omega
theorem Tryz.rheaders_w (L:List HdB) (n:Nat) (a:Option Addr) (cap:Nat) (w:World) (hn:n≤32) (hm:∀ x,x∈L→mayH x n=true) (hl:L.length≤40) (hr:SlOk w a (L.flatMap hdC)) :
    Fun Tryz.prog 65 [.slice a L.length cap] w (str ((L.map putH).flatMap wrapL)):=by
  refine Tri.enter (bx:=[]) (hp:=[]) Tryz.func65 rfl (by kernel_rfl) rfl (Own.nil w) ?_
  refine At.go [] [] rfl (by and_intros <;> first | exact trivial | exact oK) ?_
  refine At.loop (env0:=[(0,.slice a L.length cap),(3,.string { data:=#[] }),(4,.int .i64 0)]) (fun m_ env bx hp => ∃ (i:Nat) (acc:List UInt8),m_=L.length - i∧(i≤L.length)∧(acc=((L.take i).map putH).flatMap wrapL)∧env=[(0,.slice a L.length cap),(3,str acc),(4,.int .i64 (i:Int))]∧bx=[]∧hp=[]) rfl
    ⟨0,[],rfl,(Nat.zero_le _),(by simp),rfl,rfl,rfl⟩ sB ?_
  rintro m_ env bx hp ⟨i,acc,rfl,hi,hacc,rfl,rfl,rfl⟩ ih
  by_cases hlt:i < L.length
  · obtain⟨x,hx⟩:∃ x,L[i]?=some x:=⟨_,List.getElem?_eq_getElem hlt⟩
    have hmx:=hm x (List.mem_of_getElem? hx)
    have hlen:=wraps_len hn (L.take i) fun y hy=>hm y (List.mem_of_mem_take hy)
    rw [List.length_take] at hlen
    have hpl:=putH_124 hmx hn
    have hnl:=numL_len10 (putH x).length (by omega)
    have hwl:=wrapL_len (putH x)
    have hne:L.flatMap hdC≠[]:=by intro e; have:=flat_get (f:=hdC) (sz:=6) (fun _ _=>rfl) hx 0 _ rfl; rw [e] at this; simp at this
    obtain⟨g,o,rfl,hc⟩:=hr.get hne
    have rX:∀ {bx:Bx}{hp:List Seg},RdW ⟨w,kys [] []⟩ bx hp g (o+(i:Int).toNat * 6) (hdC x):=fun {_ _}=>RdW.base (by simp [kys]) fun j u hu=>by
      rw [show o+(i:Int).toNat * 6+j=o+(i * 6+j) by omega]
      exact hc _ u (flat_get (f:=hdC) (sz:=6) (fun _ _=>rfl) hx j u hu)
    have fP:∀ {S:Base}{bx:Bx}{hp:List Seg},CallOb Tryz.prog S bx hp 105 [.agg ⟨hdC x⟩] (str (putH x)):=fun {_ _ _} w2 _=>Tryz.rhPut_w x n w2 hmx hn
    have fW:∀ {S:Base}{bx:Bx}{hp:List Seg},CallOb Tryz.prog S bx hp 64 [str (putH x)] (str (wrapL (putH x))):=fun {_ _ _} w2 _=>Tryz.rWrap_w (putH x) w2 (by omega)
    have hst:((L.take (i+1)).map putH).flatMap wrapL=((L.take i).map putH).flatMap wrapL++wrapL (putH x):=by rw [List.take_add_one,hx,List.map_append,List.flatMap_append]; simp
    rw [← hacc] at hlen
    have hm40:min i L.length * 135≤40 * 135:=Nat.mul_le_mul_right _ (by omega)
    refine At.go [true] [hR [.int .i64 x.i,.int .i64 x.f,.int .i64 x.c,.int .i64 x.b,.string { data:=x.p.toArray },.string { data:=x.r.toArray }],hC (.string { data:=(putH x).toArray }),hC (.string { data:=(wrapL (putH x)).toArray })] rfl (by and_intros <;> first | exact rX | exact fP | exact fW | exact decide_eq_true (by omega) | (rw [bl_of,bl_of]; omega) | exact oK) ?_
    exact At.weak (ih _ _ _ _ (by omega) ⟨i+1,acc++wrapL (putH x),rfl,by omega,by rw [hst,hacc],rfl,rfl,rfl⟩) sB
  · obtain rfl:i=L.length:=by omega
    rw [List.take_length] at hacc
    refine At.go [false] [] rfl (by and_intros <;> first | exact decide_eq_false (by omega) | exact oK) ?_
    refine At.rt [] [] [] Tryz.func65 ?_
    exact⟨by rw [hacc]; rfl,rfl,rfl⟩
theorem Tryz.rHash19_w (P n K:Nat) (R:List (List UInt8)) (c3 c4:Int) (a:Option Addr) (cap:Nat) (w:World) (hn:n≤32) (gK:K≤40) (hm:∀ k,k < K→mayH (hdK P n R k) n=true) (hr:SlOk w a ((hdsB P n R K).flatMap hdC)) :
    Fun Tryz.prog 73 [.agg ⟨keyC⟩,.agg ⟨[.int .i64 P,.int .i64 n,.int .i64 c3,.int .i64 c4]⟩,.slice a K cap] w (str (prevB P n R K)):=by
  cases K with
  | zero =>
    have fC:∀ {S:Base}{bx:Bx}{hp:List Seg},CallOb Tryz.prog S bx hp 79 [.agg ⟨keyC⟩,str [],.int .i64 n] (str (cutH n [])):=fun {_ _ _} w' _=>Tryz.rCut_w [] n w' (by decide) hn
    refine Tri.enter (bx:=[]) (hp:=[]) Tryz.func73 rfl (by kernel_rfl) rfl (Own.nil w) ?_
    refine At.go [] [] rfl (by and_intros <;> first | exact fC | exact Tryz.key_ld (i:=1) rfl | (simp; done) | exact oK) ?_
    refine At.bo fun b3 hb3=>?_
    refine At.bo fun b4 hb4=>?_
    refine At.go [true] [hK (.agg { toList:=keyC }),hB 0,hC (.string { data:=(cutH n []).toArray })] rfl (by and_intros <;> first | exact fC | exact Tryz.key_ld (i:=1) rfl | (simp; done) | exact oK) ?_
    refine At.rt [] [] [] Tryz.func73 ?_
    exact⟨rfl,rfl,rfl⟩
  | succ k =>
    have hx:(hdsB P n R (k+1))[k]?=some (hdK P n R k):=by unfold hdsB; rw [List.getElem?_map,List.getElem?_range (by omega)]; rfl
    have hmx:=hm k (by omega)
    show Fun _ _ _ _ (str (hashH n (hdK P n R k)))
    generalize hdK P n R k=x at hx hmx
    have hne:(hdsB P n R (k+1)).flatMap hdC≠[]:=by intro e; have:=flat_get (f:=hdC) (sz:=6) (fun _ _=>rfl) hx 0 _ rfl; rw [e] at this; simp at this
    obtain⟨g,o,rfl,hc⟩:=hr.get hne
    have rX:∀ {bx:Bx}{hp:List Seg},RdW ⟨w,kys [] []⟩ bx hp g (o+((((k+1:Nat):Int) - 1).toNat) * 6) (hdC x):=fun {_ _}=>RdW.base (by simp [kys]) fun j u hu=>by
      rw [show o+((((k+1:Nat):Int) - 1).toNat) * 6+j=o+(k * 6+j) by omega]
      exact hc _ u (flat_get (f:=hdC) (sz:=6) (fun _ _=>rfl) hx j u hu)
    have fC:∀ {S:Base}{bx:Bx}{hp:List Seg},CallOb Tryz.prog S bx hp 106 [.agg ⟨keyC⟩,.agg ⟨hdC x⟩,.int .i64 n] (str (hashH n x)):=fun {_ _ _} w' _=>Tryz.rhHash_w x n w' hmx hn
    refine Tri.enter (bx:=[]) (hp:=[]) Tryz.func73 rfl (by kernel_rfl) rfl (Own.nil w) ?_
    refine At.go [] [] rfl (by and_intros <;> first | exact decide_eq_false (by omega) | exact Tryz.key_ld (i:=1) rfl | exact rX | exact fC | omega | exact oK) ?_
    refine At.bo fun b3 hb3=>?_
    refine At.bo fun b4 hb4=>?_
    refine At.go [false] [] rfl (by and_intros <;> first | exact decide_eq_false (by omega) | exact Tryz.key_ld (i:=1) rfl | exact rX | exact fC | omega | exact oK) ?_
    refine At.qt [] [hK (.agg { toList:=keyC }),hR [.int .i64 x.i,.int .i64 x.f,.int .i64 x.c,.int .i64 x.b,.string { data:=x.p.toArray },.string { data:=x.r.toArray }],hB 0,hC (.string { data:=(hashH n x).toArray })] rfl rfl (by and_intros <;> first | exact decide_eq_false (by omega) | exact Tryz.key_ld (i:=1) rfl | exact rX | exact fC | omega | exact oK) ?_
    refine At.go [] [] rfl (by and_intros <;> first | exact decide_eq_false (by omega) | exact Tryz.key_ld (i:=1) rfl | exact rX | exact fC | omega | exact oK) ?_
    refine At.rt [] [] [] Tryz.func73 ?_
    exact⟨rfl,rfl,rfl⟩
theorem hdsB_snoc (P n:Nat) (R:List (List UInt8)) (k:Nat):hdsB P n R (k+1)=hdsB P n R k++[hdK P n R k]:=by unfold hdsB; rw [List.range_succ,List.map_append]; rfl
theorem Tryz.rHeads_w (P n:Nat) (R:List (List UInt8)) (c3 c4:Int) (a:Option Addr) (cap:Nat) (w:World) (hP:1≤P∧P≤64) (hn:n≤32) (hR:R.length≤40) (hcap:R.length≤cap) (hx:∀ x,x∈R→x.length≤300) (hr:SlOk w a (R.map str)) :
    Tri Tryz.prog 66 [.agg ⟨keyC⟩,.agg ⟨[.int .i64 P,.int .i64 n,.int .i64 c3,.int .i64 c4]⟩,.slice a R.length cap] w [] (fun v bx hp=>∃ (g:Option Nat) (c:Nat),v=sv g (R.length / P) c∧bx=[]∧hp=[Seg.row g 28 6 (R.length / P) c ((hdsB P n R (R.length / P)).flatMap hdC)]):=by
  have gK:∀ k,(k+1) * P≤R.length→k < R.length / P:=fun k h=>(Nat.le_div_iff_mul_le (by omega)).2 h
  have hK2:∀ k,k < R.length / P→(k+1) * P≤R.length:=fun k h=>(Nat.le_div_iff_mul_le (by omega)).1 h
  obtain⟨K,hKe⟩:∃ K,R.length / P=K:=⟨_,rfl⟩
  have hK40:K≤40:=by rw [← hKe]; have:=Nat.div_le_self R.length P; omega
  rw [hKe] at gK hK2 ⊢
  have hmay:∀ k,k < K→mayH (hdK P n R k) n=true:=fun k hk=>hdK_may hP hn (by omega) (fun x h=>by have:=hx x h; omega) (hK2 k hk)
  have fC:∀ {S:Base}{bx:Bx}{hp:List Seg},CallOb Tryz.prog S bx hp 79 [.agg ⟨keyC⟩,str [],.int .i64 n] (str (cutH n [])):=fun {_ _ _} w' _=>Tryz.rCut_w [] n w' (by decide) hn
  refine Tri.enter (bx:=[]) (hp:=[]) Tryz.func66 rfl (by kernel_rfl) rfl (Own.nil w) ?_
  refine At.go [] [] rfl (by and_intros <;> first | exact fC | exact Tryz.key_ld (i:=1) rfl | exact oK) ?_
  refine At.bo fun b3 hb3=>?_
  refine At.bo fun b4 hb4=>?_
  refine At.go [] [hK (.agg { toList:=keyC }),hB 0,hC (.string { data:=(cutH n []).toArray })] rfl (by and_intros <;> first | exact fC | exact Tryz.key_ld (i:=1) rfl | exact oK) ?_
  refine At.nilRow 28 6 ?_
  refine At.loop (env0:=[(2,.slice a R.length cap),(3,.pointer (some ⟨b3,0,none⟩)),(4,.pointer (some ⟨b4,0,none⟩)),(7,.slice none 0 0),(8,.string { data:=(cutH n []).toArray }),(9,.int .i64 0)]) (fun m_ env bx hp => ∃ (k:Nat) (prev:List UInt8) (cs:List Value) (g:Option Nat) (c:Nat),m_=K - k∧(k≤K)∧(prev=prevB P n R k)∧(cs=(hdsB P n R k).flatMap hdC)∧env=[(2,.slice a R.length cap),(3,.pointer (some ⟨b3,0,none⟩)),(4,.pointer (some ⟨b4,0,none⟩)),(7,sv g k c),(8,str prev),(9,.int .i64 (k:Int))]∧bx=[(b4,23,[.int .i64 ↑P,.int .i64 ↑n,.int .i64 c3,.int .i64 c4]),(b3,36,keyC)]∧hp=[Seg.row g 28 6 k c cs]) rfl
    ⟨0,cutH n [],[],none,0,rfl,(Nat.zero_le _),(rfl),(by simp [hdsB]),rfl,rfl,rfl⟩ sB ?_
  rintro m_ env bx hp ⟨k,prev,cs,g,c,rfl,hk,hprev,hcs,rfl,rfl,rfl⟩ ih
  by_cases hlt:k < K
  · have hf:=hK2 k hlt
    have hmk:=hmay k hlt
    obtain⟨A,hA⟩:∃ A,k * P=A:=⟨_,rfl⟩
    have hA1:(k:Int) * (P:Int)=(A:Int):=by rw [← hA]; simp
    have hA2:((k:Int)+1) * (P:Int)=((A+P:Nat):Int):=by rw [Int.add_mul,hA1]; simp
    rw [Nat.add_mul,hA] at hf
    obtain⟨g0,o,rfl,-⟩:=hr.get (by intro e; have:=congrArg List.length e; rw [List.length_map] at this; simp only [List.length_nil] at this; omega)
    have hl:(segK P R k).length=P:=by unfold segK; rw [List.length_take,List.length_drop]; omega
    have hA4:((((k:Int)+1) * (P:Int)).toNat - ((k:Int) * (P:Int)).toNat)=P:=by rw [hA1,hA2]; omega
    have hA5:(((k:Int) * (P:Int)).toNat)=A:=by rw [hA1]; omega
    have fH:∀ {bx:Bx}{hp:List Seg},CallOb Tryz.prog ⟨w,kys [] []⟩ bx hp 11 [.agg ⟨keyC⟩,.agg ⟨[.int .i64 P,.int .i64 n,.int .i64 c3,.int .i64 c4]⟩,.int .i64 k,.int .i64 ((k:Int) * (P:Int)),str prev,.slice (some ⟨g0,o+((k:Int) * (P:Int)).toNat * 1,none⟩) ((((k:Int)+1) * (P:Int)).toNat - ((k:Int) * (P:Int)).toNat) (cap - ((k:Int) * (P:Int)).toNat)] (.agg ⟨hdC (hdK P n R k)⟩):=fun {_ _} w' hw'=>by
      have s1:=SlOk.rowsT P (SlOk.rowsD (k * P) (hr.ext hw'.ext (by simp [kys])))
      have:=Tryz.rHeader_w P n k A c3 c4 prev (segK P R k) _ (cap - A) w' hn (by omega) (by omega) (fun x h=>by have:=hx x (segK_mem0 h); omega) s1
      rw [hA4,hA5,Nat.mul_one,hA1]
      rw [hl,hA] at this
      have e:hdK P n R k=⟨k,A,P,sumL (segK P R k),prev,rootB n (segK P R k)⟩:=by rw [hprev]; unfold hdK mkH; rw [hA]
      rw [e]; exact this
    have fX:∀ {S:Base}{bx:Bx}{hp:List Seg},CallOb Tryz.prog S bx hp 106 [.agg ⟨keyC⟩,.agg ⟨hdC (hdK P n R k)⟩,.int .i64 n] (str (hashH n (hdK P n R k))):=fun {_ _ _} w' _=>Tryz.rhHash_w (hdK P n R k) n w' hmk hn
    have hst:=hdsB_snoc P n R k
    have hpv:prevB P n R (k+1)=hashH n (hdK P n R k):=rfl
    generalize hdK P n R k=x at fH fX hst hpv hmk
    refine At.gn 13 [true] [hB 0] rfl (by and_intros <;> first | exact decide_eq_true (by omega) | omega | exact oK) ?_
    refine At.cutS (ι:=Nat) ⟨1,[0,0,0,1,0,0,1,0,1,1,1],[]⟩ (fun b => [(2,.slice (some ⟨g0,o,none⟩) R.length cap),(3,.pointer (some ⟨b3,0,none⟩)),(4,.pointer (some ⟨b4,0,none⟩)),(7,sv g k c),(8,str prev),(9,.int .i64 (k:Int)),(10,.pointer (some ⟨b,0,none⟩))])
      (fun b=>[(b,28,hdC x),(b4,23,[.int .i64 P,.int .i64 n,.int .i64 c3,.int .i64 c4]),(b3,36,keyC)]) (fun _=>[Seg.row g 28 6 k c cs]) ?_ fun hk0=>?_
    rotate_left
    · refine At.dr 22 ?_
      refine AtH.readsK [true,true] [true] [1,2,3,4,5,6,7,8,9,10,11,12,13,14,15,16,17,18] [hB 0,hB 0,hB 0,hB 0] rfl rfl (by and_intros <;> first | omega | (simp; done) | exact oK) rfl rfl (fuel:=4) ?_
      refine AtH.ld 0 (.agg ⟨keyC⟩) (Tryz.key_ld (i:=1) rfl) ?_
      refine AtH.fork2 19 20 (by kernel_rfl) rfl rfl rfl rfl rfl rfl (OpOk.one true [] [hC (.agg ⟨hdC x⟩)] rfl fH ⟨fun w hw=>hw.selK [true,true] [true],?_⟩) (OpOk.alloc rfl rfl fun b10 hb10 =>⟨fun w hw=>hw.selK [false,true,true] [true],?_⟩)
      · refine AtH.f1 20 rfl (OpOk.alloc rfl rfl fun b10 hb10 =>⟨fun w hw => hw.selK [false,true,true] [true],?_⟩)
        refine AtH.f1 21 rfl (OpOk.one true [] [hB 0] rfl ⟨rfl,hdC_one _⟩ ⟨fun w hw=>hw.selK [false,true,true] [true],?_⟩)
        refine AtH.dn ?_
        exact At.weak (hk0 b10) sB
      · refine AtH.f1 19 rfl (OpOk.one true [] [hC (.agg ⟨hdC x⟩)] rfl fH ⟨fun w hw => hw.selK [false,true,true] [true],?_⟩)
        refine AtH.f1 21 rfl (OpOk.one true [] [hB 0] rfl ⟨rfl,hdC_one _⟩ ⟨fun w hw=>hw.selK [false,true,true] [true],?_⟩)
        refine AtH.dn ?_
        exact At.weak (hk0 b10) sB
    rintro b10
    refine At.go [] [hB 0] rfl (by and_intros <;> first | exact fX | exact Tryz.key_ld (i:=2) rfl | omega | (simp; done) | exact oK) ?_
    refine At.a1 0 6 64 fun b47 a48 c48=>?_
    refine At.go [] [hK (.agg { toList:=keyC }),hB 0,hB 1,hC (.string { data:=(hashH n x).toArray })] rfl (by and_intros <;> first | exact fX | exact Tryz.key_ld (i:=2) rfl | omega | (simp; done) | exact oK) ?_
    have ecs:cs++hdC x=(hdsB P n R (k+1)).flatMap hdC:=by rw [hst,List.flatMap_append,hcs]; simp
    refine At.keep [false,true,true] [true] rfl ?_
    exact At.weak (ih _ _ _ _ (by omega) ⟨k+1,hashH n x,cs++hdC x,a48,c48,rfl,by omega,hpv.symm,ecs,rfl,rfl,rfl⟩) sB
  · obtain rfl:k=K:=by omega
    have hno:¬ (k+1) * P≤R.length:=fun h=>by have:=gK k h; omega
    rw [Nat.add_mul] at hno
    have hkP:k * P≤R.length:=by
      have:=Nat.div_mul_le_self R.length P
      rw [hKe] at this; exact this
    obtain⟨A,hA⟩:∃ A,k * P=A:=⟨_,rfl⟩
    rw [hA] at hno hkP
    have hA1:((k:Int)+1) * (P:Int)=((A+P:Nat):Int):=by rw [Int.add_mul,← hA]; simp
    subst hcs
    refine At.go [false] [hB 0] rfl (by and_intros <;> first | exact decide_eq_false (by rw [hA1]; omega) | (simp only; rw [hA1]; omega) | (rw [hA1]; omega) | exact oK) ?_
    refine At.rt [] [true] [] Tryz.func66 ?_
    exact⟨g,c,rfl,rfl,rfl⟩
theorem Tryz.fWrap_w (s:List UInt8) (w:World) (hs:1≤s.length∧s.length≤65536):Fun Tryz.prog 122 [str s] w (.tuple #[str (wrapL s),.int .i64 0]):=by
  have fR:∀ {S:Base}{bx:Bx}{hp:List Seg},CallOb Tryz.prog S bx hp 124 [str s] (str (rowL s)):=fun {_ _ _} w' _=>Tryz.nrow_w s w' (by omega)
  have h1:=numL_len10 s.length (by omega)
  have h2:(rowL s).length≤1000010:=by unfold rowL; rw [List.length_append]; omega
  have hne:s≠[]:=by intro e; rw [e] at hs; simp at hs
  refine Tri.enter (bx:=[]) (hp:=[]) Tryz.func122 rfl (by kernel_rfl) rfl (Own.nil w) ?_
  refine At.go [false,false] [hC (.string { data:=(rowL s).toArray })] rfl (by and_intros <;> first | exact fR | (simp only [bl_of]; exact decide_eq_false hne) | (rw [bl_of]; exact decide_eq_false (by omega)) | (simp; omega) | exact oK) ?_
  refine At.rt [] [] [] Tryz.func122 ?_
  exact⟨by simp only [bl_of]; rfl,rfl,rfl⟩
theorem Tryz.framed_w (s:List UInt8) (w:World) (hs:1≤s.length∧s.length≤65536):Fun Tryz.prog 95 [str s] w (str (wrapL s)):=by
  have fR:∀ {S:Base}{bx:Bx}{hp:List Seg},CallOb Tryz.prog S bx hp 122 [str s] (.tuple #[str (wrapL s),.int .i64 0]):=fun {_ _ _} w' _=>Tryz.fWrap_w s w' hs
  refine Tri.enter (bx:=[]) (hp:=[]) Tryz.func95 rfl (by kernel_rfl) rfl (Own.nil w) ?_
  refine At.go [] [hC (.tuple { toList:=[.string { data:=(wrapL s).toArray },.int .i64 0] })] rfl (by and_intros <;> first | exact fR | exact oK) ?_
  refine At.rt [] [] [] Tryz.func95 ?_
  exact⟨rfl,rfl,rfl⟩
def comL:List UInt8→List UInt8→Nat
  | x :: a,y :: b => if x=y then comL a b+1 else 0
  | _,_ => 0
theorem comL_le:∀ (a b:List UInt8),comL a b≤a.length∧comL a b≤b.length
  | [],b => by simp [comL]
  | x :: a,[] => by simp [comL]
  | x :: a,y :: b => by
    have:=comL_le a b
    unfold comL
    split <;> simp only [List.length_cons] <;> omega
theorem comL_hit {a b:List UInt8}{j:Nat}{x y:UInt8}(hx:a[j]?=some x) (hy:b[j]?=some y):comL (a.drop j) (b.drop j)=if x=y then comL (a.drop (j+1)) (b.drop (j+1))+1 else 0:=by
  obtain⟨h1,e1⟩:=List.getElem?_eq_some_iff.1 hx
  obtain⟨h2,e2⟩:=List.getElem?_eq_some_iff.1 hy
  rw [List.drop_eq_getElem_cons h1,List.drop_eq_getElem_cons h2,e1,e2,comL]
theorem comL_end {a b:List UInt8}{j:Nat}(h:a.length≤j∨b.length≤j):comL (a.drop j) (b.drop j)=0:=by
  rcases h with h | h
  · rw [List.drop_of_length_le h]; rfl
  · rw [List.drop_of_length_le h]; cases a.drop j <;> rfl
theorem Tryz.common_w (a b:List UInt8) (w:World) (ha:a.length≤9223372036854775807) (_hb:b.length≤9223372036854775807):Fun Tryz.prog 97 [str a,str b] w (.int .i64 (comL a b)):=by
  have hc:=comL_le a b
  refine Tri.enter (bx:=[]) (hp:=[]) Tryz.func97 rfl (by kernel_rfl) rfl (Own.nil w) ?_
  refine At.go [] [] rfl oK ?_
  refine At.loop (env0:=[(0,.string { data:=a.toArray }),(1,.string { data:=b.toArray }),(5,.int .i64 0)]) (fun m_ env bx hp => ∃ (j:Nat),m_=a.length - j∧(j≤a.length∧j≤b.length)∧(comL a b=j+comL (a.drop j) (b.drop j))∧env=[(0,.string { data:=a.toArray }),(1,.string { data:=b.toArray }),(5,.int .i64 (j:Int))]∧bx=[]∧hp=[]) rfl
    ⟨0,rfl,(⟨Nat.zero_le _,Nat.zero_le _⟩),(by simp),rfl,rfl,rfl⟩ sB ?_
  rintro m_ env bx hp ⟨j,rfl,hj,hcm,rfl,rfl,rfl⟩ ih
  by_cases h1:j < a.length
  · by_cases h2:j < b.length
    · obtain⟨x,hx⟩:∃ x,a[j]?=some x:=⟨_,List.getElem?_eq_getElem h1⟩
      obtain⟨y,hy⟩:∃ y,b[j]?=some y:=⟨_,List.getElem?_eq_getElem h2⟩
      have hh:=comL_hit hx hy
      have ea:((bl ⟨a.toArray⟩)[(j:Int).toNat]?.getD 0)=x:=by rw [bl_of,Int.toNat_natCast,hx]; rfl
      have eb:((bl ⟨b.toArray⟩)[(j:Int).toNat]?.getD 0)=y:=by rw [bl_of,Int.toNat_natCast,hy]; rfl
      by_cases hxy:x=y
      · rw [if_pos hxy] at hh
        refine At.go [] [] rfl (by and_intros <;> first | (rw [bl_of]; exact decide_eq_true (by omega)) | (rw [ea,eb,hxy]; exact decide_eq_true rfl) | (rw [bl_of]; omega) | omega | exact oK) ?_
        refine At.qt [true,true] [] rfl rfl (by and_intros <;> first | (rw [bl_of]; exact decide_eq_true (by omega)) | (rw [ea,eb,hxy]; exact decide_eq_true rfl) | (rw [bl_of]; omega) | omega | exact oK) ?_
        refine At.go [true] [] rfl (by and_intros <;> first | (rw [bl_of]; exact decide_eq_true (by omega)) | (rw [ea,eb,hxy]; exact decide_eq_true rfl) | (rw [bl_of]; omega) | omega | exact oK) ?_
        exact At.weak (ih _ _ _ _ (by omega) ⟨j+1,rfl,by omega,by omega,rfl,rfl,rfl⟩) sB
      · rw [if_neg hxy] at hh
        have hu:¬ ((x.toNat:Int)=(y.toNat:Int)):=fun e=>hxy (UInt8.toNat_inj.1 (by omega))
        refine At.go [] [] rfl (by and_intros <;> first | (rw [bl_of]; exact decide_eq_true (by omega)) | (rw [ea,eb]; exact decide_eq_false hu) | (rw [bl_of]; omega) | exact oK) ?_
        refine At.qt [true,true] [] rfl rfl (by and_intros <;> first | (rw [bl_of]; exact decide_eq_true (by omega)) | (rw [ea,eb]; exact decide_eq_false hu) | (rw [bl_of]; omega) | exact oK) ?_
        refine At.go [false] [] rfl (by and_intros <;> first | (rw [bl_of]; exact decide_eq_true (by omega)) | (rw [ea,eb]; exact decide_eq_false hu) | (rw [bl_of]; omega) | exact oK) ?_
        rw [show (j:Int)=((comL a b:Nat):Int) by omega]
        refine At.rt [] [] [] Tryz.func97 ?_
        exact⟨rfl,rfl,rfl⟩
    · rw [comL_end (.inr (by omega))] at hcm
      refine At.go [] [] rfl (by and_intros <;> first | (rw [bl_of]; exact decide_eq_true (by omega)) | (rw [bl_of]; exact decide_eq_false (by omega)) | exact oK) ?_
      refine At.qt [true,false] [] rfl rfl (by and_intros <;> first | (rw [bl_of]; exact decide_eq_true (by omega)) | (rw [bl_of]; exact decide_eq_false (by omega)) | exact oK) ?_
      refine At.go [false] [] rfl (by and_intros <;> first | (rw [bl_of]; exact decide_eq_true (by omega)) | (rw [bl_of]; exact decide_eq_false (by omega)) | exact oK) ?_
      rw [show (j:Int)=((comL a b:Nat):Int) by omega]
      refine At.rt [] [] [] Tryz.func97 ?_
      exact⟨rfl,rfl,rfl⟩
  · rw [comL_end (.inl (by omega))] at hcm
    refine At.go [] [] rfl (by and_intros <;> first | (rw [bl_of]; exact decide_eq_false (by omega)) | exact oK) ?_
    refine At.qt [false,false] [] rfl rfl (by and_intros <;> first | (rw [bl_of]; exact decide_eq_false (by omega)) | exact oK) ?_
    refine At.go [false] [] rfl (by and_intros <;> first | (rw [bl_of]; exact decide_eq_false (by omega)) | exact oK) ?_
    rw [show (j:Int)=((comL a b:Nat):Int) by omega]
    refine At.rt [] [] [] Tryz.func97 ?_
    exact⟨rfl,rfl,rfl⟩
theorem Tryz.lsum_w (l:List Nat) (a:Option Addr) (cap:Nat) (w:World) (hl:l.length≤1000000) (hs:l.sum≤9223372036854775807) (hr:SlOk w a (l.map fun k=>Value.int .i64 (k:Nat))):Fun Tryz.prog 91 [.slice a l.length cap] w (.int .i64 (l.sum:Nat)):=by
  have ht:∀ j,(l.take j).sum≤l.sum:=fun j=>by
    have:=congrArg List.sum (List.take_append_drop j l)
    rw [List.sum_append] at this; omega
  refine Tri.enter (bx:=[]) (hp:=[]) Tryz.func91 rfl (by kernel_rfl) rfl (Own.nil w) ?_
  refine At.go [] [] rfl oK ?_
  refine At.loop (env0:=[(3,.int .i64 0),(6,.slice a l.length cap),(7,.int .i64 ↑l.length),(8,.int .i64 0)]) (fun m_ env bx hp => ∃ (j:Nat),m_=l.length - j∧(j≤l.length)∧env=[(3,.int .i64 ((l.take j).sum:Nat)),(6,.slice a l.length cap),(7,.int .i64 ↑l.length),(8,.int .i64 (j:Int))]∧bx=[]∧hp=[]) rfl
    ⟨0,rfl,(Nat.zero_le _),rfl,rfl,rfl⟩ sB ?_
  rintro m_ env bx hp ⟨j,rfl,hj,rfl,rfl,rfl⟩ ih
  by_cases hlt:j < l.length
  · obtain⟨x,hx'⟩:∃ x,l[j]?=some x:=⟨_,List.getElem?_eq_getElem hlt⟩
    have ex:(l.map fun k=>Value.int .i64 (k:Nat))[j]?=some (.int .i64 (x:Nat)):=by rw [List.getElem?_map,hx']; rfl
    obtain⟨g,o,rfl,hc⟩:=hr.get (by intro h; rw [h] at ex; simp at ex)
    have rA:∀ {bx:Bx}{hp:List Seg},RdW ⟨w,kys [] []⟩ bx hp g (o+(j:Int).toNat * 1) [.int .i64 (x:Nat)]:=fun {_ _}=>RdW.base1 (by simp [kys]) (by rw [Int.toNat_natCast,Nat.mul_one]; exact hc _ _ ex)
    have hst:(l.take (j+1)).sum=(l.take j).sum+x:=by rw [List.take_add_one,hx',List.sum_append]; simp
    have h1:=ht (j+1)
    refine At.go [true] [hR [.int .i64 ↑x]] rfl (by and_intros <;> first | exact rA | exact decide_eq_true (by omega) | exact oK) ?_
    rw [show (((l.take j).sum:Nat):Int)+(x:Int)=(((l.take (j+1)).sum:Nat):Int) by omega]
    exact At.weak (ih _ _ _ _ (by omega) ⟨j+1,rfl,by omega,rfl,rfl,rfl⟩) sB
  · obtain rfl:j=l.length:=by omega
    rw [List.take_length]
    refine At.go [false] [] rfl (by and_intros <;> first | exact decide_eq_false (by omega) | exact oK) ?_
    refine At.rt [] [] [] Tryz.func91 ?_
    exact⟨rfl,rfl,rfl⟩
theorem Tryz.Header_w (c1 n c3 c4 i f:Int) (p:List UInt8) (l:List (List UInt8)) (a:Option Addr) (cap:Nat) (w:World) (hm:mayCf c1 n c3 c4=true) (hl:l.length≤64) (hcap:l.length≤cap) (hx:∀ x,x∈l→x.length≤100000) (hr:SlOk w a (l.map str)) (hS:Tryz.Sha w) :
    Fun Tryz.prog 9 [.agg ⟨[.int .i64 c1,.int .i64 n,.int .i64 c3,.int .i64 c4]⟩,.int .i64 i,.int .i64 f,str p,.slice a l.length cap] w (.agg ⟨hdC ⟨i,f,l.length,sumL l,p,rootB n.toNat l⟩⟩):=by
  have hin:=mayCf_in hm
  obtain⟨n,rfl⟩:∃ N:Nat,n=N:=⟨n.toNat,by omega⟩
  rw [Int.toNat_natCast]
  have fM:∀ {S:Base}{bx:Bx}{hp:List Seg},CallOb Tryz.prog S bx hp 40 [.agg ⟨[.int .i64 c1,.int .i64 n,.int .i64 c3,.int .i64 c4]⟩] (.bool true):=fun {_ _ _} w' _=>by
    have:=Tryz.logMay_w c1 n c3 c4 w'; rwa [hm] at this
  have fR:∀ {bx:Bx}{hp:List Seg},CallOb Tryz.prog ⟨w,kys [] []⟩ bx hp 41 [.slice a l.length cap,.int .i64 n] (.tuple #[str (rootB n l),.int .i64 0]):=fun {_ _} w' hw'=>Tryz.tRoot_w n (by omega) l a cap w' (by omega) hcap hx (hr.ext hw'.ext (by simp [kys])) (Tryz.sha_ext hS hw'.ext)
  have hsum:∀ j,sumL (l.take j)≤64 * 100000:=fun j=>by
    have h1:=sumL_few (l:=l.take j) fun x h=>hx x (List.mem_of_mem_take h)
    have h2:(l.take j).length * 100000≤64 * 100000:=Nat.mul_le_mul_right _ (by rw [List.length_take]; omega)
    exact Nat.le_trans h1 h2
  generalize rootB n l=r at fR ⊢
  refine Tri.enter (bx:=[]) (hp:=[]) Tryz.func9 rfl (by kernel_rfl) rfl (Own.nil w) ?_
  refine At.go [] [] rfl (by and_intros <;> first | exact fM | (simp; done) | exact oK) ?_
  refine At.bo fun b5 hb5=>?_
  refine At.al fun b10 hb10=>?_
  refine At.go [false] [hB 1,hC (.bool true)] rfl (by and_intros <;> first | exact fM | (simp; done) | exact oK) ?_
  refine At.al fun b11 hb11=>?_
  refine At.go [] [hB 0] rfl (by and_intros <;> first | exact fM | (simp [Value.oneCell',str]; done) | exact oK) ?_
  refine At.loop (env0:=[(4,.slice a l.length cap),(5,.pointer (some ⟨b5,0,none⟩)),(10,.pointer (some ⟨b10,0,none⟩)),(11,.pointer (some ⟨b11,0,none⟩)),(24,.slice a l.length cap),(25,.int .i64 ↑l.length),(26,.int .i64 0)]) (fun m_ env bx hp => ∃ (j:Nat),m_=l.length - j∧(j≤l.length)∧env=[(4,.slice a l.length cap),(5,.pointer (some ⟨b5,0,none⟩)),(10,.pointer (some ⟨b10,0,none⟩)),(11,.pointer (some ⟨b11,0,none⟩)),(24,.slice a l.length cap),(25,.int .i64 ↑l.length),(26,.int .i64 (j:Int))]∧bx=[(b11,28,[.int .i64 i,.int .i64 f,.int .i64 (l.length:Int),.int .i64 ((sumL (l.take j):Nat):Int),str p,str []]),(b10,28,[.int .i64 0,.int .i64 0,.int .i64 0,.int .i64 0,.string { data:=#[] },.string { data:=#[] }]),(b5,23,[.int .i64 c1,.int .i64 ↑n,.int .i64 c3,.int .i64 c4])]∧hp=[]) rfl
    ⟨0,rfl,(Nat.zero_le _),rfl,rfl,rfl⟩ sB ?_
  rintro m_ env bx hp ⟨j,rfl,hj,rfl,rfl,rfl⟩ ih
  by_cases hlt:j < l.length
  · obtain⟨x,hx'⟩:∃ x,l[j]?=some x:=⟨_,List.getElem?_eq_getElem hlt⟩
    have hxl:=hx x (List.mem_of_getElem? hx')
    have ex:(l.map str)[j]?=some (str x):=by rw [List.getElem?_map,hx']; rfl
    obtain⟨g,o,rfl,hc⟩:=hr.get (by intro h; rw [h] at ex; simp at ex)
    have rA:∀ {bx:Bx}{hp:List Seg},RdW ⟨w,kys [] []⟩ bx hp g (o+(j:Int).toNat * 1) [str x]:=fun {_ _}=>RdW.base1 (by simp [kys]) (by rw [Int.toNat_natCast,Nat.mul_one]; exact hc _ _ ex)
    have hs1:=hsum j
    have hs2:=hsum (j+1)
    have hst:sumL (l.take (j+1))=sumL (l.take j)+x.length:=by rw [List.take_add_one,hx']; exact sumL_snoc _ x
    refine At.go [true] [hR [.string { data:=x.toArray }],hB 0,hB 0] rfl (by and_intros <;> first | exact rA | exact decide_eq_true (by omega) | (simp only [bl_of]; omega) | (simp [Value.oneCell']; done) | exact oK) ?_
    rw [show ((sumL (l.take j):Nat):Int)+((bl ⟨x.toArray⟩).length:Int)=((sumL (l.take (j+1)):Nat):Int) by rw [bl_of,hst]; omega]
    exact At.weak (ih _ _ _ _ (by omega) ⟨j+1,rfl,by omega,rfl,rfl,rfl⟩) sB
  · obtain rfl:j=l.length:=by omega
    rw [List.take_length]
    refine At.go [false] [hB 2,hC (.tuple { toList:=[.string { data:=r.toArray },.int .i64 0] }),hB 0,hB 0,hB 1] rfl (by and_intros <;> first | exact decide_eq_false (by omega) | exact fR | (simp [Value.oneCell',str]; done) | exact oK) ?_
    refine At.rt [] [] [hB 1] Tryz.func9 ?_
    exact⟨rfl,rfl,rfl⟩
def szL (s:List UInt8):List Nat:=(scan s).map (·.2)
theorem Tryz.Sizes_w (l:List UInt8) (w:World) (hl:l.length≤2000000):Tri Tryz.prog 92 [str l] w [] (fun v bx hp=>∃ (a:Option Nat) (c:Nat),v=sv a (szL l).length c∧bx=[]∧hp=[Seg.row a 3 1 (szL l).length c ((szL l).map fun k=>Value.int .i64 (k:Nat))]∧(szL l).length≤c):=by
  obtain⟨hs1,hs2,-⟩:=scan_len l
  refine Tri.enter (bx:=[]) (hp:=[]) Tryz.func92 rfl (by kernel_rfl) rfl (Own.nil w) ?_
  refine At.go [] [] rfl oK ?_
  refine At.al fun b3 hb3=>?_
  refine At.go [] [] rfl oK ?_
  refine At.step [] rfl rfl rfl rfl rfl trivial (OpOk.call rfl (fun w' hw'=>Tryz.frames_w l w') ?_)
  rintro _ _ _ ⟨b,rfl,rfl,rfl⟩
  refine At.go [] [] rfl oK ?_
  refine At.nilRow 3 1 ?_
  refine At.rangeIA (stop:=false) (bi:=[(b,9,[str l])]) (bc:=[(b3,59,[sv none 0 0])]) (bo:=fun bx => ∃ r,bx=[(b,9,[str r])]) (hp:=[Seg.row none 3 1 0 0 []]) rfl rfl rfl (rd:=[]) (by simp) (enc:=encF) (ys:=scan l) (fun _ => rfl) rfl
    (fun pre bx hp=>∃ (a1:Option Nat) (c1:Nat),bx=[(b3,59,[sv a1 (pre.map (·.2)).length c1])]∧hp=[Seg.row a1 3 1 (pre.map (·.2)).length c1 ((pre.map (·.2)).map fun k=>Value.int .i64 (k:Nat))])
    ⟨none,0,rfl,rfl⟩ (fun h=>by cases h) (fun w' hext=>Tryz.frames1_w l b w' hl) ?_ ?_ (fun h=>by cases h)
  · rintro lp D tm pre x bx hp w' a hpre ⟨a1,c1,rfl,rfl⟩ hext hky rfl
    have hlen:pre.length+1≤(scan l).length:=by have:=hpre.length_le; simpa using this
    have hpl:(pre.map (fun z:List UInt8 × Nat=>z.2)).length=pre.length:=List.length_map ..
    refine At.run 100 true [] [] rfl trivial ?_
    refine At.beginA ?_
    refine At.go [] [hB 0] rfl (by and_intros <;> first | omega | exact oK) ?_
    refine At.a1 1 1 8 fun b12 a13 c13=>?_
    refine At.go [] [hB 0] rfl (by and_intros <;> first | omega | exact oK) ?_
    have hM:(pre++[x]).map (fun z:List UInt8 × Nat=>z.2)=pre.map (fun z:List UInt8 × Nat=>z.2)++[x.2]:=by simp
    have hN:((pre++[x]).map (fun z:List UInt8 × Nat=>z.2)).length=(pre.map (fun z:List UInt8 × Nat=>z.2)).length+1:=by rw [hM,List.length_append]; rfl
    exact At.roundEndA ⟨_,rfl,a13,c13,by rw [hN],by rw [hN,hM,List.map_append]; rfl⟩
  · rintro - D bo' bx' hp' ⟨r,rfl⟩ ⟨a1,c1,rfl,rfl⟩
    refine At.rowCap 0 rfl fun hc=>?_
    refine At.go [] [hB 1] rfl oK ?_
    exact At.retCK [false,false] [true] [] Tryz.func92 rfl oK rfl ⟨a1,c1,rfl,rfl,rfl,hc⟩
def piA (gr:Option Nat) (k:Nat):Option Addr:=match gr with
  | some g => some ⟨g,k,none⟩
  | none => none
def chE (gr:Option Nat) (P n:Nat) (k:Nat):List Value:=[.slice (piA gr (k * P)) (min P (n - k * P)) (min P (n - k * P))]
theorem Tryz.chunk1_w (n cap P:Nat) (gr:Option Nat) (b1 b2:Nat) (w:World) (hP:1≤P∧P≤64) (hn:n≤1000000) (hcap:n≤cap) (hgr:gr=none→n=0) :
    IterA Tryz.prog 157 [.pointer (some ⟨b1,0,none⟩),.pointer (some ⟨b2,0,none⟩)] [(b2,3,[.int .i64 P]),(b1,24,[sv gr n cap])] (fun bx=>bx=[(b2,3,[.int .i64 P]),(b1,24,[sv gr n cap])]) [] (chE gr P n) (List.range ((n+P - 1) / P)) false w:=by
  intro y s0 J hJ hown hfree hyield
  refine Tri.enter Tryz.func157 rfl (by kernel_rfl) rfl hown ?_
  refine At.go [] [] rfl oK ?_
  refine At.loop (env0:=[(0,.func (Fn.yield y) ⟨[]⟩ ⟨[]⟩),(1,.pointer (some ⟨b1,0,none⟩)),(2,.pointer (some ⟨b2,0,none⟩)),(4,.int .i64 0)]) (fun m_ env bx hp => ∃ (k:Nat) (A:Nat) (s1:Seg),m_=(n+P) - A∧(A=k * P)∧(k≤(n+P - 1) / P)∧(J (List.range k) s1)∧env=[(0,.func (Fn.yield y) ⟨[]⟩ ⟨[]⟩),(1,.pointer (some ⟨b1,0,none⟩)),(2,.pointer (some ⟨b2,0,none⟩)),(4,.int .i64 (A:Int))]∧bx=[(b2,3,[.int .i64 ↑P]),(b1,24,[.slice (svA gr) n cap])]∧hp=[s1]) rfl
    ⟨0,0,s0,rfl,(by simp),(Nat.zero_le _),(hJ),rfl,rfl,rfl⟩ sB ?_
  rintro m_ env bx hp ⟨k,A,s1,rfl,hA,hk,hJk,rfl,rfl,rfl⟩ ih
  have hdv:∀ j,j < (n+P - 1) / P↔j * P < n:=fun j=>by
    rw [Nat.lt_iff_add_one_le,Nat.le_div_iff_mul_le (by omega),Nat.add_mul]; omega
  by_cases hlt:A < n
  · obtain⟨g,rfl⟩:∃ g,gr=some g:=by
      cases gr with
      | none => have:=hgr rfl; omega
      | some g => exact⟨g,rfl⟩
    have hk1:=(hdv k).2 (hA ▸ hlt)
    have hpre:List.range k++[k] <+: List.range ((n+P - 1) / P):=by
      rw [← List.range_succ]
      exact⟨(List.range ((n+P - 1) / P)).drop (k+1),by
        conv=>rhs; rw [← List.take_append_drop (k+1) (List.range ((n+P - 1) / P))]
        rw [List.take_range,Nat.min_eq_left (by omega)]⟩
    have hkm:(k+1) * P=k * P+P:=by rw [Nat.add_mul,Nat.one_mul]
    obtain⟨m,hm⟩:∃ m,min P (n - A)=m:=⟨_,rfl⟩
    have hmi:(A:Int)+min (P:Int) ((n - (A:Int).toNat:Nat):Int)=((A+m:Nat):Int):=by omega
    refine At.go [true] [hB 1] rfl (by and_intros <;> first | exact decide_eq_true (by omega) | omega | exact oK) ?_
    refine At.qt [] [hB 0,hB 1] rfl rfl (by and_intros <;> first | exact decide_eq_true (by omega) | omega | exact oK) ?_
    refine At.go [] [hB 1] rfl (by and_intros <;> first | exact decide_eq_true (by omega) | omega | exact oK) ?_
    rw [hmi]
    refine At.st [] (OpOk.slice4 (c:=cap) A (A+m) rfl rfl rfl rfl rfl rfl rfl (by omega) (by omega) ?_)
    rw [show 0+A * 1=A by omega,show A+m - A=m by omega]
    refine At.yieldA (a:=true) [] rfl rfl rfl rfl rfl trivial (lp:=y) (args:=[.slice (some ⟨g,A,none⟩) m m]) rfl [] [true] (bm:=[]) (hm:=[s1]) (br:=[(b2,3,[.int .i64 P]),(b1,24,[sv (some g) n cap])]) (hr:=[]) (Q:=fun bx hp => bx=[]∧∃ s',hp=[s']∧J (List.range (k+1)) s') rfl
      (fun w' hw'=>by
        have:=hyield (List.range k) k s1 w' hpre hJk (Own.tailF (Own.tailF hw'.toOwn)) hw'.ext
        rw [← List.range_succ] at this
        have e:chE (some g) P n k=[.slice (some ⟨g,A,none⟩) m m]:=by unfold chE piA; rw [← hA,hm]
        rwa [e] at this) ?_
    rintro _ _ ⟨rfl,s',rfl,hJ'⟩
    refine At.go [false] [hB 0] rfl (by and_intros <;> first | omega | exact oK) ?_
    rw [show (A:Int)+(P:Int)=((A+P:Nat):Int) by omega]
    exact At.weak (ih _ _ _ _ (by omega) ⟨k+1,A+P,s',rfl,by rw [hkm,hA],by omega,hJ',rfl,rfl,rfl⟩) sB
  · have hkn:k=(n+P - 1) / P:=by
      have:¬ k < (n+P - 1) / P:=fun h=>hlt (by rw [hA]; exact (hdv k).1 h)
      omega
    subst hkn
    refine At.go [false] [hB 1] rfl (by and_intros <;> first | exact decide_eq_false (by omega) | exact oK) ?_
    refine At.rt [true,true] [true] [] Tryz.func157 ?_
    exact⟨rfl,_,rfl,hJk⟩
theorem Tryz.Chunk_w (n cap P:Nat) (gr:Option Nat) (w:World) (hP:1≤P):Tri Tryz.prog 139 [sv gr n cap,.int .i64 P] w [] (fun v bx hp=>∃ b1 b2,v=.func (.func 157) #[] #[.pointer (some ⟨b1,0,none⟩),.pointer (some ⟨b2,0,none⟩)]∧bx=[(b2,3,[.int .i64 P]),(b1,24,[sv gr n cap])]∧hp=[]):=by
  refine Tri.enter (bx:=[]) (hp:=[]) Tryz.func139 rfl (by kernel_rfl) rfl (Own.nil w) ?_
  refine At.go [] [] rfl (by and_intros <;> first | exact decide_eq_false (by omega) | exact oK) ?_
  refine At.bo fun b2 hb2=>?_
  refine At.bo fun b3 hb3=>?_
  refine At.go [false] [hB 0] rfl (by and_intros <;> first | exact decide_eq_false (by omega) | exact oK) ?_
  refine At.rt [true,true] [] [] Tryz.func139 ?_
  exact⟨_,_,rfl,rfl,rfl⟩
def lgV (d P n:Nat) (c3 c4:Int) (rv hv:Value):List Value:=[.pointer (some ⟨d,0,none⟩),.int .i64 P,.int .i64 n,.int .i64 c3,.int .i64 c4,rv,hv]
theorem Tryz.lgSegments_w (lg:Nat) (w:World):Tri Tryz.prog 121 [.pointer (some ⟨lg,0,none⟩)] w [] (fun v bx hp=>∃ b,v=.func (.func 138) #[] #[.pointer (some ⟨b,0,none⟩)]∧bx=[(b,45,[.pointer (some ⟨lg,0,none⟩)])]∧hp=[]):=by
  refine Tri.enter (bx:=[]) (hp:=[]) Tryz.func121 rfl (by kernel_rfl) rfl (Own.nil w) ?_
  refine At.go [] [] rfl oK ?_
  refine At.bo fun b1 hb1=>?_
  refine At.go [] [] rfl oK ?_
  refine At.rt [true] [] [] Tryz.func121 ?_
  exact⟨_,rfl,rfl,rfl⟩
theorem range_pre {n x:Nat}{pre:List Nat}(h:pre++[x] <+: List.range n):x=pre.length∧pre.length < n:=by
  have hl:=h.length_le
  rw [List.length_append,List.length_range,List.length_singleton] at hl
  have h1:(pre++[x])[pre.length]?=some x:=by simp
  have h2:=h.getElem (i:=pre.length) (by simp)
  rw [List.getElem_range] at h2
  simp at h2
  exact⟨h2,by omega⟩
def sgE (gr:Option Nat) (P n:Nat) (k:Nat):List Value:=.int .i64 (k:Nat) :: chE gr P n k
theorem Tryz.segments1_w (lg d P n L cr:Nat) (c3 c4:Int) (gr:Option Nat) (hv:Value) (b1:Nat) (w:World) (hP:1≤P∧P≤64) (eL:L≤1000000) (hcr:L≤cr) (hgr:gr=none→L=0) (hb:SlOk w (some ⟨lg,0,none⟩) (lgV d P n c3 c4 (sv gr L cr) hv)) :
    IterA Tryz.prog 138 [.pointer (some ⟨b1,0,none⟩)] [(b1,45,[.pointer (some ⟨lg,0,none⟩)])] (fun bx=>bx=[(b1,45,[.pointer (some ⟨lg,0,none⟩)])]) [lg] (sgE gr P L) (List.range ((L+P - 1) / P)) false w:=by
  intro y s0 J hJ hown hfree hyield
  have hlg:=hfree lg (by simp)
  obtain⟨_,_,e,hc⟩:=hb.get (by simp [lgV])
  cases e
  refine Tri.enter Tryz.func138 rfl (by kernel_rfl) rfl hown ?_
  have rP:∀ {bx:Bx}{hp:List Seg},RdW ⟨w,kys [(b1,45,[.pointer (some ⟨lg,0,none⟩)])] [s0]⟩ bx hp lg 1 [.int .i64 P]:=fun {_ _}=>RdW.base1 hlg (by have:=hc 1 _ rfl; simpa using this)
  have rR:∀ {bx:Bx}{hp:List Seg},RdW ⟨w,kys [(b1,45,[.pointer (some ⟨lg,0,none⟩)])] [s0]⟩ bx hp lg 5 [sv gr L cr]:=fun {_ _}=>RdW.base1 hlg (by have:=hc 5 _ rfl; simpa using this)
  refine At.go [] [] rfl (by and_intros <;> first | exact trivial | exact oK) ?_
  refine At.bo fun b2 hb2=>?_
  refine At.go [] [] rfl (by and_intros <;> first | exact trivial | exact oK) ?_
  refine At.al fun b3 hb3=>?_
  refine At.gn 3 [] [hB 0] rfl (by and_intros <;> first | exact trivial | exact oK) ?_
  refine At.dr 10 ?_
  refine AtD.lx [0,1,2,3,4,5,6,7,8] 1 [] [hB 2,hR [sv gr L cr],hB 2,hR [.int .i64 P]] rfl (by and_intros <;> first | exact rP | exact rR | exact oK) ?_
  refine AtD.fork1 9 (by kernel_rfl) (StepD.by [] rfl rfl rfl rfl trivial (OpOk.call rfl (fun w' _=>Tryz.Chunk_w L cr P gr w' hP.1) ?_))
  rintro _ _ _ ⟨k1,k2,rfl,rfl,rfl⟩
  refine AtD.dn ?_
  refine At.go [] [] rfl oK ?_
  refine At.rangeIA (stop:=false) (bi:=[(k2,3,[.int .i64 P]),(k1,24,[sv gr L cr])]) (bc:=[(b3,3,[.int .i64 0]),(b2,181,[.func (Fn.yield y) ⟨[]⟩ ⟨[]⟩]),(b1,45,[.pointer (some ⟨lg,0,none⟩)])]) (bo:=fun bx => bx=[(k2,3,[.int .i64 P]),(k1,24,[sv gr L cr])]) (hp:=[s0]) rfl rfl rfl (rd:=[]) (by simp) (enc:=chE gr P L) (ys:=List.range ((L+P - 1) / P)) (fun _ => rfl) rfl
    (fun pre bx hp=>∃ s,bx=[(b3,3,[.int .i64 (pre.length:Nat)]),(b2,181,[.func (Fn.yield y) ⟨[]⟩ ⟨[]⟩]),(b1,45,[.pointer (some ⟨lg,0,none⟩)])]∧hp=[s]∧J pre s)
    ⟨s0,rfl,rfl,hJ⟩ (fun h=>by cases h) (fun w' hext=>Tryz.chunk1_w L cr P gr k1 k2 w' hP eL hcr hgr) ?_ ?_ (fun h=>by cases h)
  · rintro lp D tm pre x bx hp w' a hpre ⟨s1,rfl,rfl,hJ1⟩ hext hky rfl
    obtain⟨rfl,hlt⟩:=range_pre hpre
    have hpl:pre.length≤1000100:=by
      have:=Nat.div_le_self (L+P - 1) P
      omega
    refine At.run 100 true [] [] rfl trivial ?_
    refine At.beginA ?_
    refine At.go [] [hB 1,hB 0] rfl oK ?_
    refine At.yieldA (a:=true) [] rfl rfl rfl rfl rfl trivial (lp:=y) (args:=sgE gr P L pre.length) rfl [] [false,true] (Q:=fun bx hp => bx=[]∧∃ s',hp=[s']∧J (pre++[pre.length]) s') rfl
      (fun w2 hw2=>hyield pre pre.length s1 w2 hpre hJ1 (hw2.toOwn.sel [] [false,true] rfl) (hext.then hw2.ext hky)) ?_
    rintro _ _ ⟨rfl,s',rfl,hJ'⟩
    refine At.go [false] [hB 0,hB 0] rfl (by and_intros <;> first | omega | exact oK) ?_
    refine At.order [] [1] rfl rfl ?_
    have hpn:(pre++[pre.length]).length=pre.length+1:=by simp
    exact At.roundEndA ⟨_,rfl,s',by rw [hpn]; rfl,rfl,hJ'⟩
  · rintro - D bo' bx' hp' rfl ⟨s1,rfl,rfl,hJ1⟩
    refine At.go [] [] rfl oK ?_
    exact At.endCK [false,false,false,false,true] [true] [] Tryz.func138 rfl oK rfl ⟨rfl,s1,rfl,hJ1⟩
theorem rdM {w:World}{m:List Nat}{bx:Bx}{hp:List Seg}{b:Nat}{cs:List Value}{v:Value}(h:SlOk w (some ⟨b,0,none⟩) cs) (hm:b ∉ m) (i:Nat) (hv:cs[i]?=some v):RdW ⟨w,m⟩ bx hp b i [v]:=by
  obtain⟨g,o,hg,hc⟩:=h.get (by intro e; rw [e] at hv; simp at hv)
  cases hg
  exact RdW.base1 hm (by have:=hc i v hv; rwa [Nat.zero_add] at this)
theorem rdMs {w:World}{m:List Nat}{bx:Bx}{hp:List Seg}{b:Nat}{cs xs:List Value}(h:SlOk w (some ⟨b,0,none⟩) cs) (hm:b ∉ m) (i:Nat) (hne:cs≠[]) (hv:∀ j u,xs[j]?=some u→cs[i+j]?=some u):RdW ⟨w,m⟩ bx hp b i xs:=by
  obtain⟨g,o,hg,hc⟩:=h.get hne
  cases hg
  exact RdW.base hm fun j u hu=>by have:=hc _ u (hv j u hu); rwa [Nat.zero_add] at this
theorem segK_len {P:Nat}{R:List (List UInt8)}{k:Nat}:(segK P R k).length=min P (R.length - k * P):=by unfold segK; rw [List.length_take,List.length_drop]
theorem Tryz.chained_w (lg d P n cr:Nat) (c3 c4:Int) (gr:Option Nat) (R:List (List UInt8)) (hv:Value) (w:World) (hm:mayCf P n c3 c4=true) (eR:R.length≤1000000) (hx:∀ x,x∈R→x.length≤100000) (hlg:SlOk w (some ⟨lg,0,none⟩) (lgV d P n c3 c4 (sv gr R.length cr) hv)) (hro:rowOk w gr 9 1 R.length cr (R.map str)) (hS:Tryz.Tabs w) :
    Tri Tryz.prog 94 [.pointer (some ⟨lg,0,none⟩)] w [] (fun v bx hp=>∃ (g:Option Nat) (c:Nat),v=sv g (R.length / P) c∧bx=[]∧hp=[Seg.row g 28 6 (R.length / P) c ((hdsB P n R (R.length / P)).flatMap hdC)]):=by
  have hin:=mayCf_in hm
  have hP:1≤P∧P≤64:=by omega
  have hn:1≤n∧n≤32:=by omega
  have hr:SlOk w (svA gr) (R.map str):=SlOk.row hro
  have hll:=hlg.lt (by simp [lgV]) lg (by simp [slB])
  have hrl:=hr.ltR
  have htl:=Tryz.tabs_lt hS
  have hcr:=hro.le
  have hgr:gr=none→R.length=0:=fun e=>by have:=hro.nil e; omega
  have fF:∀ {bx:Bx}{hp:List Seg},CallOb Tryz.prog ⟨w,kys [] []⟩ bx hp 55 [.int .i64 n] (str (cutH n [])):=fun {_ _} w' hw'=>Tryz.hFirst_w n w' hn (Tryz.sha_ext hS.1 hw'.ext)
  have hcl:=cutH_len hn.2 []
  refine Tri.enter (bx:=[]) (hp:=[]) Tryz.func94 rfl (by kernel_rfl) rfl (Own.nil w) ?_
  refine At.go [] [] rfl (by and_intros <;> first | exact fF | exact rdM hlg (by simp [kys]) 2 rfl | exact oK) ?_
  refine At.bo fun b1 hb1=>?_
  refine At.go [] [] rfl (by and_intros <;> first | exact fF | exact rdM hlg (by simp [kys]) 2 rfl | exact oK) ?_
  refine At.al fun b3 hb3=>?_
  refine At.go [] [hB 1,hR [.int .i64 ↑n],hC (.string { data:=(cutH n []).toArray })] rfl (by and_intros <;> first | exact fF | exact rdM hlg (by simp [kys]) 2 rfl | exact oK) ?_
  refine At.al fun b4 hb4=>?_
  refine At.go [] [hB 0,hB 2] rfl (by and_intros <;> first | exact fF | exact rdM hlg (by simp [kys]) 2 rfl | exact oK) ?_
  refine At.step [] rfl rfl rfl rfl rfl trivial (OpOk.call rfl (fun w' _=>Tryz.lgSegments_w lg w') ?_)
  rintro _ _ _ ⟨b,rfl,rfl,rfl⟩
  refine At.go [] [] rfl oK ?_
  refine At.nilRow 28 6 ?_
  refine At.rangeIA (stop:=false) (bi:=[(b,45,[.pointer (some ⟨lg,0,none⟩)])]) (bc:=[(b4,9,[str (cutH n [])]),(b3,81,[sv none 0 0]),(b1,45,[.pointer (some ⟨lg,0,none⟩)])]) (bo:=fun bx => bx=[(b,45,[.pointer (some ⟨lg,0,none⟩)])]) (hp:=[Seg.row none 28 6 0 0 []]) rfl rfl rfl (rd:=[lg]) (fun k hk =>⟨by simp at hk; subst hk; exact hll,by simp [kys]⟩) (enc:=sgE gr P R.length) (ys:=List.range ((R.length+P - 1) / P)) (fun _ => rfl) rfl
    (fun pre bx hp=>∃ (g:Option Nat) (c:Nat),bx=[(b4,9,[str (prevB P n R (min pre.length (R.length / P)))]),(b3,81,[sv g (min pre.length (R.length / P)) c]),(b1,45,[.pointer (some ⟨lg,0,none⟩)])]∧hp=[Seg.row g 28 6 (min pre.length (R.length / P)) c ((hdsB P n R (min pre.length (R.length / P))).flatMap hdC)])
    ⟨none,0,by rw [List.length_nil,Nat.zero_min]; rfl,by rw [List.length_nil,Nat.zero_min]; simp [hdsB]⟩ (fun h=>by cases h) (fun w' hext=>Tryz.segments1_w lg d P n R.length cr c3 c4 gr hv b w' hP (by omega) hcr hgr (hlg.ext hext (by simp [kys]))) ?_ ?_ (fun h=>by cases h)
  · rintro lp D tm pre x bx hp w' a hpre ⟨g,c,rfl,rfl⟩ hext hky rfl
    obtain⟨rfl,hlt⟩:=range_pre hpre
    generalize hpk:pre.length=k at *
    have hpn:(pre++[k]).length=k+1:=by rw [List.length_append,hpk]; rfl
    have hno:∀ q,q < w.heap.size→q ∉ kys [(b4,9,[str (prevB P n R (min k (R.length / P)))]),(b3,81,[sv g (min k (R.length / P)) c]),(b1,45,[.pointer (some ⟨lg,0,none⟩)])] (loopSeg lp .ready _ tm _ _ _ D :: [Seg.row g 28 6 (min k (R.length / P)) c ((hdsB P n R (min k (R.length / P))).flatMap hdC)]):=fun q hq hqm=>by
      rcases hky q hqm with h | h
      · simp [kys] at h
      · exact Nat.lt_irrefl _ (Nat.lt_of_lt_of_le hq h)
    have hlg':SlOk w' (some ⟨lg,0,none⟩) (lgV d P n c3 c4 (sv gr R.length cr) hv):=hlg.ext hext (by simp [kys])
    have hr':SlOk w' (svA gr) (R.map str):=hr.ext hext (by simp [kys])
    have hKd:k < R.length / P↔(k+1) * P≤R.length:=⟨fun h=>(Nat.le_div_iff_mul_le (by omega)).1 h,fun h=>(Nat.le_div_iff_mul_le (by omega)).2 h⟩
    have hkm:(k+1) * P=k * P+P:=by rw [Nat.add_mul,Nat.one_mul]
    have hKl:=Nat.div_le_self R.length P
    by_cases hfull:k < R.length / P
    · have hf:=hKd.1 hfull
      rw [hkm] at hf
      have hmin:min k (R.length / P)=k:=by omega
      obtain⟨g0,rfl⟩:∃ g0,gr=some g0:=by
        cases gr with
        | none => have:=hgr rfl; omega
        | some g0 => exact⟨g0,rfl⟩
      have hl:(segK P R k).length=P:=by rw [segK_len]; omega
      have hmk:mayH (hdK P n R k) n=true:=hdK_may hP hn.2 (by omega) (fun x h=>by have:=hx x h; omega) (by rw [hkm]; omega)
      have hg0:g0 < w.heap.size:=hrl g0 (mem_slR (by intro e; have:=congrArg List.length e; rw [List.length_map,List.length_nil] at this; omega))
      have hmn:min P (R.length - k * P)=P:=by omega
      have hE:sgE (some g0) P R.length k=[.int .i64 k,.slice (some ⟨g0,k * P,none⟩) P P]:=by unfold sgE chE piA; rw [hmn]
      have hK1:(k:Int) * (P:Int)=((k * P:Nat):Int):=by simp
      have hT':=Tryz.tabs_ext0 hS hext
      have fHd:∀ {M:List Nat}{bx:Bx}{hp:List Seg},(∀ q,q < w.heap.size→q ∉ M)→CallOb Tryz.prog ⟨w',M⟩ bx hp 9 [.agg ⟨[.int .i64 P,.int .i64 n,.int .i64 c3,.int .i64 c4]⟩,.int .i64 k,.int .i64 ((k:Int) * (P:Int)),str (prevB P n R k),.slice (some ⟨g0,k * P,none⟩) P P] (.agg ⟨hdC (hdK P n R k)⟩):=fun {M _ _} hM w2 hw2=>by
        have s0:SlOk w2 (some ⟨g0,0,none⟩) (R.map str):=hr'.ext hw2.ext fun q hq=>hM q (by simp only [slB,svA] at hq; simp at hq; subst hq; exact hg0)
        have s1:=SlOk.rowsT P (SlOk.rowsD (k * P) s0)
        rw [Nat.zero_add] at s1
        have:=Tryz.Header_w P n c3 c4 k (k * P:Nat) (prevB P n R k) (segK P R k) _ P w2 hm (by omega) (by omega) (fun x h=>hx x (segK_mem0 h)) s1 (Tryz.tabs_ext hT' hw2.ext fun q hq=>hM q (htl q hq)).1
        rw [hl] at this
        rw [hK1]
        exact this
      have fHs:∀ {M:List Nat}{bx:Bx}{hp:List Seg},(∀ q,q < w.heap.size→q ∉ M)→CallOb Tryz.prog ⟨w',M⟩ bx hp 56 [.agg ⟨hdC (hdK P n R k)⟩,.int .i64 n] (str (hashH n (hdK P n R k))):=fun {M _ _} hM w2 hw2=>Tryz.hHash_w _ n w2 hmk hn (Tryz.tabs_ext hT' hw2.ext fun q hq=>hM q (htl q hq)).1
      have hst:=hdsB_snoc P n R k
      have hpv:prevB P n R (k+1)=hashH n (hdK P n R k):=rfl
      rw [hmin] at hno ⊢
      rw [hE]
      refine At.run 100 true [] [] rfl trivial ?_
      refine At.beginA ?_
      generalize hdK P n R k=x at fHd fHs hst hpv
      generalize prevB P n R k=prev at fHd hno ⊢
      generalize hcs:(hdsB P n R k).flatMap hdC=cs at hno ⊢
      refine At.gn 7 [true] [hB 2,hR [.int .i64 ↑P]] rfl (by and_intros <;> first | exact rdM hlg' (hno lg hll) 1 rfl | exact decide_eq_true (by omega) | exact oK) ?_
      refine At.cutL (ι:=Nat) ⟨1,[0,0,1,0],[]⟩ (fun q => [(1,.pointer (some ⟨b1,0,none⟩)),(3,.pointer (some ⟨b3,0,none⟩)),(4,.pointer (some ⟨b4,0,none⟩)),(7,.pointer (some ⟨q,0,none⟩))])
        (fun q=>[(q,28,hdC x),(b4,9,[str prev]),(b3,81,[sv g k c]),(b1,45,[.pointer (some ⟨lg,0,none⟩)])]) (fun _=>[Seg.row g 28 6 k c cs]) ?_ fun hk0=>?_
      rotate_left
      · refine At.dr 17 ?_
        refine AtH.readsK [true,true,true] [true,true] [0,1,2,3,4,5,6,7,8,9,10,11,12,13] [hB 2,hR [.int .i64 P,.int .i64 n,.int .i64 c3,.int .i64 c4],hB 2,hR [.int .i64 P],hB 0] rfl rfl (by and_intros <;> first | exact rdM hlg' (hno lg hll) 1 rfl | exact rdMs hlg' (hno lg hll) 1 (by simp [lgV]) (fun j u hu=>by match j,hu with | 0,hu=>exact hu | 1,hu=>exact hu | 2,hu=>exact hu | 3,hu=>exact hu) | exact oK) rfl rfl (fuel:=3) ?_
        refine AtH.fork2 14 15 (by kernel_rfl) rfl rfl rfl rfl rfl rfl (OpOk.one true [] [hC (.agg ⟨hdC x⟩)] rfl (fHd hno) ⟨fun w hw=>hw.selK [true,true,true] [true,true],?_⟩) (OpOk.alloc rfl rfl fun b7 hb7 =>⟨fun w hw=>hw.selK [false,true,true,true] [true,true],?_⟩)
        · refine AtH.f1 15 rfl (OpOk.alloc rfl rfl fun b7 hb7 =>⟨fun w hw => hw.selK [false,true,true,true] [true,true],?_⟩)
          refine AtH.f1 16 rfl (OpOk.one true [] [hB 0] rfl ⟨rfl,hdC_one _⟩ ⟨fun w hw=>hw.selK [false,true,true,true] [true,true],?_⟩)
          refine AtH.dn ?_
          exact At.weak (hk0 b7) sB
        · refine AtH.f1 14 rfl (OpOk.one true [] [hC (.agg ⟨hdC x⟩)] rfl (fHd hno) ⟨fun w hw => hw.selK [false,true,true,true] [true,true],?_⟩)
          refine AtH.f1 16 rfl (OpOk.one true [] [hB 0] rfl ⟨rfl,hdC_one _⟩ ⟨fun w hw=>hw.selK [false,true,true,true] [true,true],?_⟩)
          refine AtH.dn ?_
          exact At.weak (hk0 b7) sB
      rintro b7
      refine At.go [] [hB 2,hB 0] rfl (by and_intros <;> first | exact fHs hno | exact rdM hlg' (hno lg hll) 2 rfl | omega | (simp; done) | exact oK) ?_
      refine At.a1 1 6 64 fun b43 a44 c44=>?_
      refine At.go [] [hB 2] rfl (by and_intros <;> first | exact fHs hno | exact rdM hlg' (hno lg hll) 2 rfl | omega | (simp [Value.oneCell']; done) | exact oK) ?_
      refine At.qT 7 1 [] [hB 0,hB 3,hR [.int .i64 ↑n],hC (.string { data:=(hashH n x).toArray })] rfl rfl (by and_intros <;> first | exact fHs hno | exact rdM hlg' (hno lg hll) 2 rfl | omega | (simp; done) | exact oK) ?_
      refine AtD.f1 7 [] [] [hB 1] rfl rfl rfl (by first | exact fHs hno | exact rdM hlg' (hno lg hll) 2 rfl | omega | (simp [Value.oneCell']; done) | exact oK) (by first | exact fHs hno | exact rdM hlg' (hno lg hll) 2 rfl | omega | (simp; done) | exact oK) ?_
      refine AtD.dn ?_
      refine At.go [] [] rfl (by and_intros <;> first | exact fHs hno | exact rdM hlg' (hno lg hll) 2 rfl | omega | (simp; done) | exact oK) ?_
      have hmin2:min (k+1) (R.length / P)=k+1:=by omega
      refine At.keep [false,true,true,true] [true,true] rfl ?_
      exact At.roundEndA ⟨_,rfl,a44,c44,by rw [hpn,hmin2,hpv]; rfl,by rw [hpn,hmin2,hst,List.flatMap_append,hcs]; simp [hdC]⟩
    · have hmin:min k (R.length / P)=R.length / P:=by omega
      have hmin2:min (k+1) (R.length / P)=R.length / P:=by omega
      have hd:¬ (k+1) * P≤R.length:=fun h=>hfull (hKd.2 h)
      rw [hkm] at hd
      rw [hmin] at hno ⊢
      refine At.run 100 true [] [] rfl trivial ?_
      refine At.beginA ?_
      refine At.go [false] [hB 2,hR [.int .i64 ↑P]] rfl (by and_intros <;> first | exact rdM hlg' (hno lg hll) 1 rfl | exact decide_eq_false (by omega) | exact oK) ?_
      exact At.roundEndA ⟨_,rfl,g,c,by rw [hpn,hmin2],by rw [hpn,hmin2]⟩
  · rintro - D bo' bx' hp' rfl ⟨g,c,rfl,rfl⟩
    have e:min (List.range ((R.length+P - 1) / P)).length (R.length / P)=R.length / P:=by
      rw [List.length_range]; exact Nat.min_eq_right (Nat.div_le_div_right (by omega))
    rw [e]
    refine At.go [] [hB 2] rfl oK ?_
    exact At.retCK [false,false,false,false] [true] [] Tryz.func94 rfl oK rfl ⟨g,c,rfl,rfl,rfl⟩
theorem strs_one (R:List (List UInt8)):∀ v,v∈R.map str→v.oneCell'=true:=fun v hv=>by obtain⟨y,-,rfl⟩:=List.mem_map.1 hv; rfl
theorem hds_one (H:List HdB):∀ v,v∈H.flatMap hdC→v.oneCell'=true:=fun v hv=>by obtain⟨y,-,h⟩:=List.mem_flatMap.1 hv; exact hdC_one y v h
theorem hds_len (H:List HdB):(H.flatMap hdC).length=H.length * 6:=flat_len fun _ _=>rfl
theorem Tryz.cloneS_w (R:List (List UInt8)) (a:Option Addr) (cr:Nat) (w:World) (eR:R.length≤1000000) (hn:a=none→R.length=0) (hr:SlOk w a (R.map str)):Tri Tryz.prog 54 [.slice a R.length cr] w [] (fun v bx hp=>∃ g c,v=sv g R.length c∧bx=[]∧hp=[Seg.row g 9 1 R.length c (R.map str)]):=by
  refine Tri.enter (bx:=[]) (hp:=[]) Tryz.func54 rfl (by kernel_rfl) rfl (Own.nil w) ?_
  cases a with
  | none =>
    obtain rfl:R=[]:=List.length_eq_zero_iff.1 (hn rfl)
    refine At.go [true] [] rfl oK ?_
    refine At.nilRow 9 1 ?_
    refine At.rt [] [true] [] Tryz.func54 ?_
    exact⟨none,0,rfl,rfl,rfl⟩
  | some a =>
    refine At.go [false] [] rfl oK ?_
    refine At.step [] rfl rfl rfl rfl rfl trivial (OpOk.buildNil rfl rfl rfl fun g3 hg3=>?_)
    refine At.go [] [] rfl oK ?_
    refine At.step [] rfl rfl rfl rfl rfl trivial (OpOk.appendS (m:=R.length) 0 1 16 (R.map str) rfl rfl rfl rfl rfl rfl rfl rfl (fun w' hw'=>hr.ext hw'.ext (by simp [kys])) (by simp) (strs_one R) (by omega) (by omega) fun a2 c2=>?_)
    rw [Nat.zero_add,List.nil_append]
    refine At.go [] [] rfl oK ?_
    refine At.rt [] [true] [] Tryz.func54 ?_
    exact⟨a2,c2,rfl,rfl,rfl⟩
theorem Tryz.cloneH_w (H:List HdB) (a:Option Addr) (cr:Nat) (w:World) (eR:H.length≤1000000) (hn:a=none→H.length=0) (hr:SlOk w a (H.flatMap hdC)):Tri Tryz.prog 75 [.slice a H.length cr] w [] (fun v bx hp=>∃ g c,v=sv g H.length c∧bx=[]∧hp=[Seg.row g 28 6 H.length c (H.flatMap hdC)]):=by
  refine Tri.enter (bx:=[]) (hp:=[]) Tryz.func75 rfl (by kernel_rfl) rfl (Own.nil w) ?_
  cases a with
  | none =>
    obtain rfl:H=[]:=List.length_eq_zero_iff.1 (hn rfl)
    refine At.go [true] [] rfl oK ?_
    refine At.nilRow 28 6 ?_
    refine At.rt [] [true] [] Tryz.func75 ?_
    exact⟨none,0,rfl,rfl,rfl⟩
  | some a =>
    refine At.go [false] [] rfl oK ?_
    refine At.step [] rfl rfl rfl rfl rfl trivial (OpOk.buildNil rfl rfl rfl fun g3 hg3=>?_)
    refine At.go [] [] rfl oK ?_
    refine At.step [] rfl rfl rfl rfl rfl trivial (OpOk.appendS (m:=H.length) 0 6 64 (H.flatMap hdC) rfl rfl rfl rfl rfl rfl rfl rfl (fun w' hw'=>hr.ext hw'.ext (by simp [kys])) (hds_len H) (hds_one H) (by omega) (by omega) fun a2 c2=>?_)
    rw [Nat.zero_add,List.nil_append]
    refine At.go [] [] rfl oK ?_
    refine At.rt [] [true] [] Tryz.func75 ?_
    exact⟨a2,c2,rfl,rfl,rfl⟩
theorem Tryz.lgHash_w (lg d P n K ch:Nat) (c3 c4:Int) (R:List (List UInt8)) (rv:Value) (gh:Option Addr) (w:World) (hn:1≤n∧n≤32) (gK:K≤1000000) (hm:∀ k,k < K→mayH (hdK P n R k) n=true) (hlg:SlOk w (some ⟨lg,0,none⟩) (lgV d P n c3 c4 rv (.slice gh K ch))) (hr:SlOk w gh ((hdsB P n R K).flatMap hdC)) (hT:Tryz.Tabs w) :
    Fun Tryz.prog 21 [.pointer (some ⟨lg,0,none⟩)] w (str (prevB P n R K)):=by
  cases K with
  | zero =>
    have fC:∀ {bx:Bx}{hp:List Seg},CallOb Tryz.prog ⟨w,kys [] []⟩ bx hp 55 [.int .i64 n] (str (cutH n [])):=fun {_ _} w' hw'=>Tryz.hFirst_w n w' hn (Tryz.sha_ext hT.1 hw'.ext)
    refine Tri.enter (bx:=[]) (hp:=[]) Tryz.func21 rfl (by kernel_rfl) rfl (Own.nil w) ?_
    refine At.go [false,true] [hR [.slice gh 0 ch],hR [.int .i64 ↑n],hC (.string { data:=(cutH n []).toArray })] rfl (by and_intros <;> first | exact fC | exact rdM hlg (by simp [kys]) 2 rfl | exact rdM hlg (by simp [kys]) 6 rfl | (simp; done) | exact oK) ?_
    refine At.rt [] [] [] Tryz.func21 ?_
    exact⟨rfl,rfl,rfl⟩
  | succ k =>
    have hx:(hdsB P n R (k+1))[k]?=some (hdK P n R k):=by unfold hdsB; rw [List.getElem?_map,List.getElem?_range (by omega)]; rfl
    have hmx:=hm k (by omega)
    show Fun _ _ _ _ (str (hashH n (hdK P n R k)))
    generalize hdK P n R k=x at hx hmx
    have hne:(hdsB P n R (k+1)).flatMap hdC≠[]:=by intro e; have:=flat_get (f:=hdC) (sz:=6) (fun _ _=>rfl) hx 0 _ rfl; rw [e] at this; simp at this
    obtain⟨g,o,rfl,hc⟩:=hr.get hne
    have rX:∀ {bx:Bx}{hp:List Seg},RdW ⟨w,kys [] []⟩ bx hp g (o+((((k+1:Nat):Int) - 1).toNat) * 6) (hdC x):=fun {_ _}=>RdW.base (by simp [kys]) fun j u hu=>by
      rw [show o+((((k+1:Nat):Int) - 1).toNat) * 6+j=o+(k * 6+j) by omega]
      exact hc _ u (flat_get (f:=hdC) (sz:=6) (fun _ _=>rfl) hx j u hu)
    have fC:∀ {bx:Bx}{hp:List Seg},CallOb Tryz.prog ⟨w,kys [] []⟩ bx hp 56 [.agg ⟨hdC x⟩,.int .i64 n] (str (hashH n x)):=fun {_ _} w' hw'=>Tryz.hHash_w x n w' hmx hn (Tryz.sha_ext hT.1 hw'.ext)
    refine Tri.enter (bx:=[]) (hp:=[]) Tryz.func21 rfl (by kernel_rfl) rfl (Own.nil w) ?_
    refine At.go [false,false] [hR [.slice (some ⟨g,o,none⟩) (k+1) ch]] rfl (by and_intros <;> first | exact decide_eq_false (by omega) | exact rdM hlg (by simp [kys]) 2 rfl | exact rdM hlg (by simp [kys]) 6 rfl | exact rX | exact fC | omega | exact oK) ?_
    refine At.qt [] [hR [.slice (some ⟨g,o,none⟩) (k+1) ch],hR [.slice (some ⟨g,o,none⟩) (k+1) ch],hR [.int .i64 x.i,.int .i64 x.f,.int .i64 x.c,.int .i64 x.b,.string { data:=x.p.toArray },.string { data:=x.r.toArray }],hR [.int .i64 ↑n],hC (.string { data:=(hashH n x).toArray })] rfl rfl (by and_intros <;> first | exact decide_eq_false (by omega) | exact rdM hlg (by simp [kys]) 2 rfl | exact rdM hlg (by simp [kys]) 6 rfl | exact rX | exact fC | omega | exact oK) ?_
    refine At.go [] [] rfl (by and_intros <;> first | exact decide_eq_false (by omega) | exact rdM hlg (by simp [kys]) 2 rfl | exact rdM hlg (by simp [kys]) 6 rfl | exact rX | exact fC | omega | exact oK) ?_
    refine At.rt [] [] [] Tryz.func21 ?_
    exact⟨rfl,rfl,rfl⟩
theorem Tryz.lgLen_w (lg d P n L:Nat) (c3 c4:Int) (gr:Option Addr) (cr:Nat) (hv:Value) (w:World) (hlg:SlOk w (some ⟨lg,0,none⟩) (lgV d P n c3 c4 (.slice gr L cr) hv)) :
    Fun Tryz.prog 28 [.pointer (some ⟨lg,0,none⟩)] w (.int .i64 L):=by
  refine Tri.enter (bx:=[]) (hp:=[]) Tryz.func28 rfl (by kernel_rfl) rfl (Own.nil w) ?_
  refine At.go [false] [hR [.slice gr L cr]] rfl (by and_intros <;> first | exact rdM hlg (by simp [kys]) 5 rfl | exact oK) ?_
  refine At.rt [] [] [] Tryz.func28 ?_
  exact⟨rfl,rfl,rfl⟩
theorem Tryz.lgRows_w (lg d P n:Nat) (c3 c4:Int) (R:List (List UInt8)) (gr:Option Addr) (cr:Nat) (hv:Value) (w:World) (eR:R.length≤1000000) (hn:gr=none→R.length=0) (hlg:SlOk w (some ⟨lg,0,none⟩) (lgV d P n c3 c4 (.slice gr R.length cr) hv)) (hr:SlOk w gr (R.map str)) :
    Tri Tryz.prog 19 [.pointer (some ⟨lg,0,none⟩)] w [] (fun v bx hp=>∃ g c,v=sv g R.length c∧bx=[]∧hp=[Seg.row g 9 1 R.length c (R.map str)]):=by
  refine Tri.enter (bx:=[]) (hp:=[]) Tryz.func19 rfl (by kernel_rfl) rfl (Own.nil w) ?_
  refine At.go [false] [hR [.slice gr R.length cr]] rfl (by and_intros <;> first | exact rdM hlg (by simp [kys]) 5 rfl | exact oK) ?_
  refine At.step [] rfl rfl rfl rfl rfl trivial (OpOk.call rfl (fun w' hw'=>Tryz.cloneS_w R gr cr w' eR hn (hr.ext hw'.ext (by simp [kys]))) ?_)
  rintro _ _ _ ⟨g,c,rfl,rfl,rfl⟩
  refine At.go [] [] rfl oK ?_
  refine At.rt [] [true] [] Tryz.func19 ?_
  exact⟨g,c,rfl,rfl,rfl⟩
theorem Tryz.lgHeads_w (lg d P n:Nat) (c3 c4:Int) (H:List HdB) (gh:Option Addr) (ch:Nat) (rv:Value) (w:World) (eR:H.length≤1000000) (hn:gh=none→H.length=0) (hlg:SlOk w (some ⟨lg,0,none⟩) (lgV d P n c3 c4 rv (.slice gh H.length ch))) (hr:SlOk w gh (H.flatMap hdC)) :
    Tri Tryz.prog 39 [.pointer (some ⟨lg,0,none⟩)] w [] (fun v bx hp=>∃ g c,v=sv g H.length c∧bx=[]∧hp=[Seg.row g 28 6 H.length c (H.flatMap hdC)]):=by
  refine Tri.enter (bx:=[]) (hp:=[]) Tryz.func39 rfl (by kernel_rfl) rfl (Own.nil w) ?_
  refine At.go [false] [hR [.slice gh H.length ch]] rfl (by and_intros <;> first | exact rdM hlg (by simp [kys]) 6 rfl | exact oK) ?_
  refine At.step [] rfl rfl rfl rfl rfl trivial (OpOk.call rfl (fun w' hw'=>Tryz.cloneH_w H gh ch w' eR hn (hr.ext hw'.ext (by simp [kys]))) ?_)
  rintro _ _ _ ⟨g,c,rfl,rfl,rfl⟩
  refine At.go [] [] rfl oK ?_
  refine At.rt [] [true] [] Tryz.func39 ?_
  exact⟨g,c,rfl,rfl,rfl⟩
theorem Tryz.rFiles_w (P n:Nat) (R:List (List UInt8)) (c3 c4:Int) (a:Option Addr) (cap:Nat) (w:World) (hP:1≤P∧P≤64) (hn:n≤32) (eR:R.length≤40) (hcap:R.length≤cap) (hx:∀ x,x∈R→x.length≤300) (hr:SlOk w a (R.map str)) :
    Tri Tryz.prog 29 [.agg ⟨keyC⟩,.agg ⟨[.int .i64 P,.int .i64 n,.int .i64 c3,.int .i64 c4]⟩,.slice a R.length cap] w [] (fun v bx hp=>∃ (g:Option Nat) (c:Nat),v=sv g (filesB P n R).length c∧bx=[]∧hp=[Seg.row g 57 2 (filesB P n R).length c (fl (filesB P n R))]):=by
  have hpos:(0:Int) < P:=by omega
  have hmay:∀ x,x∈hdsB P n R (R.length / P)→mayH x n=true:=fun x h=>by
    unfold hdsB at h
    obtain⟨k,hk,rfl⟩:=List.mem_map.1 h
    exact hdK_may hP hn (by omega) (fun x h=>by have:=hx x h; omega) ((Nat.le_div_iff_mul_le (by omega)).1 (List.mem_range.1 hk))
  refine Tri.enter (bx:=[]) (hp:=[]) Tryz.func29 rfl (by kernel_rfl) rfl (Own.nil w) ?_
  refine At.go [] [] rfl (by and_intros <;> first | exact trivial | exact oK) ?_
  refine At.bo fun b3 hb3=>?_
  refine At.bo fun b4 hb4=>?_
  refine At.go [] [] rfl (by and_intros <;> first | exact trivial | exact oK) ?_
  refine At.nilRow 57 2 ?_
  refine At.loop (env0:=[(2,.slice a R.length cap),(3,.pointer (some ⟨b3,0,none⟩)),(4,.pointer (some ⟨b4,0,none⟩)),(7,.slice none 0 0),(8,.int .i64 0)]) (fun m_ env bx hp => ∃ (i:Nat) (S:FL) (g:Option Nat) (c:Nat),m_=R.length - i∧(i≤R.length)∧(S=logF P R i)∧env=[(2,.slice a R.length cap),(3,.pointer (some ⟨b3,0,none⟩)),(4,.pointer (some ⟨b4,0,none⟩)),(7,sv g S.length c),(8,.int .i64 (i:Int))]∧bx=[(b4,23,[.int .i64 ↑P,.int .i64 ↑n,.int .i64 c3,.int .i64 c4]),(b3,36,keyC)]∧hp=[Seg.row g 57 2 S.length c (fl S)]) rfl
    ⟨0,[],none,0,rfl,(Nat.zero_le _),(rfl),rfl,rfl,rfl⟩ sB ?_
  rintro m_ env bx hp ⟨i,S,g,c,rfl,hi,hS,rfl,rfl,rfl⟩ ih
  by_cases hlt:i < R.length
  · obtain⟨x,hx'⟩:∃ x,R[i]?=some x:=⟨_,List.getElem?_eq_getElem hlt⟩
    have hxl:=hx x (List.mem_of_getElem? hx')
    have ex:(R.map str)[i]?=some (str x):=by rw [List.getElem?_map,hx']; rfl
    obtain⟨g0,o,rfl,hc⟩:=hr.get (by intro h; rw [h] at ex; simp at ex)
    have rA:∀ {bx:Bx}{hp:List Seg},RdW ⟨w,kys [] []⟩ bx hp g0 (o+(i:Int).toNat * 1) [str x]:=fun {_ _}=>RdW.base1 (by simp [kys]) (by rw [Int.toNat_natCast,Nat.mul_one]; exact hc _ _ ex)
    have hq:Int.tdiv (i:Int) (P:Int)=((i / P:Nat):Int):=(Int.ofNat_tdiv i P).symm
    have hd:=Nat.div_le_self i P
    have fN:∀ {S:Base}{bx:Bx}{hp:List Seg},CallOb Tryz.prog S bx hp 61 [.int .i64 (Int.tdiv (i:Int) (P:Int))] (str (nmB 115 ((i / P:Nat):Int))):=fun {_ _ _} w' _=>by rw [hq]; exact Tryz.rSegment_w _ w'
    have hfew:=logF_few P R i
    have hSl:S.length≤40:=by rw [hS]; omega
    have hmem:=logF_mem (P:=P) hx (by omega) i hi
    have hrl:(readN S (nmB 115 ((i / P:Nat):Int))).length≤i * (300+3):=by rw [hS]; exact readF_len fun q hq=>(hmem q hq).2
    have hi40:i * (300+3)≤40 * (300+3):=Nat.mul_le_mul_right _ (by omega)
    have hnl:=numL_len 1 x.length (by omega)
    have hwl:=wrapL_len x
    have fR:∀ {bx:Bx}{hp:List Seg},nth hp 0=some (Seg.row g 57 2 S.length c (fl S))→CallOb Tryz.prog ⟨w,kys [] []⟩ bx hp 63 [.slice (svA g) S.length c,str (nmB 115 ((i / P:Nat):Int))] (str (readN S (nmB 115 ((i / P:Nat):Int)))):=fun {_ _} h w' hw'=>Tryz.r9Read_w S _ (svA g) c w' (by omega) (SlOk.row (hw'.hp _ (nth_mem h)))
    have fW:∀ {S:Base}{bx:Bx}{hp:List Seg},CallOb Tryz.prog S bx hp 64 [str x] (str (wrapL x)):=fun {_ _ _} w2 _=>Tryz.rWrap_w x w2 (by omega)
    have hst:logF P R (i+1)=setN (nmB 115 ((i / P:Nat):Int)) (readN S (nmB 115 ((i / P:Nat):Int))++wrapL x) S:=by rw [logF,hx',hS]; rfl
    refine At.gn 16 [true] [hB 0,hC (.string { data:=(nmB 115 ↑(i / P)).toArray })] rfl (by and_intros <;> first | exact decide_eq_true (by omega) | exact fN | (simp only; rw [hq]; omega) | exact oK) ?_
    refine At.dr 13 ?_
    refine AtD.lx [0,1,2,3,4,5,6,7,8,9,10] 2 [] [hC (str (readN S (nmB 115 ((i / P:Nat):Int)))),hR [str x],hC (str (wrapL x))] rfl (by and_intros <;> first | exact rA | exact fR rfl | exact fW | (rw [bl_of,bl_of]; omega) | exact oK) ?_
    simp only [bl_of]
    refine AtD.fork1 11 (by kernel_rfl) (StepD.by [] rfl rfl rfl rfl trivial (OpOk.call rfl (fun w' hw'=>Tryz.rSet_w S (nmB 115 ((i / P:Nat):Int)) (readN S (nmB 115 ((i / P:Nat):Int))++wrapL x) (svA g) c w' (by omega) (SlOk.row (hw'.hp _ (nth_mem (i:=0) rfl)))) ?_))
    rintro _ _ _ ⟨a1,c1,rfl,rfl,rfl⟩
    refine AtD.pu [12] 0 rfl (by and_intros <;> first | exact trivial | exact oK) ?_
    refine AtD.dn ?_
    refine At.go [] [] rfl (by and_intros <;> first | exact trivial | exact oK) ?_
    rw [← hst]
    refine At.keep [true,true] [true,false] rfl ?_
    exact At.weak (ih _ _ _ _ (by omega) ⟨i+1,logF P R (i+1),a1,c1,rfl,by omega,rfl,rfl,rfl,rfl⟩) sB
  · obtain rfl:i=R.length:=by omega
    refine At.go [false] [hK (.agg { toList:=keyC }),hB 0] rfl (by and_intros <;> first | exact decide_eq_false (by omega) | exact Tryz.key_ld (i:=1) rfl | exact oK) ?_
    refine At.step [] rfl rfl rfl rfl rfl trivial (OpOk.call rfl (fun w' hw'=>Tryz.rHeads_w P n R c3 c4 a cap w' hP hn eR hcap hx (hr.ext hw'.ext (by simp [kys]))) ?_)
    rintro _ _ _ ⟨gh,hc,rfl,rfl,rfl⟩
    have fH:∀ {bx:Bx}{hp:List Seg},nth hp 0=some (Seg.row gh 28 6 (R.length / P) hc ((hdsB P n R (R.length / P)).flatMap hdC))→CallOb Tryz.prog ⟨w,kys [] []⟩ bx hp 65 [.slice (svA gh) (R.length / P) hc] (str (((hdsB P n R (R.length / P)).map putH).flatMap wrapL)):=fun {_ _} h w' hw'=>by
      have:=Tryz.rheaders_w (hdsB P n R (R.length / P)) n (svA gh) hc w' hn hmay (by rw [hdsB_len]; have:=Nat.div_le_self R.length P; omega) (SlOk.row (hw'.hp _ (nth_mem h)))
      rwa [hdsB_len] at this
    refine At.go [] [hC (.string { data:=(List.flatMap wrapL (List.map putH (hdsB P n R (R.length / P)))).toArray })] rfl (by and_intros <;> first | exact fH rfl | exact oK) ?_
    have hSl:S.length≤40:=by have:=logF_few P R R.length; rw [hS]; omega
    refine At.step [] rfl rfl rfl rfl rfl trivial (OpOk.call rfl (fun w' hw'=>Tryz.rSet_w S headsB (((hdsB P n R (R.length / P)).map putH).flatMap wrapL) (svA g) c w' (by omega) (SlOk.row (hw'.hp _ (nth_mem (i:=1) rfl)))) ?_)
    rintro _ _ _ ⟨a1,c1,rfl,rfl,rfl⟩
    refine At.go [] [] rfl (by and_intros <;> first | exact trivial | exact oK) ?_
    subst hS
    refine At.rt [] [true,false,false] [] Tryz.func29 ?_
    exact⟨a1,c1,rfl,rfl,rfl⟩
end Go.Proofs

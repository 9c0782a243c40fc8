/-
  Walk of layer 19: a segment's rows are read, and the segment is cut to them.
-/
import Derived.Test.YtibdpdlghibijaaGreatDoorMP21
import Derived.Test.YtibdpdlghibijaaGreatDoorMP16
import Derived.Test.YtibdpdlghibijaaGreatDoorMP7
import Derived.Test.YtibdpdlghibijaaGreatDoorMP43
import Derived.Test.YtibdpdlghibijaaGreatDoorMP50
import Derived.Test.YtibdpdlghibijaaGreatDoorMP37
import Derived.Test.YtibdpdlghibijaaGreatDoorMP17
import Derived.Test.YtibdpdlghibijaaGreatDoorMP44
import Derived.Test.YtibdpdlghibijaaGreatDoorMP42
import Derived.Test.YtibdpdlghibijaaGreatDoorMP28
import Derived.Test.YtibdpdlghibijaaGreatDoorMP30
import Derived.Test.YtibdpdlghibijaaGreatDoorMP48
import Derived.Test.YtibdpdlghibijaaGreatDoorMP46
namespace Go.Proofs
open Go Go.Eng
set_option maxRecDepth 100000
set_option maxHeartbeats 4000000
attribute [local irreducible] Tri
def rdK (P:Nat) (S:FL) (k:Nat):List (List UInt8):=(frowsB (readN S (nmB 115 (k:Int)))).take P
def rdZ (P:Nat) (S:FL) (k:Nat):Nat:=((szL (readN S (nmB 115 (k:Int)))).take P).sum
theorem szL_len (s:List UInt8):(szL s).length=(frowsB s).length:=by unfold szL frowsB; rw [List.length_map,List.length_map]
theorem sum_take_le (l:List Nat) (j:Nat):(l.take j).sum≤l.sum:=by
  have:=congrArg List.sum (List.take_append_drop j l)
  rw [List.sum_append] at this; omega
theorem Tryz.lgRead_w {r kq:Nat}(lg d P n cr:Nat) (c3 c4:Int) (gr:Option Nat) (R:List (List UInt8)) (hv:Value) (q:DkQ r kq) (k:Nat) (w:World) (hP:1≤P∧P≤64) (eR:R.length≤100000000) (hk:k≤1000000) (hq:q.P=[]) (hKS:q.K=q.S) (hT:Tryz.Tabs w) (hTk:∀ x,x∈Tryz.tabG→x ∉ kys [(lg,98,lgV d P n c3 c4 (sv gr R.length cr) hv)] [Seg.row gr 9 1 R.length cr (R.map str),Tryz.dkS d q])
    (hown:Own [(lg,98,lgV d P n c3 c4 (sv gr R.length cr) hv)] [Seg.row gr 9 1 R.length cr (R.map str),Tryz.dkS d q] w) :
    Tri Tryz.prog 49 [.pointer (some ⟨lg,0,none⟩),.int .i64 k] w (kys [(lg,98,lgV d P n c3 c4 (sv gr R.length cr) hv)] [Seg.row gr 9 1 R.length cr (R.map str),Tryz.dkS d q])
      (fun v bx hp => ∃ (g:Option Nat) (c:Nat) (q':DkQ r kq),v=.bool (decide ((rdK P q.S k).length=P))∧bx=[(lg,98,lgV d P n c3 c4 (sv g (R++rdK P q.S k).length c) hv)]∧hp=[Seg.row g 9 1 (R++rdK P q.S k).length c ((R++rdK P q.S k).map str),Tryz.dkS d q'] ∧
        q'.P=[]∧q'.K=q'.S∧q'.S=cutS q.S (nmB 115 (k:Int)) (rdZ P q.S k)):=by
  have fN:∀ {bx:Bx}{hp:List Seg},CallOb Tryz.prog ⟨w,kys [(lg,98,lgV d P n c3 c4 (sv gr R.length cr) hv)] [Seg.row gr 9 1 R.length cr (R.map str),Tryz.dkS d q]⟩ bx hp 88 [.int .i64 k] (str (nmB 115 (k:Int))):=fun {_ _} w' hw'=>Tryz.shSegment_w k w' (by simp only [inK]; omega) (Tryz.tabs_ext hT hw'.ext hTk).2
  have hfl:=(DkQ.fok q).read (nmB 115 (k:Int))
  obtain⟨hs1,hs2,-⟩:=scan_len (readN q.S (nmB 115 (k:Int)))
  have hzl:=szL_len (readN q.S (nmB 115 (k:Int)))
  have hfr:(frowsB (readN q.S (nmB 115 (k:Int)))).length=(scan (readN q.S (nmB 115 (k:Int)))).length:=by unfold frowsB; rw [List.length_map]
  have hsum:(szL (readN q.S (nmB 115 (k:Int)))).sum≤1048576:=by unfold szL; omega
  refine Tri.enter Tryz.func49 rfl (by kernel_rfl) rfl hown ?_
  have fRd:∀ {bx:Bx}{hp:List Seg},nth hp 1=some (Tryz.dkS d q)→CallOb Tryz.prog ⟨w,kys [(lg,98,lgV d P n c3 c4 (sv gr R.length cr) hv)] [Seg.row gr 9 1 R.length cr (R.map str),Tryz.dkS d q]⟩ bx hp 24 [.pointer (some ⟨d,0,none⟩),str (nmB 115 (k:Int))] (str (readN q.S (nmB 115 (k:Int)))):=fun {_ _} h w' hw'=>Tryz.qRead_w d q _ w' (hw'.hp _ (nth_mem h))
  unfold rdK rdZ
  generalize readN q.S (nmB 115 (k:Int))=s at *
  refine At.go [] [hC (.string { data:=(nmB 115 ↑k).toArray }),hB 0,hC (.string { data:=s.toArray })] rfl (by and_intros <;> first | exact fN | exact fRd rfl | exact oK) ?_
  refine At.step [] rfl rfl rfl rfl rfl trivial (OpOk.call rfl (fun w' _=>Tryz.Scan_w s w' (by omega)) ?_)
  rintro _ _ _ ⟨ga,ca,rfl,rfl,rfl⟩
  refine At.rowCap 0 rfl fun hca=>?_
  obtain⟨l,hl⟩:∃ l,frowsB s=l:=⟨_,rfl⟩
  obtain⟨z,hz⟩:∃ z,szL s=z:=⟨_,rfl⟩
  obtain⟨m,hm⟩:∃ m,min l.length P=m:=⟨_,rfl⟩
  rw [hl] at hzl hfr hca ⊢
  rw [hz] at hzl hsum ⊢
  have hmi:min ((l.length:Nat):Int) (P:Int)=(m:Int):=by omega
  refine At.gn 7 [] [hB 0] rfl (by and_intros <;> first | omega | exact oK) ?_
  rw [hmi]
  refine At.dr 11 ?_
  refine AtH.readsK [true] [false,false,false] [0,1,2,3,4,5,7] [hB 0] rfl rfl (by and_intros <;> first | exact trivial | exact oK) rfl rfl (fuel:=4) ?_
  refine AtH.f1 6 rfl (OpOk.call rfl (fun w' _=>Tryz.Sizes_w s w' (by omega)) ?_)
  rintro _ _ _ ⟨gz,cz,rfl,rfl,rfl,hcz⟩
  refine⟨fun w hw=>hw.selK [true] [false,false,false,false],?_⟩
  rw [hz] at hcz ⊢
  refine AtH.f1 8 rfl (OpOk.one true [] [] rfl oK ⟨fun w hw=>hw.selK [true] [false,false,false,false],?_⟩)
  have hst:=sum_take_le z m
  have fS:∀ {bx:Bx}{hp:List Seg},nth hp 0=some (Seg.row gz 3 1 z.length cz (z.map fun k=>Value.int .i64 (k:Nat)))→CallOb Tryz.prog ⟨w,kys [(lg,98,lgV d P n c3 c4 (sv gr R.length cr) hv)] [Seg.row gr 9 1 R.length cr (R.map str),Tryz.dkS d q]⟩ bx hp 91 [.slice (svA gz) m cz] (.int .i64 ((z.take m).sum:Nat)):=fun {_ _} h w' hw'=>by
    have h1:=SlOk.takeN (SlOk.row (hw'.hp _ (nth_mem h))) m
    rw [← List.map_take] at h1
    have:=Tryz.lsum_w (z.take m) (svA gz) cz w' (by rw [List.length_take]; omega) (by omega) h1
    rwa [List.length_take,Nat.min_eq_left (by omega)] at this
  refine AtH.f1 9 rfl (OpOk.one true [] [hC (.int .i64 ((z.take m).sum:Nat))] rfl (fS rfl) ⟨fun w hw=>hw.selK [true] [false,false,false,false],?_⟩)
  refine AtH.f1 10 rfl (OpOk.callO [false] [false,false,false,true] rfl rfl (fun w' hw' ho=>Tryz.qCut_w d q (nmB 115 (k:Int)) ((z.take m).sum) w' ho hq hKS (by omega)) ?_)
  rintro _ _ _ ⟨rfl,rfl,q',rfl,hq1,hq2,hq3⟩
  refine⟨fun w hw=>hw.selK [true] [false,false,false,false],?_⟩
  refine AtH.dn ?_
  refine At.go [] [] rfl (by and_intros <;> first | omega | exact oK) ?_
  refine At.dr 12 ?_
  refine AtD.pu [0,1,5,6] 8 rfl (by and_intros <;> first | omega | exact oK) ?_
  refine AtD.pu [2,7] 6 rfl (by and_intros <;> first | omega | exact oK) ?_
  refine AtD.pu [3] 5 rfl (by and_intros <;> first | omega | exact oK) ?_
  refine AtD.f1 4 [] [] [hB 0] rfl rfl rfl (by first | omega | exact oK) (by first | omega | exact oK) ?_
  have hm2:(m:Int).toNat=m:=Int.toNat_natCast m
  rw [hm2]
  have htk:l.take P=l.take m:=by
    by_cases h:l.length≤P
    · rw [List.take_of_length_le h,List.take_of_length_le (by omega)]
    · rw [show m=P by omega]
  have htl:(l.take m).length=m:=by rw [List.length_take]; omega
  have hzk:z.take P=z.take m:=by
    by_cases h:l.length≤P
    · rw [List.take_of_length_le (by omega),List.take_of_length_le (by omega)]
    · rw [show m=P by omega]
  rw [htk,htl,hzk]
  refine AtD.f1r 8 (OpOk.appendS (m:=m) 3 1 16 ((l.take m).map str) rfl rfl rfl rfl rfl rfl rfl rfl (fun w' hw'=>by rw [List.map_take]; exact SlOk.takeN (SlOk.row (hw'.hp _ (nth_mem (i:=2) rfl))) m) (by rw [List.length_map,htl]; omega) (strs_one _) (by omega) (by omega) fun a2 c2=>?_)
  refine AtD.pu [9] 2 rfl (by and_intros <;> first | (simp; done) | exact oK) ?_
  refine AtD.pu [10] 1 rfl (by and_intros <;> first | (simp; done) | exact oK) ?_
  refine AtD.f1 11 [] [] [hB 0] rfl rfl rfl (by first | (simp [Value.oneCell',sv]; done) | exact oK) (by first | (simp; done) | exact oK) ?_
  refine AtD.dn ?_
  refine At.go [] [hB 0] rfl (by and_intros <;> first | (simp; done) | exact oK) ?_
  refine At.order [] [3] rfl rfl ?_
  refine At.rt [true] [true,true,false,false] [] Tryz.func49 ?_
  exact⟨a2,c2,q',congrArg Value.bool (decide_eq_decide.2 (by omega)),by rw [List.length_append,htl]; rfl,by rw [List.length_append,htl,List.map_append],hq1,hq2,hq3⟩
def badN (K L:Nat) (nm:List UInt8):Bool:=decide ((kindB nm).1=1∧(K:Int) < (kindB nm).2.1∨(kindB nm).1=2∧(L:Int) < (kindB nm).2.1)
def clrS (K L:Nat):FL→FL→FL
  | [],S => S
  | p :: F,S => clrS K L F (if badN K L p.1=true then cutS S p.1 0 else S)
theorem clrS_drop {K L:Nat}{F S:FL}{i:Nat}{p:List UInt8 × List UInt8}(h:F[i]?=some p):clrS K L (F.drop i) S=clrS K L (F.drop (i+1)) (if badN K L p.1=true then cutS S p.1 0 else S):=by
  obtain⟨h1,h2⟩:=List.getElem?_eq_some_iff.1 h
  rw [List.drop_eq_getElem_cons h1,h2,clrS]
theorem Tryz.lgClear_w {r kq:Nat}(lg d P n L cr K:Nat) (c3 c4:Int) (rp:Option Addr) (hv:Value) (q:DkQ r kq) (w:World) (_gK:K≤1000000) (_eL:L≤100000000) (hq:q.P=[]) (hKS:q.K=q.S) (hns:∀ p,p∈q.S→p.1.length≤9223372036854775807)
    (hown:Own [(lg,98,lgV d P n c3 c4 (.slice rp L cr) hv)] [Tryz.dkS d q] w) :
    Tri Tryz.prog 50 [.pointer (some ⟨lg,0,none⟩),.int .i64 K] w (kys [(lg,98,lgV d P n c3 c4 (.slice rp L cr) hv)] [Tryz.dkS d q])
      (fun _ bx hp=>∃ (q':DkQ r kq),bx=[(lg,98,lgV d P n c3 c4 (.slice rp L cr) hv)]∧hp=[Tryz.dkS d q']∧q'.P=[]∧q'.K=q'.S∧q'.S=clrS K L q.S q.S):=by
  have hlS:q.S.length≤4096:=by rw [q.len]; exact q.inv.lS
  refine Tri.enter Tryz.func50 rfl (by kernel_rfl) rfl hown ?_
  refine At.go [] [hB 0] rfl oK ?_
  refine At.step [] rfl rfl rfl rfl rfl trivial (OpOk.call rfl (fun w' hw'=>Tryz.qFiles_w d q w' (hw'.hp _ (nth_mem (i:=0) rfl))) ?_)
  rintro _ _ _ ⟨ga,ca,rfl,rfl,rfl⟩
  obtain⟨F,hF⟩:∃ F,q.S=F:=⟨_,rfl⟩
  rw [hF] at hns hlS ⊢
  refine At.go [] [] rfl oK ?_
  refine At.loop (env0:=[(0,.pointer (some ⟨lg,0,none⟩)),(1,.int .i64 ↑K),(13,.slice (svA ga) (List.length F) ca),(14,.int .i64 ↑(List.length F)),(15,.int .i64 0)]) (fun m_ env bx hp => ∃ (i:Nat) (qi:DkQ r kq),m_=F.length - i∧(i≤F.length)∧(qi.P=[]∧qi.K=qi.S)∧(clrS K L (F.drop i) qi.S=clrS K L F F)∧env=[(0,.pointer (some ⟨lg,0,none⟩)),(1,.int .i64 ↑K),(13,.slice (svA ga) (List.length F) ca),(14,.int .i64 ↑(List.length F)),(15,.int .i64 (i:Int))]∧bx=[(lg,98,[.pointer (some ⟨d,0,none⟩),.int .i64 ↑P,.int .i64 ↑n,.int .i64 c3,.int .i64 c4,.slice rp L cr,hv])]∧hp=[Seg.row ga 57 2 (List.length F) ca (fl F),Tryz.dkS d qi]) rfl
    ⟨0,q,rfl,(Nat.zero_le _),(⟨hq,hKS⟩),(by rw [hF]; rfl),rfl,rfl,rfl⟩ sB ?_
  rintro m_ env bx hp ⟨i,qi,rfl,hi,h1,h2,rfl,rfl,rfl⟩ ih
  by_cases hlt:i < F.length
  · obtain⟨p,hp⟩:∃ p,F[i]?=some p:=⟨_,List.getElem?_eq_getElem hlt⟩
    have hpn:=hns p (List.mem_of_getElem? hp)
    rw [clrS_drop hp] at h2
    refine At.rowSome 0 rfl (by omega) (fun g hg=>?_)
    subst hg
    have rE:∀ {bx:Bx},RdW ⟨w,kys [(lg,98,lgV d P n c3 c4 (.slice rp L cr) hv)] [Tryz.dkS d q]⟩ bx [Seg.row (some g) 57 2 F.length ca (fl F),Tryz.dkS d qi] g (0+(i:Int).toNat * 2) [str p.1,str p.2] :=
      fun {_}=>RdW.row (j:=0) rfl (fun k u hu=>by rw [Nat.zero_add,Int.toNat_natCast]; exact flat_get (f:=flC) (sz:=2) (fun _ _=>rfl) hp k u hu)
    obtain⟨a,b,c,hk⟩:∃ a b c,kindB p.1=(a,b,c):=⟨_,_,_,rfl⟩
    have fK:∀ {S:Base}{bx:Bx}{hp:List Seg},CallOb Tryz.prog S bx hp 93 [str p.1] (.tuple #[.int .i64 a,.int .i64 b,.bool c]):=fun {_ _ _} w' _=>by
      have:=Tryz.shKind_w p.1 w' hpn; rw [hk] at this; exact this
    have hbd:badN K L p.1=decide (a=1∧(K:Int) < b∨a=2∧(L:Int) < b):=by unfold badN; rw [hk]
    by_cases hbad:a=1∧(K:Int) < b∨a=2∧(L:Int) < b
    · rw [if_pos (by rw [hbd]; exact decide_eq_true hbad)] at h2
      refine At.cutS (ι:=Nat) ⟨0,[0,1,1,1,0,0,1,1,0,0,1],[]⟩ (fun b5 => [(0,.pointer (some ⟨lg,0,none⟩)),(1,.int .i64 K),(5,.pointer (some ⟨b5,0,none⟩)),(13,.slice (some ⟨g,0,none⟩) F.length ca),(14,.int .i64 F.length),(15,.int .i64 i)])
        (fun b5=>[(b5,57,[str p.1,str p.2]),(lg,98,lgV d P n c3 c4 (.slice rp L cr) hv)]) (fun _=>[Seg.row (some g) 57 2 F.length ca (fl F),Tryz.dkS d qi]) ?_ fun hgo=>?_
      · intro b5
        refine At.dr 7 ?_
        refine AtD.lx [0,1,2,3,4,5] 1 [] [hB 1,hB 0] rfl oK ?_
        refine AtD.fork1 6 (by kernel_rfl) (StepD.by [] rfl rfl rfl rfl trivial (OpOk.callO [false,false] [false,true] rfl rfl (fun w' _ ho=>Tryz.qCut_w d qi p.1 0 w' ho h1.1 h1.2 (by omega)) ?_))
        rintro _ _ _ ⟨rfl,rfl,q',rfl,hq1,hq2,hq3⟩
        refine AtD.dn ?_
        refine At.order [] [1] rfl rfl ?_
        refine At.go [] [] rfl (by and_intros <;> first | exact trivial | exact oK) ?_
        refine At.keep [false,true] [true,true] rfl ?_
        exact At.weak (ih _ _ _ _ (by omega) ⟨i+1,q',rfl,by omega,⟨hq1,hq2⟩,by rw [hq3]; exact h2,rfl,rfl,rfl⟩) sB
      · by_cases ha:a=1
        · refine At.go [true] [hR [.string { data:=p.fst.toArray },.string { data:=p.snd.toArray }]] rfl (by and_intros <;> first | exact rE | exact fK | exact decide_eq_true (by omega) | exact decide_eq_false (by omega) | exact oK) ?_
          refine At.al fun b5 hb5=>?_
          refine At.gn 11 [true,true,true] [hB 0,hB 0,hC (.tuple ⟨[.int .i64 a,.int .i64 b,.bool c]⟩)] rfl (by and_intros <;> first | exact rE | exact fK | exact decide_eq_true (by omega) | exact decide_eq_false (by omega) | exact oK) ?_
          exact At.weak (hgo b5) sB
        · refine At.go [true] [hR [.string { data:=p.fst.toArray },.string { data:=p.snd.toArray }]] rfl (by and_intros <;> first | exact rE | exact fK | exact decide_eq_true (by omega) | exact decide_eq_false (by omega) | exact oK) ?_
          refine At.al fun b5 hb5=>?_
          refine At.gn 11 [false,false,true,true] [hB 0,hB 0,hC (.tuple ⟨[.int .i64 a,.int .i64 b,.bool c]⟩),hB 1] rfl (by and_intros <;> first | exact rE | exact fK | exact decide_eq_true (by omega) | exact decide_eq_false (by omega) | exact oK) ?_
          exact At.weak (hgo b5) sB
    · rw [if_neg (by rw [hbd]; simp only [decide_eq_true_eq]; exact hbad)] at h2
      by_cases ha:a=1
      · refine At.go [true] [hR [.string { data:=p.fst.toArray },.string { data:=p.snd.toArray }]] rfl (by and_intros <;> first | exact rE | exact fK | exact decide_eq_true (by omega) | exact decide_eq_false (by omega) | exact oK) ?_
        refine At.al fun b5 hb5=>?_
        refine At.go [true,false,false,false] [hB 0,hB 0,hC (.tuple ⟨[.int .i64 a,.int .i64 b,.bool c]⟩)] rfl (by and_intros <;> first | exact rE | exact fK | exact decide_eq_true (by omega) | exact decide_eq_false (by omega) | exact oK) ?_
        refine At.keep [false,true] [true,true] rfl ?_
        exact At.weak (ih _ _ _ _ (by omega) ⟨i+1,qi,rfl,by omega,h1,h2,rfl,rfl,rfl⟩) sB
      · by_cases ha2:a=2
        · refine At.go [true] [hR [.string { data:=p.fst.toArray },.string { data:=p.snd.toArray }]] rfl (by and_intros <;> first | exact rE | exact fK | exact decide_eq_true (by omega) | exact decide_eq_false (by omega) | exact oK) ?_
          refine At.al fun b5 hb5=>?_
          refine At.go [false,false,true,false] [hB 0,hB 0,hC (.tuple ⟨[.int .i64 a,.int .i64 b,.bool c]⟩),hB 1] rfl (by and_intros <;> first | exact rE | exact fK | exact decide_eq_true (by omega) | exact decide_eq_false (by omega) | exact oK) ?_
          refine At.keep [false,true] [true,true] rfl ?_
          exact At.weak (ih _ _ _ _ (by omega) ⟨i+1,qi,rfl,by omega,h1,h2,rfl,rfl,rfl⟩) sB
        · refine At.go [true] [hR [.string { data:=p.fst.toArray },.string { data:=p.snd.toArray }]] rfl (by and_intros <;> first | exact rE | exact fK | exact decide_eq_true (by omega) | exact decide_eq_false (by omega) | exact oK) ?_
          refine At.al fun b5 hb5=>?_
          refine At.go [false,false,false,false] [hB 0,hB 0,hC (.tuple ⟨[.int .i64 a,.int .i64 b,.bool c]⟩)] rfl (by and_intros <;> first | exact rE | exact fK | exact decide_eq_true (by omega) | exact decide_eq_false (by omega) | exact oK) ?_
          refine At.keep [false,true] [true,true] rfl ?_
          exact At.weak (ih _ _ _ _ (by omega) ⟨i+1,qi,rfl,by omega,h1,h2,rfl,rfl,rfl⟩) sB
  · obtain rfl:i=F.length:=by omega
    rw [List.drop_length] at h2
    refine At.go [false] [] rfl (by and_intros <;> first | exact decide_eq_false (by omega) | exact oK) ?_
    refine At.rt [true] [false,true] [] Tryz.func50 ?_
    exact⟨qi,rfl,rfl,h1.1,h1.2,h2⟩
def wantH (P n:Nat) (R:List (List UInt8)):List UInt8:=((hdsB P n R (R.length / P)).map putH).flatMap wrapL
def DkQ.up {r k:Nat}(q:DkQ r k):DkQ r (k+1):=⟨q.FS,q.FK,q.W,q.a,q.pc,q.bs,q.bk,q.inv.next⟩
def hdrS (r:Nat) (S:FL) (want:List UInt8):Int × FL × List (List UInt8 × Nat × List UInt8) :=
  if comL (readN S headsB) want=want.length then (0,cutS S headsB (comL (readN S headsB) want),[])
  else if wrR r (cutS S headsB (comL (readN S headsB) want)) headsB (comL (readN S headsB) want) (want.drop (comL (readN S headsB) want))=0 then
    (0,setN headsB (wrB (readN (cutS S headsB (comL (readN S headsB) want)) headsB) (comL (readN S headsB) want) (want.drop (comL (readN S headsB) want))) (cutS S headsB (comL (readN S headsB) want)),[(headsB,comL (readN S headsB) want,want.drop (comL (readN S headsB) want))])
  else (wrR r (cutS S headsB (comL (readN S headsB) want)) headsB (comL (readN S headsB) want) (want.drop (comL (readN S headsB) want)),cutS S headsB (comL (readN S headsB) want),[])
theorem wraps_len2 {n:Nat}(hn:n≤32) (L:List HdB) (h:∀ x,x∈L→mayH x n=true) (i:Nat):(((L.take i).map putH).flatMap wrapL).length≤L.length * 135:=by
  have h1:=wraps_len hn (L.take i) fun x hx=>h x (List.mem_of_mem_take hx)
  have h2:(L.take i).length * 135≤L.length * 135:=Nat.mul_le_mul_right _ (by rw [List.length_take]; omega)
  exact Nat.le_trans h1 h2
theorem Tryz.lgHeaders_w {r kq:Nat}(lg d P n cr:Nat) (c3 c4:Int) (gr:Option Nat) (R:List (List UInt8)) (hv:Value) (q:DkQ r kq) (w:World) (hm:mayCf P n c3 c4=true) (eR:R.length≤1000000) (hx:∀ x,x∈R→x.length≤100000) (hq:q.P=[]) (hKS:q.K=q.S) (hkq:kq≤900000) (hT:Tryz.Tabs w) (hTk:∀ x,x∈Tryz.tabG→x ∉ kys [(lg,98,lgV d P n c3 c4 (sv gr R.length cr) hv)] [Seg.row gr 9 1 R.length cr (R.map str),Tryz.dkS d q])
    (hown:Own [(lg,98,lgV d P n c3 c4 (sv gr R.length cr) hv)] [Seg.row gr 9 1 R.length cr (R.map str),Tryz.dkS d q] w) :
    Tri Tryz.prog 51 [.pointer (some ⟨lg,0,none⟩)] w (kys [(lg,98,lgV d P n c3 c4 (sv gr R.length cr) hv)] [Seg.row gr 9 1 R.length cr (R.map str),Tryz.dkS d q])
      (fun v bx hp => ∃ (gh:Option Nat) (ch:Nat) (q':DkQ r (kq+1)),v=.int .i64 (hdrS r q.S (wantH P n R)).1∧bx=[(lg,98,lgV d P n c3 c4 (sv gr R.length cr) (sv gh (R.length / P) ch))]∧hp=[Seg.row gr 9 1 R.length cr (R.map str),Seg.row gh 28 6 (R.length / P) ch ((hdsB P n R (R.length / P)).flatMap hdC),Tryz.dkS d q'] ∧
        q'.S=(hdrS r q.S (wantH P n R)).2.1∧q'.P=(hdrS r q.S (wantH P n R)).2.2∧q'.K=cutS q.S headsB (comL (readN q.S headsB) (wantH P n R))):=by
  have hin:=mayCf_in hm
  have hKl:=Nat.div_le_self R.length P
  have hmay:∀ x,x∈hdsB P n R (R.length / P)→mayH x n=true:=fun x h=>by
    unfold hdsB at h
    obtain⟨k,hk,rfl⟩:=List.mem_map.1 h
    exact hdK_may (by omega) (by omega) (by omega) (fun x h=>by have:=hx x h; omega) ((Nat.le_div_iff_mul_le (by omega)).1 (List.mem_range.1 hk))
  have hlen:=hdsB_len P n R (R.length / P)
  have hwl:=wraps_len2 (n:=n) (by omega) _ hmay
  rw [hlen] at hwl
  have hfl:=(DkQ.fok q).read headsB
  refine Tri.enter Tryz.func51 rfl (by kernel_rfl) rfl hown ?_
  refine At.go [] [] rfl oK ?_
  refine At.step [] rfl rfl rfl rfl rfl trivial (OpOk.call rfl (fun w' hw'=>Tryz.chained_w lg d P n cr c3 c4 gr R hv w' hm eR hx (SlOk.blk (hw'.bx _ (nth_mem (i:=0) rfl))) (hw'.hp (Seg.row gr 9 1 R.length cr (R.map str)) (nth_mem (i:=0) rfl)) (Tryz.tabs_ext hT hw'.ext hTk)) ?_)
  rintro _ _ _ ⟨gh,ch,rfl,rfl,rfl⟩
  unfold wantH
  generalize hH:hdsB P n R (R.length / P)=H at *
  generalize R.length / P=K at *
  refine At.go [] [hB 0,hB 0] rfl (by and_intros <;> first | (simp [Value.oneCell',sv]; done) | exact oK) ?_
  refine At.loop (env0:=[(0,.pointer (some ⟨lg,0,none⟩)),(3,.string { data:=#[] }),(15,.slice (svA gh) K ch),(16,.int .i64 ↑K),(17,.int .i64 0)]) (fun m_ env bx hp => ∃ (i:Nat) (acc:List UInt8),m_=K - i∧(i≤K)∧(acc=((H.take i).map putH).flatMap wrapL)∧env=[(0,.pointer (some ⟨lg,0,none⟩)),(3,str acc),(15,.slice (svA gh) K ch),(16,.int .i64 ↑K),(17,.int .i64 (i:Int))]∧bx=[(lg,98,[.pointer (some ⟨d,0,none⟩),.int .i64 ↑P,.int .i64 ↑n,.int .i64 c3,.int .i64 c4,.slice (svA gr) R.length cr,.slice (svA gh) K ch])]∧hp=[Seg.row gh 28 6 K ch (List.flatMap hdC H),Seg.row gr 9 1 R.length cr (List.map str R),dkS d q]) rfl
    ⟨0,[],rfl,(Nat.zero_le _),(by simp),rfl,rfl,rfl⟩ sB ?_
  rintro m_ env bx hp ⟨i,acc,rfl,hi,hacc,rfl,rfl,rfl⟩ ih
  by_cases hlt:i < K
  · obtain⟨x,hx'⟩:∃ x,H[i]?=some x:=⟨_,List.getElem?_eq_getElem (by omega)⟩
    have hmx:=hmay x (List.mem_of_getElem? hx')
    have hpl:=putH_124 hmx (by omega)
    have hps:=putH_short hmx (by omega)
    have hw1:=hwl i
    have hw2:=hwl (i+1)
    have hst:((H.take (i+1)).map putH).flatMap wrapL=((H.take i).map putH).flatMap wrapL++wrapL (putH x):=by rw [List.take_add_one,hx',List.map_append,List.flatMap_append]; simp
    rw [hst,List.length_append] at hw2
    rw [← hacc] at hw1 hw2
    refine At.rowSome 0 rfl (by omega) (fun g hg=>?_)
    subst hg
    have rX:∀ {bx:Bx},RdW ⟨w,kys [(lg,98,lgV d P n c3 c4 (sv gr R.length cr) hv)] [Seg.row gr 9 1 R.length cr (R.map str),Tryz.dkS d q]⟩ bx [Seg.row (some g) 28 6 K ch (H.flatMap hdC),Seg.row gr 9 1 R.length cr (R.map str),Tryz.dkS d q] g (0+(i:Int).toNat * 6) (hdC x) :=
      fun {_}=>RdW.row (j:=0) rfl (fun k u hu=>by rw [Nat.zero_add,Int.toNat_natCast]; exact flat_get (f:=hdC) (sz:=6) (fun _ _=>rfl) hx' k u hu)
    have fP:∀ {S:Base}{bx:Bx}{hp:List Seg},CallOb Tryz.prog S bx hp 96 [.agg ⟨hdC x⟩] (str (putH x)):=fun {_ _ _} w2 _=>Tryz.hPut_w x n w2 hmx (by omega)
    have fW:∀ {S:Base}{bx:Bx}{hp:List Seg},CallOb Tryz.prog S bx hp 95 [str (putH x)] (str (wrapL (putH x))):=fun {_ _ _} w2 _=>Tryz.framed_w (putH x) w2 hps
    refine At.go [true] [hR [.int .i64 x.i,.int .i64 x.f,.int .i64 x.c,.int .i64 x.b,.string { data:=x.p.toArray },.string { data:=x.r.toArray }]] rfl (by and_intros <;> first | exact decide_eq_true (by omega) | (rw [bl_of,bl_of]; omega) | exact rX | exact fP | exact fW | (simp; done) | exact oK) ?_
    refine At.al fun b5 hb5=>?_
    refine At.go [] [hB 0,hB 0,hC (.string { data:=(putH x).toArray }),hC (.string { data:=(wrapL (putH x)).toArray })] rfl (by and_intros <;> first | exact decide_eq_true (by omega) | (rw [bl_of,bl_of]; omega) | exact rX | exact fP | exact fW | (simp [Value.oneCell']; done) | exact oK) ?_
    have e3:(bl ⟨acc.toArray⟩++bl ⟨(wrapL (putH x)).toArray⟩).toArray=(acc++wrapL (putH x)).toArray:=by rw [bl_of,bl_of]
    rw [e3]
    refine At.keep [false,true] [true,true,true] rfl ?_
    exact At.weak (ih _ _ _ _ (by omega) ⟨i+1,acc++wrapL (putH x),rfl,by omega,by rw [hst,hacc],rfl,rfl,rfl⟩) sB
  · obtain rfl:K=i:=by omega
    have hwK:=hwl K
    rw [List.take_of_length_le (by omega)] at hacc hwK
    rw [← hacc] at hwK ⊢
    have fHd:∀ {S:Base}{bx:Bx}{hp:List Seg},CallOb Tryz.prog S bx hp 98 [] (str headsB):=fun {_ _ _} w2 _=>Tryz.shHeads_w w2
    have fRd:∀ {bx:Bx}{hp:List Seg},nth hp 2=some (Tryz.dkS d q)→CallOb Tryz.prog ⟨w,kys [(lg,98,lgV d P n c3 c4 (sv gr R.length cr) hv)] [Seg.row gr 9 1 R.length cr (R.map str),Tryz.dkS d q]⟩ bx hp 24 [.pointer (some ⟨d,0,none⟩),str headsB] (str (readN q.S headsB)):=fun {_ _} h w' hw'=>Tryz.qRead_w d q _ w' (hw'.hp _ (nth_mem h))
    have fC:∀ {S:Base}{bx:Bx}{hp:List Seg},CallOb Tryz.prog S bx hp 97 [str (readN q.S headsB),str acc] (.int .i64 (comL (readN q.S headsB) acc)):=fun {_ _ _} w2 _=>Tryz.common_w _ _ w2 (by omega) (by omega)
    have hcl:=comL_le (readN q.S headsB) acc
    unfold hdrS
    generalize readN q.S headsB=s0 at *
    generalize comL s0 acc=m at *
    refine At.go [false] [] rfl (by and_intros <;> first | exact decide_eq_false (by omega) | exact fHd | exact fRd rfl | exact fC | exact oK) ?_
    refine At.qt [] [hB 0,hC (.string { data:=headsB.toArray }),hC (.string { data:=s0.toArray }),hC (.int .i64 ↑m)] rfl rfl (by and_intros <;> first | exact decide_eq_false (by omega) | exact fHd | exact fRd rfl | exact fC | exact oK) ?_
    refine At.go [] [] rfl (by and_intros <;> first | exact decide_eq_false (by omega) | exact fHd | exact fRd rfl | exact fC | exact oK) ?_
    refine At.qT 6 1 [] [hB 0,hC (.string { data:=headsB.toArray })] rfl rfl (by and_intros <;> first | exact decide_eq_false (by omega) | exact fHd | exact fRd rfl | exact fC | exact oK) ?_
    refine AtD.fork1 6 (by kernel_rfl) (StepD.by [] rfl rfl rfl rfl trivial (OpOk.callO [false] [false,false,true] rfl rfl (fun w' _ ho=>Tryz.qCut_w d q headsB m w' ho hq hKS (by omega)) ?_))
    rintro _ _ _ ⟨rfl,rfl,q1,rfl,hq1,hq2,hq3⟩
    refine AtD.dn ?_
    by_cases hfull:m=acc.length
    · rw [if_pos hfull]
      refine At.go [true] [] rfl (by and_intros <;> first | (rw [bl_of]; exact decide_eq_true (by omega)) | exact oK) ?_
      refine At.order [] [1,2] rfl rfl ?_
      refine At.rt [true] [true,true,true] [] Tryz.func51 ?_
      exact⟨gh,ch,q1.up,rfl,rfl,rfl,hq3,hq1,by rw [← hq3]; exact hq2⟩
    · rw [if_neg hfull]
      refine At.gn 12 [false] [] rfl (by and_intros <;> first | (rw [bl_of]; exact decide_eq_false (by omega)) | exact oK) ?_
      refine At.dr 11 ?_
      refine AtH.readsK [true] [false,false,false] [0,1,2,3,5,6,7,8] [hB 0] rfl rfl (by and_intros <;> first | (rw [bl_of]; omega) | exact oK) rfl rfl (fuel:=3) ?_
      refine AtH.f1 4 rfl (OpOk.one true [] [hC (str headsB)] rfl fHd ⟨fun w hw=>hw.selK [true] [false,false,false],?_⟩)
      simp only [bl_of,Int.toNat_natCast]
      refine AtH.f1 9 rfl (OpOk.callO [false] [true,false,false] rfl rfl (fun w' _ ho=>Tryz.qWrite_w d q1 headsB m (acc.drop m) w' ho hkq (by decide) (by rw [List.length_drop]; omega) (by simp only [inK]; omega)) ?_)
      rintro _ _ _ ⟨rfl,rfl,q2,rfl,hk2,hif⟩
      refine⟨fun w hw=>hw.selK [true] [false,false,false],?_⟩
      rw [hq3,hq1,List.nil_append] at hif
      rw [hq3]
      refine AtH.f1 10 rfl (OpOk.one true [] [] rfl oK ⟨fun w hw=>hw.selK [true] [false,false,false],?_⟩)
      refine AtH.dn ?_
      refine At.go [] [] rfl oK ?_
      refine At.order [] [1,2] rfl rfl ?_
      have hK2:q2.K=cutS q.S headsB m:=by rw [hk2,hq2,hq3]
      generalize hz:wrR r (cutS q.S headsB m) headsB (m:Int) (acc.drop m)=z at *
      by_cases h0:z=0
      · subst h0
        rw [if_pos rfl] at hif
        refine At.rt [true] [true,true,true] [] Tryz.func51 ?_
        exact⟨gh,ch,q2,rfl,rfl,rfl,by rw [if_pos rfl]; exact hif.1,by rw [if_pos rfl]; exact hif.2,hK2⟩
      · rw [if_neg h0] at hif
        refine At.rt [true] [true,true,true] [] Tryz.func51 ?_
        exact⟨gh,ch,q2,by rw [if_neg h0]; rfl,rfl,rfl,by rw [if_neg h0]; exact hif.1,by rw [if_neg h0]; exact hif.2,hK2⟩
def rdLoop (P:Nat):Nat→Nat→FL→List (List UInt8)→Nat × List (List UInt8) × FL
  | 0,k,S,R => (k,R++rdK P S k,cutS S (nmB 115 (k:Int)) (rdZ P S k))
  | f+1,k,S,R => if (rdK P S k).length=P then rdLoop P f (k+1) (cutS S (nmB 115 (k:Int)) (rdZ P S k)) (R++rdK P S k) else (k,R++rdK P S k,cutS S (nmB 115 (k:Int)) (rdZ P S k))
theorem cutS_read (S:FL) (n m:List UInt8) (z:Nat):readN (cutS S n z) m=if m=n then (readN S n).take z else readN S m:=by
  unfold cutS
  split
  · rename_i h
    split
    · rename_i e; rw [e,List.take_of_length_le h]
    · rfl
  · rw [readN_set]
theorem rdN_most (s:List UInt8):(rdN s 0 0 65536).1≤65536:=by
  unfold rdN
  simp only [ne_eq,not_true_eq_false,if_false]
  split
  · rename_i h6
    unfold numE at h6
    by_cases h7:(digP (s.drop 0) 0 0).2.2=0∧65536 < (digP (s.drop 0) 0 0).1
    · rw [if_pos h7] at h6; cases h6
    · rw [if_neg h7] at h6
      have h8:¬ 65536 < (digP (s.drop 0) 0 0).1:=fun h=>h7 ⟨h6,h⟩
      show (digP (s.drop 0) 0 0).1≤65536
      omega
  · exact Nat.zero_le _
theorem rdN_took {s:List UInt8}(h:(rdN s 0 0 65536).2.2=0):s.take (rdN s 0 0 65536).2.1=numL (rdN s 0 0 65536).1∧(numL (rdN s 0 0 65536).1).length=(rdN s 0 0 65536).2.1:=by
  unfold rdN at h ⊢
  simp only [ne_eq,not_true_eq_false,if_false,List.drop_zero] at h ⊢
  by_cases h1:numE s 65536=0
  · simp only [if_pos h1] at h ⊢
    have h2:(digP s 0 0).2.2=0:=by
      unfold numE at h1
      by_cases h7:(digP s 0 0).2.2=0∧65536 < (digP s 0 0).1
      · rw [if_pos h7] at h1; cases h1
      · rw [if_neg h7] at h1; exact h1
    obtain⟨x,j,e,hd⟩:∃ x j e,digP s 0 0=(x,j,e):=⟨_,_,_,rfl⟩
    rw [hd] at h2 ⊢
    simp only at h2
    subst h2
    have:=digP_get0 hd
    simpa using this
  · simp only [if_neg h1] at h
    exact absurd (by exact_mod_cast h) h1
theorem frB_wrapped {s:List UInt8}(h:(frB s).2.2=0):s.take (frB s).2.1=wrapL (frB s).1∧1≤(frB s).1.length∧(frB s).1.length≤65536:=by
  unfold frB at h ⊢
  by_cases h0:s=[]
  · rw [if_pos h0] at h; cases h
  rw [if_neg h0] at h ⊢
  by_cases h1:(rdN s 0 0 65536).2.2≠0
  · rw [if_pos h1] at h; exact absurd h h1
  rw [if_neg h1] at h ⊢
  by_cases h2:(rdN s 0 0 65536).1=0
  · rw [if_pos h2] at h; cases h
  rw [if_neg h2] at h ⊢
  by_cases h3:s.length < (rdN s 0 0 65536).2.1+(rdN s 0 0 65536).1+1
  · rw [if_pos h3] at h; cases h
  rw [if_neg h3] at h ⊢
  by_cases h4:s[(rdN s 0 0 65536).2.1+(rdN s 0 0 65536).1]?≠some 165
  · rw [if_pos h4] at h; cases h
  rw [if_neg h4]
  have hm:=rdN_most s
  obtain⟨ht,htl⟩:=rdN_took (by simpa using h1)
  generalize (rdN s 0 0 65536).1=x at *
  generalize (rdN s 0 0 65536).2.1=j at *
  simp only [ne_eq,Decidable.not_not] at h4
  have hrl:((s.drop j).take x).length=x:=by rw [List.length_take,List.length_drop]; omega
  refine⟨?_,by show 1≤((s.drop j).take x).length; omega,by show ((s.drop j).take x).length≤65536; omega⟩
  show s.take (j+x+1)=wrapL ((s.drop j).take x)
  unfold wrapL rowL
  rw [hrl,List.take_add_one,h4,List.take_add,ht]; rfl
theorem scan_took:∀ (n:Nat) (s:List UInt8),s.length≤n→∀ m,s.take (((scan s).take m).map (·.2)).sum=(((scan s).take m).map (·.1)).flatMap wrapL
  | 0,s,h,m => by
    obtain rfl:s=[]:=List.length_eq_zero_iff.1 (by omega)
    have:scan []=[]:=rfl
    rw [this]; simp
  | n+1,s,h,m => by
    by_cases he:(frB s).2.2=0
    · obtain⟨h1,h2,h3⟩:=frB_wrapped he
      have h4:=frB_ok he
      cases m with
      | zero => simp
      | succ m =>
        rw [scan_next he]
        simp only [List.take_succ_cons,List.map_cons,List.sum_cons,List.flatMap_cons]
        rw [List.take_add,h1,scan_took n (s.drop (frB s).2.1) (by rw [List.length_drop]; omega) m]
    · rw [scan_stop he]; simp
theorem scan_rows:∀ (n:Nat) (s:List UInt8),s.length≤n→∀ x,x∈frowsB s→1≤x.length∧x.length≤65536
  | 0,s,h,x,hx => by
    obtain rfl:s=[]:=List.length_eq_zero_iff.1 (by omega)
    cases hx
  | n+1,s,h,x,hx => by
    unfold frowsB at hx
    by_cases he:(frB s).2.2=0
    · obtain⟨h1,h2,h3⟩:=frB_wrapped he
      have h4:=frB_ok he
      rw [scan_next he,List.map_cons] at hx
      rcases List.mem_cons.1 hx with rfl | hx
      · exact⟨h2,h3⟩
      · exact scan_rows n (s.drop (frB s).2.1) (by rw [List.length_drop]; omega) x hx
    · rw [scan_stop he] at hx; cases hx
theorem rdZ_took (P:Nat) (S:FL) (k:Nat):(readN S (nmB 115 (k:Int))).take (rdZ P S k)=(rdK P S k).flatMap wrapL:=by
  unfold rdZ rdK szL frowsB
  rw [← List.map_take,← List.map_take]
  exact scan_took _ _ (Nat.le_refl _) P
theorem rdK_rows {P:Nat}{S:FL}{k:Nat}{x:List UInt8}(h:x∈rdK P S k):1≤x.length∧x.length≤65536:=scan_rows _ _ (Nat.le_refl _) x (List.mem_of_mem_take h)
theorem wraps_ne {R:List (List UInt8)}(h:R≠[]):R.flatMap wrapL≠[]:=by
  cases R with
  | nil => exact absurd rfl h
  | cons x R => rw [List.flatMap_cons]; simp [wrapL]
theorem names_few {S:FL}{k:Nat}(hk:k≤1000000) (h:∀ j,j < k→readN S (nmB 115 (j:Int))≠[]):k≤S.length:=by
  have h1:((List.range k).map fun j=>nmB 115 ((j:Nat):Int)).length≤(S.map (·.1)).length:=nodup_len (by
    refine List.pairwise_map.2 (List.nodup_range.imp_of_mem fun {a b} ha hb hab e=>hab ?_)
    exact nmB_inj (by have:=List.mem_range.1 ha; omega) (by have:=List.mem_range.1 hb; omega) e) fun x hx=>by
      obtain⟨j,hj,rfl⟩:=List.mem_map.1 hx
      rcases @readN_mem S (nmB 115 ((j:Nat):Int)) with h2 | h2
      · exact absurd h2 (h j (List.mem_range.1 hj))
      · exact List.mem_map.2 ⟨_,h2,rfl⟩
  simpa using h1
theorem cutS_names {S:FL}{n:List UInt8}{z:Nat}{p:List UInt8 × List UInt8}(h:p∈cutS S n z):∃ p',p'∈S∧p'.1=p.1:=by
  unfold cutS at h
  split at h
  · exact⟨p,h,rfl⟩
  · rename_i hlt
    rcases (setN_mem _ _ _ _).1 h with⟨-,rfl⟩ | ⟨h1,-⟩
    · rcases @readN_mem S n with h2 | h2
      · rw [h2] at hlt; simp at hlt
      · exact⟨_,h2,rfl⟩
    · exact⟨p,h1,rfl⟩
theorem rdK_sealed {P:Nat}{S:FL}{k:Nat}(hP:1≤P) (hk:k≤1000000) (hl:(rdK P S k).length=P) (h:∀ j,j < k→readN S (nmB 115 (j:Int))≠[]):∀ j,j < k+1→readN (cutS S (nmB 115 (k:Int)) (rdZ P S k)) (nmB 115 (j:Int))≠[]:=fun j hj=>by
  rw [cutS_read]
  by_cases hjk:j=k
  · subst hjk
    rw [if_pos rfl,rdZ_took]
    exact wraps_ne (by intro e; rw [e] at hl; simp at hl; omega)
  · rw [if_neg (fun e => hjk (nmB_inj (by omega) (by omega) e))]
    exact h j (by omega)
theorem WOk.apartT {S:Base}{bx:Bx}{hp:List Seg}{w:World}(h:WOk S bx hp w) {T:List Nat}(hl:∀ x,x∈T→x < S.w0.heap.size) (hT:∀ x,x∈T→x ∉ S.mods) (mb mh:List Bool):∀ x,x∈T→x ∉ kys (selL mb bx) (selL mh hp):=fun x hx hk =>
  (h.own x ((kys_perm (selL_perm mb bx) (selL_perm mh hp)).mem_iff.2 (List.mem_append.2 (.inl hk)))).elim (hT x hx) fun h2=>Nat.lt_irrefl _ (Nat.lt_of_lt_of_le (hl x hx) h2)
theorem Tryz.lgOpenP_w {r kq:Nat}(d P n:Nat) (c3 c4:Int) (q:DkQ r kq) (w:World) (hm:mayCf P n c3 c4=true) (hq:q.P≠[]) (hok:(Tryz.dkS d q).ok w) (hd:∀ x,x∈kys [] [Tryz.dkS d q]→x < w.heap.size) :
    Fun Tryz.prog 16 [.pointer (some ⟨d,0,none⟩),.agg ⟨[.int .i64 P,.int .i64 n,.int .i64 c3,.int .i64 c4]⟩] w (.tuple #[.pointer none,.int .i64 8]):=by
  have fM:∀ {S:Base}{bx:Bx}{hp:List Seg},CallOb Tryz.prog S bx hp 40 [.agg ⟨[.int .i64 P,.int .i64 n,.int .i64 c3,.int .i64 c4]⟩] (.bool true):=fun {_ _ _} w' _=>by
    have:=Tryz.logMay_w P n c3 c4 w'; rwa [hm] at this
  have fP:∀ {bx:Bx}{hp:List Seg},CallOb Tryz.prog ⟨w,kys [] []⟩ bx hp 31 [.pointer (some ⟨d,0,none⟩)] (.int .i64 q.P.length):=fun {_ _} w' hw'=>Tryz.qPending_w d q w' ((Tryz.dkS d q).loc w w' (fun k hk=>hw'.ext.block k (hd k (mem_kys_hp (List.mem_singleton.2 rfl) hk)) (by simp [kys])) hok)
  have hpos:=List.length_pos_iff.2 hq
  refine Tri.enter (bx:=[]) (hp:=[]) Tryz.func16 rfl (by kernel_rfl) rfl (Own.nil w) ?_
  refine At.go [] [] rfl (by and_intros <;> first | exact fM | exact fP | exact decide_eq_true (by omega) | (simp; done) | exact oK) ?_
  refine At.bo fun b3 hb3=>?_
  refine At.go [false,false,true] [hB 0,hC (.bool true),hC (.int .i64 ↑q.P.length)] rfl (by and_intros <;> first | exact fM | exact fP | exact decide_eq_true (by omega) | (simp; done) | exact oK) ?_
  refine At.rt [] [] [] Tryz.func16 ?_
  exact⟨rfl,rfl,rfl⟩
theorem Tryz.lgOpen_w {r kq:Nat}(d P n:Nat) (c3 c4:Int) (q:DkQ r kq) (w:World) (hm:mayCf P n c3 c4=true) (hq:q.P=[]) (hKS:q.K=q.S) (hkq:kq≤900000) (hns:∀ p,p∈q.S→p.1.length≤9223372036854775807) (hT:Tryz.Tabs w) (hTk:∀ x,x∈Tryz.tabG→x ∉ kys [] [Tryz.dkS d q]) (hown:Own [] [Tryz.dkS d q] w) :
    Tri Tryz.prog 16 [.pointer (some ⟨d,0,none⟩),.agg ⟨[.int .i64 P,.int .i64 n,.int .i64 c3,.int .i64 c4]⟩] w (kys [] [Tryz.dkS d q])
      (fun v bx hp => ∃ (K:Nat) (R:List (List UInt8)) (S1:FL),rdLoop P 5000 0 q.S []=(K,R,S1) ∧
        if (hdrS r (clrS K R.length S1 S1) (wantH P n R)).1=0 then ∃ (lg:Nat) (gr:Option Nat) (cr:Nat) (gh:Option Nat) (ch:Nat) (q':DkQ r 0),v=.tuple #[.pointer (some ⟨lg,0,none⟩),.int .i64 0]∧bx=[(lg,98,lgV d P n c3 c4 (sv gr R.length cr) (sv gh (R.length / P) ch))] ∧
          hp=[Seg.row gr 9 1 R.length cr (R.map str),Seg.row gh 28 6 (R.length / P) ch ((hdsB P n R (R.length / P)).flatMap hdC),Tryz.dkS d q']∧q'.P=[]∧q'.K=q'.S∧q'.S=(hdrS r (clrS K R.length S1 S1) (wantH P n R)).2.1
        else v=.tuple #[.pointer none,.int .i64 (hdrS r (clrS K R.length S1 S1) (wantH P n R)).1]∧bx=[]∧∃ q':DkQ r (kq+1),hp=[Tryz.dkS d q']∧q'.P=(hdrS r (clrS K R.length S1 S1) (wantH P n R)).2.2∧q'.S=(hdrS r (clrS K R.length S1 S1) (wantH P n R)).2.1):=by
  have hin:=mayCf_in hm
  have fM:∀ {S:Base}{bx:Bx}{hp:List Seg},CallOb Tryz.prog S bx hp 40 [.agg ⟨[.int .i64 P,.int .i64 n,.int .i64 c3,.int .i64 c4]⟩] (.bool true):=fun {_ _ _} w' _=>by
    have:=Tryz.logMay_w P n c3 c4 w'; rwa [hm] at this
  have fP:∀ {bx:Bx}{hp:List Seg},nth hp 0=some (Tryz.dkS d q)→CallOb Tryz.prog ⟨w,kys [] [Tryz.dkS d q]⟩ bx hp 31 [.pointer (some ⟨d,0,none⟩)] (.int .i64 0):=fun {_ _} h w' hw'=>by
    have:=Tryz.qPending_w d q w' (hw'.hp _ (nth_mem h)); rwa [hq] at this
  have htl:=Tryz.tabs_lt hT
  refine Tri.enter (bx:=[]) Tryz.func16 rfl (by kernel_rfl) rfl hown ?_
  refine At.go [] [] rfl (by and_intros <;> first | exact fM | exact fP rfl | (simp; done) | exact oK) ?_
  refine At.bo fun b3 hb3=>?_
  refine At.go [false,false,false] [hB 0,hC (.bool true),hC (.int .i64 0),hB 0] rfl (by and_intros <;> first | exact fM | exact fP rfl | (simp; done) | exact oK) ?_
  refine At.bo fun b22 hb22=>?_
  refine At.go [] [] rfl (by and_intros <;> first | exact fM | exact fP rfl | (simp; done) | exact oK) ?_
  refine At.nilRow 9 1 ?_
  refine At.loop (env0:=[(0,.pointer (some ⟨d,0,none⟩)),(6,.pointer (some ⟨b22,0,none⟩)),(7,.int .i64 0)]) (fun m_ env bx hp => ∃ (k:Nat) (R:List (List UInt8)) (gr:Option Nat) (cr:Nat) (qi:DkQ r kq),m_=5000 - k∧(k≤4096)∧(qi.P=[]∧qi.K=qi.S)∧(rdLoop P (5000 - k) k qi.S R=rdLoop P 5000 0 q.S [])∧((∀ j,j < k→readN qi.S (nmB 115 (j:Int))≠[]))∧(R.length≤64 * k)∧((∀ x,x∈R→1≤x.length∧x.length≤65536))∧((∀ p,p∈qi.S→p.1.length≤9223372036854775807))∧env=[(0,.pointer (some ⟨d,0,none⟩)),(6,.pointer (some ⟨b22,0,none⟩)),(7,.int .i64 (k:Int))]∧bx=[(b22,98,lgV d P n c3 c4 (sv gr R.length cr) (sv none 0 0)),(b3,23,[.int .i64 ↑P,.int .i64 ↑n,.int .i64 c3,.int .i64 c4])]∧hp=[Seg.row gr 9 1 R.length cr (R.map str),Tryz.dkS d qi]) rfl
    ⟨0,[],none,0,q,rfl,(by omega),(⟨hq,hKS⟩),(rfl),(fun j hj=>by omega),(by simp),(fun x hx=>by cases hx),(hns),rfl,rfl,rfl⟩ sB ?_
  rintro m_ env bx hp ⟨k,R,gr,cr,qi,rfl,hk,h1,h2,h3,h4,h5,h6,rfl,rfl,rfl⟩ ih
  refine At.go [] [] rfl oK ?_
  refine At.step [] rfl rfl rfl rfl rfl trivial (OpOk.callO [true,false] [true,true] rfl rfl (fun w' hw' ho=>Tryz.lgRead_w b22 d P n cr c3 c4 gr R (sv none 0 0) qi k w' (by omega) (by omega) (by omega) h1.1 h1.2 (Tryz.tabs_ext hT hw'.ext hTk) (WOk.apartT hw' htl hTk [true,false] [true,true]) ho) ?_)
  rintro _ _ _ ⟨g,c,q1,rfl,rfl,rfl,hq1,hq2,hq3⟩
  have hrl:(rdK P qi.S k).length≤P:=by unfold rdK; rw [List.length_take]; omega
  have hx2:∀ x,x∈R++rdK P qi.S k→1≤x.length∧x.length≤65536:=fun x hx=>by
    rcases List.mem_append.1 hx with h | h
    · exact h5 x h
    · exact rdK_rows h
  have hn2:∀ p,p∈q1.S→p.1.length≤9223372036854775807:=fun p hp=>by
    rw [hq3] at hp
    obtain⟨p2,hp2,e⟩:=cutS_names hp
    rw [← e]; exact h6 p2 hp2
  have hRl:(R++rdK P qi.S k).length≤64 * (k+1):=by rw [List.length_append]; omega
  have hf5:5000 - k=5000 - (k+1)+1:=by omega
  rw [hf5,rdLoop] at h2
  by_cases hs:(rdK P qi.S k).length=P
  · rw [if_pos hs,← hq3] at h2
    have h3':=rdK_sealed (by omega) (by omega) hs h3
    rw [← hq3] at h3'
    have hk2:=names_few (by omega) h3'
    have hl1:q1.S.length≤4096:=by rw [q1.len]; exact q1.inv.lS
    refine At.go [true] [] rfl (by and_intros <;> first | exact decide_eq_true hs | omega | exact oK) ?_
    exact At.weak (ih _ _ _ _ (by omega) ⟨k+1,R++rdK P qi.S k,g,c,q1,rfl,by omega,⟨hq1,hq2⟩,h2,h3',hRl,hx2,hn2,rfl,rfl,rfl⟩) sB
  · rw [if_neg hs,← hq3] at h2
    generalize R++rdK P qi.S k=R1 at *
    refine At.go [false] [] rfl (by and_intros <;> first | exact decide_eq_false hs | omega | exact oK) ?_
    refine At.step [] rfl rfl rfl rfl rfl trivial (OpOk.callO [true,false] [false,true] rfl rfl (fun w' _ ho=>Tryz.lgClear_w b22 d P n R1.length c k c3 c4 (svA g) (sv none 0 0) q1 w' (by omega) (by omega) hq1 hq2 hn2 ho) ?_)
    rintro _ _ _ ⟨q2,rfl,rfl,hq4,hq5,hq6⟩
    refine At.order [] [1] rfl rfl ?_
    refine At.go [] [] rfl oK ?_
    refine At.step [] rfl rfl rfl rfl rfl trivial (OpOk.callO [true,false] [true,true] rfl rfl (fun w' hw' ho=>Tryz.lgHeaders_w b22 d P n c c3 c4 g R1 (sv none 0 0) q2 w' hm (by omega) (fun x hx=>by have:=hx2 x hx; omega) hq4 hq5 hkq (Tryz.tabs_ext hT hw'.ext hTk) (WOk.apartT hw' htl hTk [true,false] [true,true]) ho) ?_)
    rintro _ _ _ ⟨gh,ch,q3,rfl,rfl,rfl,e1,e2,e3⟩
    rw [hq6] at e1 e2 ⊢
    by_cases he:(hdrS r (clrS k R1.length q1.S q1.S) (wantH P n R1)).1=0
    · rw [he]
      refine At.go [false] [] rfl (by and_intros <;> first | (simp; done) | exact oK) ?_
      refine At.step [] rfl rfl rfl rfl rfl trivial (OpOk.callO [false,false] [false,false,true] rfl rfl (fun w' _ ho=>Tryz.qSync_w d q3 w' ho) ?_)
      rintro _ _ _ ⟨rfl,rfl,q5,rfl,f1,f2,f3⟩
      refine At.order [] [2,2] rfl rfl ?_
      refine At.go [] [] rfl oK ?_
      refine At.rt [true,false] [true,true,true] [] Tryz.func16 ?_
      exact⟨k,R1,q1.S,h2.symm,by rw [if_pos he]; exact⟨b22,g,c,gh,ch,q5,rfl,rfl,rfl,f1,by rw [f2,f3],by rw [f3,e1]⟩⟩
    · refine At.go [true] [] rfl (by and_intros <;> first | (simp [he]; done) | exact oK) ?_
      refine At.rt [] [false,false,true] [] Tryz.func16 ?_
      exact⟨k,R1,q1.S,h2.symm,by rw [if_neg he]; exact⟨rfl,rfl,q3,rfl,e2,e1⟩⟩
def snapOk (S:FL):List (List UInt8)→FL→Bool
  | _,[] => true
  | seen,p :: M => if (kindB p.1).1≠2∨p.2=[]∨p.1∈seen∨readN S p.1≠[] then false else snapOk S (seen++[p.1]) M
theorem snapOk_drop {S M:FL}{seen:List (List UInt8)}{i:Nat}{p:List UInt8 × List UInt8}(h:M[i]?=some p):snapOk S seen (M.drop i)=if (kindB p.1).1≠2∨p.2=[]∨p.1∈seen∨readN S p.1≠[] then false else snapOk S (seen++[p.1]) (M.drop (i+1)):=by
  obtain⟨h1,h2⟩:=List.getElem?_eq_some_iff.1 h
  rw [List.drop_eq_getElem_cons h1,h2,snapOk]
def seenE (l:List (List UInt8)):List (Value × Value):=l.map fun n=>(str n,.bool true)
theorem Tryz.seenT:Tryz.prog.underlying 151=some (.map 9 4):=by kernel_rfl
theorem Tryz.zeroBool:∀ w,(zeroValue 4).run Tryz.prog w=.ok (.bool false) w:=by
  have h:(match Tryz.prog.info? 4 with | some i=>(match i.zero with | some (.bool false)=>true | _=>false) | none=>false)=true:=by kernel_rfl
  intro w
  split at h
  · rename_i i hi
    split at h
    · rename_i hz
      exact run_zero hi hz
    · cases h
  · cases h
theorem Tryz.lgSnaps_w {r kq:Nat}(lg d P n:Nat) (c3 c4:Int) (rv hv:Value) (q:DkQ r kq) (M:FL) (ma:Option Addr) (mc:Nat) (w:World) (eM:M.length≤60) (hr:SlOk w ma (fl M)) (hns:∀ p,p∈M→p.1.length≤9223372036854775807∧p.2.length≤9223372036854775807) (hlg:SlOk w (some ⟨lg,0,none⟩) (lgV d P n c3 c4 rv hv)) (hok:(Tryz.dkS d q).ok w) (hd:∀ x,x∈kys [] [Tryz.dkS d q]→x < w.heap.size) :
    Fun Tryz.prog 57 [.pointer (some ⟨lg,0,none⟩),.slice ma M.length mc] w (.bool (snapOk q.S [] M)):=by
  have fR:∀ (m:List UInt8) {bx:Bx}{hp:List Seg},CallOb Tryz.prog ⟨w,kys [] []⟩ bx hp 24 [.pointer (some ⟨d,0,none⟩),str m] (str (readN q.S m)):=fun m {_ _} w' hw'=>Tryz.qRead_w d q m w' ((Tryz.dkS d q).loc w w' (fun k hk=>hw'.ext.block k (hd k (mem_kys_hp (List.mem_singleton.2 rfl) hk)) (by simp [kys])) hok)
  refine Tri.enter (bx:=[]) (hp:=[]) Tryz.func57 rfl (by kernel_rfl) rfl (Own.nil w) ?_
  refine At.go [] [] rfl oK ?_
  refine At.st [] (OpOk.makeMap .string rfl fun mp=>?_)
  refine At.go [] [] rfl oK ?_
  refine At.loop (env0:=[(0,.pointer (some ⟨lg,0,none⟩)),(5,.map (some mp)),(12,.slice ma (List.length M) mc),(13,.int .i64 ↑(List.length M)),(14,.int .i64 0)]) (fun m_ env bx hp => ∃ (i:Nat) (seen:List (List UInt8)),m_=M.length - i∧(i≤M.length)∧(snapOk q.S seen (M.drop i)=snapOk q.S [] M)∧env=[(0,.pointer (some ⟨lg,0,none⟩)),(5,.map (some mp)),(12,.slice ma (List.length M) mc),(13,.int .i64 ↑(List.length M)),(14,.int .i64 (i:Int))]∧bx=[]∧hp=[Seg.map mp .string (seenE seen)]) rfl
    ⟨0,[],rfl,(Nat.zero_le _),(by rw [List.drop_zero]),rfl,rfl,rfl⟩ sB ?_
  rintro m_ env bx hp ⟨i,seen,rfl,hi,h1,rfl,rfl,rfl⟩ ih
  by_cases hlt:i < M.length
  · obtain⟨p,hp⟩:∃ p,M[i]?=some p:=⟨_,List.getElem?_eq_getElem hlt⟩
    have hpn:=hns p (List.mem_of_getElem? hp)
    rw [snapOk_drop hp] at h1
    have hne:M≠[]:=by intro h; rw [h] at hlt; simp at hlt
    obtain⟨g,o,rfl,hc⟩:=hr.get (fl_ne hne)
    have rE:∀ {bx:Bx}{hp:List Seg},RdW ⟨w,kys [] []⟩ bx hp g (o+(i:Int).toNat * 2) [str p.1,str p.2]:=fun {_ _}=>RdW.fileE hc (by simp [kys]) hp (by omega)
    obtain⟨a,b,c,hk⟩:∃ a b c,kindB p.1=(a,b,c):=⟨_,_,_,rfl⟩
    have fK:∀ {S:Base}{bx:Bx}{hp:List Seg},CallOb Tryz.prog S bx hp 93 [str p.1] (.tuple #[.int .i64 a,.int .i64 b,.bool c]):=fun {_ _ _} w' _=>by
      have:=Tryz.shKind_w p.1 w' hpn.1; rw [hk] at this; exact this
    rw [hk] at h1
    have hkey:MapKept.IsKey .string (str p.1):=trivial
    by_cases ha:a=2
    · by_cases hb:p.2=[]
      · rw [if_pos (.inr (.inl hb))] at h1
        refine At.go [true] [hR [.string { data:=p.fst.toArray },.string { data:=p.snd.toArray }]] rfl (by and_intros <;> first | exact rE | exact fK | exact decide_eq_true (by omega) | exact oK) ?_
        refine At.al fun b7 hb7=>?_
        refine At.gn 8 [] [hB 0,hB 0,hC (.tuple ⟨[.int .i64 a,.int .i64 b,.bool c]⟩)] rfl (by and_intros <;> first | exact rE | exact fK | exact decide_eq_true (by omega) | exact oK) ?_
        refine At.dr 23 ?_
        refine AtD.lx [0,1,2,3,4,5,6,7,8,9,10,11,12,13,14,15,16,17,18,19,20,21,22] 0 [false,true,true] [hB 0] rfl (by and_intros <;> first | (simp [ha]; done) | (simp only [bl_of]; simp [hb]; done) | exact oK) ?_
        refine AtD.dn ?_
        refine At.go [true] [] rfl (by and_intros <;> first | (simp only; simp [hb,bl]; done) | exact oK) ?_
        refine At.rt [] [] [] Tryz.func57 ?_
        exact⟨by rw [← h1]; rfl,rfl,rfl⟩
      · by_cases hse:p.1∈seen
        · rw [if_pos (.inr (.inr (.inl hse)))] at h1
          obtain⟨j,hj⟩:=List.mem_iff_getElem?.1 hse
          have lk:∀ {bx:Bx},LookOb Tryz.prog ⟨w,kys [] []⟩ bx [Seg.map mp .string (seenE seen)] 151 (.map (some mp)) (str p.1) false (.bool true):=fun {_}=>LookOb.hit (v:=.bool true) (i:=j) false Tryz.seenT Tryz.strT (fun w' hw'=>hw'.hp _ (nth_mem (i:=0) rfl)) hkey (by unfold seenE; rw [List.getElem?_map,hj]; rfl)
          refine At.go [true] [hR [.string { data:=p.fst.toArray },.string { data:=p.snd.toArray }]] rfl (by and_intros <;> first | exact rE | exact fK | exact decide_eq_true (by omega) | exact oK) ?_
          refine At.al fun b7 hb7=>?_
          refine At.gn 8 [] [hB 0,hB 0,hC (.tuple ⟨[.int .i64 a,.int .i64 b,.bool c]⟩)] rfl (by and_intros <;> first | exact rE | exact fK | exact decide_eq_true (by omega) | exact oK) ?_
          refine At.dr 23 ?_
          refine AtD.lx [0,1,2,3,4,5,6,7,8,9,10,11,12,13,14,15,16,17,18,19,20,21,22] 0 [false,false,true] [hB 0,hB 0,hL (.bool true)] rfl (by and_intros <;> first | (simp [ha]; done) | (simp only [bl_of]; simp [hb]; done) | exact lk | exact oK) ?_
          refine AtD.dn ?_
          refine At.go [true] [] rfl oK ?_
          refine At.rt [] [] [] Tryz.func57 ?_
          exact⟨by rw [← h1]; rfl,rfl,rfl⟩
        · have lk:∀ {bx:Bx},LookOb Tryz.prog ⟨w,kys [] []⟩ bx [Seg.map mp .string (seenE seen)] 151 (.map (some mp)) (str p.1) false (.bool false):=fun {_} => LookOb.miss (z:=.bool false) false Tryz.seenT Tryz.strT (fun w' => Tryz.zeroBool w') (fun w' hw' => hw'.hp _ (nth_mem (i:=0) rfl)) hkey (fun e he => by obtain⟨y,hy,rfl⟩:=List.mem_map.1 he; intro h; exact hse (str_inj h ▸ hy))
          by_cases hrd:readN q.S p.1=[]
          · rw [if_neg (by simp [ha,hb,hse,hrd])] at h1
            refine At.go [true] [hR [.string { data:=p.fst.toArray },.string { data:=p.snd.toArray }]] rfl (by and_intros <;> first | exact rE | exact fK | exact decide_eq_true (by omega) | exact oK) ?_
            refine At.al fun b7 hb7=>?_
            refine At.gn 8 [] [hB 0,hB 0,hC (.tuple ⟨[.int .i64 a,.int .i64 b,.bool c]⟩)] rfl (by and_intros <;> first | exact rE | exact fK | exact decide_eq_true (by omega) | exact oK) ?_
            refine At.dr 23 ?_
            refine AtD.lx [0,1,2,3,4,5,6,7,8,9,10,11,12,13,14,15,16,17,18,19,20,21,22] 0 [false,false,false] [hB 0,hB 0,hL (.bool false),hR [.pointer (some ⟨d,0,none⟩)],hB 0,hC (str (readN q.S p.1))] rfl (by and_intros <;> first | (simp [ha]; done) | (simp only [bl_of]; simp [hb]; done) | exact lk | exact rdM hlg (by simp [kys]) 0 rfl | exact fR _ | exact oK) ?_
            refine AtD.dn ?_
            refine At.go [false] [hB 0] rfl (by and_intros <;> first | (simp only [bl_of]; simp [hrd]; done) | exact oK) ?_
            refine At.step0 [] rfl rfl rfl rfl trivial (OpOk.mapPush (k:=str p.1) (r:=.bool true) 0 rfl rfl rfl rfl Tryz.seenT Tryz.strT hkey rfl (fun e he=>by obtain⟨y,hy,rfl⟩:=List.mem_map.1 he; intro h; exact hse (str_inj h ▸ hy)) ?_)
            have hse2:seenE seen++[(str p.1,Value.bool true)]=seenE (seen++[p.1]):=by simp [seenE]
            rw [hse2]
            refine At.go [] [] rfl oK ?_
            refine At.keep [false] [true] rfl ?_
            exact At.weak (ih _ _ _ _ (by omega) ⟨i+1,seen++[p.1],rfl,by omega,h1,rfl,rfl,rfl⟩) sB
          · rw [if_pos (.inr (.inr (.inr hrd)))] at h1
            refine At.go [true] [hR [.string { data:=p.fst.toArray },.string { data:=p.snd.toArray }]] rfl (by and_intros <;> first | exact rE | exact fK | exact decide_eq_true (by omega) | exact oK) ?_
            refine At.al fun b7 hb7=>?_
            refine At.gn 8 [] [hB 0,hB 0,hC (.tuple ⟨[.int .i64 a,.int .i64 b,.bool c]⟩)] rfl (by and_intros <;> first | exact rE | exact fK | exact decide_eq_true (by omega) | exact oK) ?_
            refine At.dr 23 ?_
            refine AtD.lx [0,1,2,3,4,5,6,7,8,9,10,11,12,13,14,15,16,17,18,19,20,21,22] 0 [false,false,false] [hB 0,hB 0,hL (.bool false),hR [.pointer (some ⟨d,0,none⟩)],hB 0,hC (str (readN q.S p.1))] rfl (by and_intros <;> first | (simp [ha]; done) | (simp only [bl_of]; simp [hb]; done) | exact lk | exact rdM hlg (by simp [kys]) 0 rfl | exact fR _ | exact oK) ?_
            refine AtD.dn ?_
            refine At.go [true] [] rfl (by and_intros <;> first | (simp only [bl_of]; simp [hrd]; done) | exact oK) ?_
            refine At.rt [] [] [] Tryz.func57 ?_
            exact⟨by rw [← h1]; rfl,rfl,rfl⟩
    · rw [if_pos (.inl ha)] at h1
      refine At.go [true] [hR [.string { data:=p.fst.toArray },.string { data:=p.snd.toArray }]] rfl (by and_intros <;> first | exact rE | exact fK | exact decide_eq_true (by omega) | (simp; done) | (simp; done) | exact oK) ?_
      refine At.al fun b7 hb7=>?_
      refine At.go [] [hB 0,hB 0,hC (.tuple ⟨[.int .i64 a,.int .i64 b,.bool c]⟩)] rfl (by and_intros <;> first | exact rE | exact fK | exact decide_eq_true (by omega) | (simp; done) | (simp; done) | exact oK) ?_
      refine At.qt [true,true,true] [] rfl rfl (by and_intros <;> first | exact rE | exact fK | exact decide_eq_true (by omega) | (simp [ha]; done) | (simp; done) | exact oK) ?_
      refine At.go [true] [] rfl (by and_intros <;> first | exact rE | exact fK | exact decide_eq_true (by omega) | (simp; done) | (simp; done) | exact oK) ?_
      refine At.rt [] [] [] Tryz.func57 ?_
      exact⟨by rw [← h1]; rfl,rfl,rfl⟩
  · obtain rfl:i=M.length:=by omega
    rw [List.drop_length] at h1
    refine At.go [false] [] rfl (by and_intros <;> first | exact decide_eq_false (by omega) | exact oK) ?_
    refine At.rt [] [] [] Tryz.func57 ?_
    exact⟨by rw [← h1]; rfl,rfl,rfl⟩
theorem segK_app {P k:Nat}{R X:List (List UInt8)}(h:(k+1) * P≤R.length):segK P (R++X) k=segK P R k:=by
  rw [Nat.add_mul] at h
  unfold segK
  rw [List.drop_append_of_le_length (by omega),List.take_append_of_le_length (by rw [List.length_drop]; omega)]
theorem mkH_app {P n k:Nat}{R X:List (List UInt8)}{p:List UInt8}(h:(k+1) * P≤R.length):mkH P n (R++X) k p=mkH P n R k p:=by unfold mkH; rw [segK_app h]
theorem prevB_app {P n:Nat}{R X:List (List UInt8)}:∀ k,k * P≤R.length→prevB P n (R++X) k=prevB P n R k
  | 0,_ => rfl
  | k+1,h => by
    have h2:k * P≤R.length:=Nat.le_trans (Nat.mul_le_mul_right P (Nat.le_succ k)) h
    rw [prevB,prevB,mkH_app h,prevB_app k h2]
theorem hdK_app {P n k:Nat}{R X:List (List UInt8)}(h:(k+1) * P≤R.length):hdK P n (R++X) k=hdK P n R k:=by
  unfold hdK
  rw [mkH_app h,prevB_app k (Nat.le_trans (Nat.mul_le_mul_right P (Nat.le_succ k)) h)]
theorem hdsB_app {P n:Nat}{R X:List (List UInt8)}{m:Nat}(h:m * P≤R.length):hdsB P n (R++X) m=hdsB P n R m:=by
  unfold hdsB
  refine List.map_congr_left fun k hk=>hdK_app ?_
  have:=List.mem_range.1 hk
  exact Nat.le_trans (Nat.mul_le_mul_right P (by omega)) h
def sealsP (P:Nat) (R:List (List UInt8)):Bool:=decide (R.length % P+1=P)
def actL (P n:Nat) (S:FL) (R:List (List UInt8)) (row:List UInt8) (M:FL):List (List UInt8 × Nat × List UInt8) :=
  (nmB 115 ((R.length / P:Nat):Int),(readN S (nmB 115 ((R.length / P:Nat):Int))).length,wrapL row) :: M.map (fun p => (p.1,0,p.2)) ++
    if sealsP P R=true then [(headsB,(readN S headsB).length,wrapL (putH (hdK P n (R++[row]) (R.length / P))))] else []
theorem div_full {P:Nat}{R:List (List UInt8)}{row:List UInt8}(hP:1≤P):(R++[row]).length / P=R.length / P+(if sealsP P R=true then 1 else 0):=by
  have h1:=Nat.div_add_mod R.length P
  have h2:=Nat.mod_lt R.length (show 0 < P by omega)
  rw [List.length_append,List.length_singleton]
  unfold sealsP
  by_cases h:R.length % P+1=P
  · rw [if_pos (decide_eq_true h)]
    have:R.length+1=P * (R.length / P+1):=by rw [Nat.mul_add]; omega
    rw [this,Nat.mul_div_cancel_left _ (by omega)]
  · rw [if_neg (by simp [h])]
    have e:(R.length+1) / P=R.length / P:=by
      generalize R.length / P=K at h1 ⊢
      refine Nat.div_eq_of_lt_le ?_ ?_
      · rw [Nat.mul_comm]; omega
      · rw [Nat.add_mul,Nat.mul_comm K]; omega
    rw [e,Nat.add_zero]
def wrStep (r:Nat) (x:FL × List (List UInt8 × Nat × List UInt8)) (e:List UInt8 × Nat × List UInt8):FL × List (List UInt8 × Nat × List UInt8) :=
  if wrR r x.1 e.1 e.2.1 e.2.2=0 then (setN e.1 (wrB (readN x.1 e.1) e.2.1 e.2.2) x.1,x.2++[(e.1,e.2.1,e.2.2)]) else x
def wrAll (r:Nat) (x:FL × List (List UInt8 × Nat × List UInt8)) (L:List (List UInt8 × Nat × List UInt8)):FL × List (List UInt8 × Nat × List UInt8):=L.foldl (wrStep r) x
def cnt0 (L:List (List UInt8 × Nat × List UInt8)):Nat:=(L.map fun e=>if e.2.1=0 then 1 else 0).sum
def sumS (L:List (List UInt8 × Nat × List UInt8)):Nat:=(L.map fun e=>e.2.2.length).sum
theorem cnt0_le (L:List (List UInt8 × Nat × List UInt8)):cnt0 L≤L.length:=by
  induction L with
  | nil => exact Nat.le_refl _
  | cons e L ih => unfold cnt0 at ih ⊢; simp only [List.map_cons,List.sum_cons,List.length_cons]; split <;> omega
theorem sumS_le {m:Nat}:∀ {L:List (List UInt8 × Nat × List UInt8)},(∀ e,e∈L→e.2.2.length≤m)→sumS L≤L.length * m
  | [],_ => by simp [sumS]
  | e :: L,h => by
    have h1:=h e (by simp)
    have h2:=sumS_le fun x hx=>h x (List.mem_cons_of_mem e hx)
    have h3:sumS (e :: L)=e.2.2.length+sumS L:=by simp [sumS]
    rw [h3,List.length_cons,Nat.add_mul]; omega
def appE (r P n:Nat) (S:FL) (R:List (List UInt8)) (row:List UInt8) (M:FL):Int :=
  if row=[]∨snapOk S [] M=false then 1
  else if 65536 < row.length then 4
  else if 4096 < S.length+cnt0 (actL P n S R row M) then 4
  else if r < sumB S+sumS (actL P n S R row M) then 6 else 0
theorem DInv.mono {r k k':Nat}{FS FK:List FileE}{W:List PendE}(h:DInv r k FS FK W) (hk:k≤k'):DInv r k' FS FK W :=
  ⟨⟨h.p.hr,h.p.dS,h.p.dK,h.p.fs,h.p.fk,h.p.used,by have:=h.lS; omega,by have:=h.lK; omega,by have:=h.wk; omega,h.p.w,h.p.grow⟩,h.lS,h.lK,Nat.le_trans h.wk hk⟩
def DkQ.lift {r k k':Nat}(q:DkQ r k) (hk:k≤k'):DkQ r k':=⟨q.FS,q.FK,q.W,q.a,q.pc,q.bs,q.bk,q.inv.mono hk⟩
def actF (S:FL) (K:Nat) (row:List UInt8):List UInt8 × Nat × List UInt8:=(nmB 115 (K:Int),(readN S (nmB 115 (K:Int))).length,wrapL row)
theorem OpOk.sliceLow {C:Ctx}{env:Env}{bx:Bx}{hp:List Seg}{S:Base}{o:Oper}{K:Value→Bx→List Seg→Prop}{t e:TypeId}{x i:Operand}{kk:IntKind}(gr:Option Nat) (n c A:Nat)
    (ho:o.op=.slice t x (some i) none none) (hx:Env.ev env x=some (sv gr n c)) (hi:Env.ev env i=some (.int kk (A:Int))) (ht:C.P.underlying t=some (.slice e)) (hs:szT C.P e=some 1) (hA:A≤n) (hn:n≤c) (hg:gr=none→c=0)
    (hK:∀ a,(a=piA gr A∨n - A=0)→(a=none→n - A=0)→K (.slice a (n - A) (c - A)) bx hp):OpOk C o env bx hp S K:=by
  cases gr with
  | none =>
    have hc:=hg rfl
    obtain rfl:c=0:=hc
    obtain rfl:n=0:=by omega
    obtain rfl:A=0:=by omega
    intro w hw ρ hρ
    refine .inl ⟨.slice none 0 0,w,bx,hp,.inl ?_,hw,hK none (.inr rfl) (fun _=>rfl)⟩
    unfold execOp
    simp only [ho,Option.map_some,Option.map_none,hρ _ _ hx,hρ _ _ hi]
    simp [Instr.sliceAt,run_underlying ht,Instr.slice,Instr.sliceBounds,Instr.sliceBound,asIntOf,szT_ok hs,Result.andThen,Addr.add,sv]
  | some g =>
    by_cases hAc:A=c
    · obtain rfl:A=n:=by omega
      subst hAc
      intro w hw ρ hρ
      refine .inl ⟨.slice (some ⟨g,0,none⟩) (A - A) (A - A),w,bx,hp,.inl ?_,hw,hK _ (.inr (Nat.sub_self A)) (fun h=>by cases h)⟩
      unfold execOp
      simp only [ho,Option.map_some,Option.map_none,hρ _ _ hx,hρ _ _ hi]
      simp [Instr.sliceAt,run_underlying ht,Instr.slice,Instr.sliceBounds,Instr.sliceBound,asIntOf,szT_ok hs,Result.andThen,Addr.add,sv]
    · intro w hw ρ hρ
      refine .inl ⟨.slice (some ⟨g,A,none⟩) (n - A) (c - A),w,bx,hp,.inl ?_,hw,hK _ (.inl rfl) (fun h=>by cases h)⟩
      unfold execOp
      simp only [ho,Option.map_some,Option.map_none,hρ _ _ hx,hρ _ _ hi]
      simp [Instr.sliceAt,run_underlying ht,Instr.slice,Instr.sliceBounds,Instr.sliceBound,asIntOf,szT_ok hs,Result.andThen,Addr.add,sv,hA,Ne.symm hAc]
      exact fun h=>h.symm
theorem Tryz.lgActs_w {r kq:Nat}(lg d P n cr ch:Nat) (c3 c4:Int) (gr gh:Option Nat) (R:List (List UInt8)) (row:List UInt8) (q:DkQ r kq) (M:FL) (ma:Option Addr) (mc:Nat) (w:World) (hm:mayCf P n c3 c4=true) (eR:R.length≤100000) (hx:∀ x,x∈R→x.length≤65536) (hrow:1≤row.length∧row.length≤65536) (eM:M.length≤60) (hr:SlOk w ma (fl M))
    (hlg:SlOk w (some ⟨lg,0,none⟩) (lgV d P n c3 c4 (sv gr R.length cr) (sv gh (R.length / P) ch))) (hro:rowOk w gr 9 1 R.length cr (R.map str)) (hrh:SlOk w (svA gh) ((hdsB P n R (R.length / P)).flatMap hdC)) (hok:(Tryz.dkS d q).ok w) (hd:∀ x,x∈kys [] [Tryz.dkS d q]→x < w.heap.size) (hT:Tryz.Tabs w) :
    Tri Tryz.prog 58 [.pointer (some ⟨lg,0,none⟩),str row,.slice ma M.length mc] w [] (fun v bx hp=>∃ (g:Option Nat) (c:Nat),v=sv g (actL P n q.S R row M).length c∧bx=[]∧hp=[Seg.row g 107 3 (actL P n q.S R row M).length c ((actL P n q.S R row M).flatMap wrL)]):=by
  have hin:=mayCf_in hm
  have hKl:=Nat.div_le_self R.length P
  have hmay:∀ k,k < R.length / P→mayH (hdK P n R k) n=true:=fun k hk=>hdK_may (by omega) (by omega) (by omega) (fun x h=>by have:=hx x h; omega) ((Nat.le_div_iff_mul_le (by omega)).1 hk)
  have hq0:Int.tdiv ((R.length:Nat):Int) (P:Int)=((R.length / P:Nat):Int):=(Int.ofNat_tdiv _ _).symm
  have hq1:((R.length:Nat):Int) / (P:Int)=((R.length / P:Nat):Int):=(Int.natCast_ediv _ _).symm
  obtain⟨K,hK⟩:∃ K,R.length / P=K:=⟨_,rfl⟩
  rw [hK] at hq0 hq1 hKl hlg hrh hmay
  have fR:∀ (m:List UInt8) {bx:Bx}{hp:List Seg},CallOb Tryz.prog ⟨w,kys [] []⟩ bx hp 24 [.pointer (some ⟨d,0,none⟩),str m] (str (readN q.S m)):=fun m {_ _} w' hw'=>Tryz.qRead_w d q m w' ((Tryz.dkS d q).loc w w' (fun k hk=>hw'.ext.block k (hd k (mem_kys_hp (List.mem_singleton.2 rfl) hk)) (by simp [kys])) hok)
  have fN:∀ {bx:Bx}{hp:List Seg},CallOb Tryz.prog ⟨w,kys [] []⟩ bx hp 88 [.int .i64 (K:Int)] (str (nmB 115 (K:Int))):=fun {_ _} w' hw'=>Tryz.shSegment_w _ w' (by simp only [inK]; omega) (Tryz.tabs_ext0 hT hw'.ext).2
  have fW:∀ {S:Base}{bx:Bx}{hp:List Seg},CallOb Tryz.prog S bx hp 95 [str row] (str (wrapL row)):=fun {_ _ _} w2 _=>Tryz.framed_w row w2 hrow
  have fHs:∀ {bx:Bx}{hp:List Seg},CallOb Tryz.prog ⟨w,kys [] []⟩ bx hp 21 [.pointer (some ⟨lg,0,none⟩)] (str (prevB P n R K)):=fun {_ _} w' hw'=>Tryz.lgHash_w lg d P n K ch c3 c4 R _ (svA gh) w' (by omega) (by omega) hmay (hlg.ext hw'.ext (by simp [kys])) (hrh.ext hw'.ext (by simp [kys])) (Tryz.tabs_ext0 hT hw'.ext)
  have hl0:=fun m=>(DkQ.fok q).read m
  refine Tri.enter (bx:=[]) (hp:=[]) Tryz.func58 rfl (by kernel_rfl) rfl (Own.nil w) ?_
  refine At.go [] [] rfl (by and_intros <;> first | exact rdM hlg (by simp [kys]) 5 rfl | exact rdM hlg (by simp [kys]) 1 rfl | omega | (simp only; rw [hq0]; omega) | exact oK) ?_
  refine At.qt [] [hR [.slice (svA gr) R.length cr],hR [.int .i64 ↑P]] rfl rfl (by and_intros <;> first | exact rdM hlg (by simp [kys]) 5 rfl | exact rdM hlg (by simp [kys]) 1 rfl | omega | (simp only; rw [hq0]; omega) | exact oK) ?_
  refine At.gn 2 [] [] rfl (by and_intros <;> first | exact rdM hlg (by simp [kys]) 5 rfl | exact rdM hlg (by simp [kys]) 1 rfl | omega | (simp only; rw [hq0]; omega) | exact oK) ?_
  first | rw [hq0] | rw [hq1]
  refine At.go [] [hC (.string { data:=(nmB 115 ↑K).toArray }),hR [.pointer (some ⟨d,0,none⟩)],hC (.string { data:=(readN q.S (nmB 115 ↑K)).toArray }),hC (.string { data:=(wrapL row).toArray })] rfl (by and_intros <;> first | exact fN | exact fR _ | exact fW | exact rdM hlg (by simp [kys]) 0 rfl | exact oK) ?_
  rw [bl_of]
  refine At.step [] rfl rfl rfl rfl rfl trivial (OpOk.buildSlice rfl rfl rfl rfl rfl rfl rfl (fun bs hbs=>?_))
  refine At.boxRowN 3 rfl (by decide) ?_
  refine At.go [] [] rfl oK ?_
  refine At.loop (env0:=[(0,.pointer (some ⟨lg,0,none⟩)),(1,.string { data:=row.toArray }),(7,.int .i64 ↑K),(9,.slice (some ⟨bs,0,none⟩) 1 1),(39,.slice ma (List.length M) mc),(40,.int .i64 ↑(List.length M)),(41,.int .i64 0)]) (fun m_ env bx hp => ∃ (i:Nat) (g:Option Nat) (c:Nat) (L:List (List UInt8 × Nat × List UInt8)),m_=M.length - i∧(i≤M.length)∧(L=actF q.S K row :: (M.take i).map (fun p => (p.1,0,p.2)))∧env=[(0,.pointer (some ⟨lg,0,none⟩)),(1,.string { data:=row.toArray }),(7,.int .i64 ↑K),(9,sv g L.length c),(39,.slice ma (List.length M) mc),(40,.int .i64 ↑(List.length M)),(41,.int .i64 (i:Int))]∧bx=[]∧hp=[Seg.row g 107 3 L.length c (L.flatMap wrL)]) rfl
    ⟨0,some bs,1,[actF q.S K row],rfl,(Nat.zero_le _),(by simp),rfl,rfl,rfl⟩ sB ?_
  rintro m_ env bx hp ⟨i,g,c,L,rfl,hi,eL,rfl,rfl,rfl⟩ ih
  by_cases hlt:i < M.length
  · obtain⟨p,hp⟩:∃ p,M[i]?=some p:=⟨_,List.getElem?_eq_getElem hlt⟩
    have hne:M≠[]:=by intro h; rw [h] at hlt; simp at hlt
    obtain⟨g0,o,rfl,hc⟩:=hr.get (fl_ne hne)
    have rE:∀ {bx:Bx}{hp:List Seg},RdW ⟨w,kys [] []⟩ bx hp g0 (o+(i:Int).toNat * 2) [str p.1,str p.2]:=fun {_ _}=>RdW.fileE hc (by simp [kys]) hp (by omega)
    have hLl:L.length=i+1:=by rw [eL,List.length_cons,List.length_map,List.length_take]; omega
    refine At.go [true] [hR [.string { data:=p.fst.toArray },.string { data:=p.snd.toArray }]] rfl (by and_intros <;> first | exact decide_eq_true (by omega) | exact rE | omega | (simp; done) | exact oK) ?_
    refine At.al fun b11 hb11=>?_
    refine At.go [] [hB 0,hB 0,hB 0] rfl (by and_intros <;> first | exact decide_eq_true (by omega) | exact rE | omega | (simp [Value.oneCell']; done) | exact oK) ?_
    refine At.a1 0 3 40 fun b51 a52 c52=>?_
    refine At.go [] [] rfl (by and_intros <;> first | exact decide_eq_true (by omega) | exact rE | omega | (simp; done) | exact oK) ?_
    have e1:(L++[(p.1,0,p.2)]).length=L.length+1:=by simp
    have e2:(L++[(p.1,0,p.2)]).flatMap wrL=L.flatMap wrL++[.string ⟨p.1.toArray⟩,.int .i64 0,.string ⟨p.2.toArray⟩]:=by rw [List.flatMap_append]; rfl
    have e3:L++[(p.1,0,p.2)]=actF q.S K row :: (M.take (i+1)).map (fun p=>(p.1,0,p.2)):=by rw [eL,List.take_add_one,hp,List.map_append]; rfl
    rw [← e1,← e2]
    refine At.keep [false] [true] rfl ?_
    exact At.weak (ih _ _ _ _ (by omega) ⟨i+1,a52,c52,L++[(p.1,0,p.2)],rfl,by omega,e3,rfl,rfl,rfl⟩) sB
  · obtain rfl:i=M.length:=by omega
    rw [List.take_length] at eL
    have hLl:L.length=M.length+1:=by rw [eL,List.length_cons,List.length_map]
    have eA:actL P n q.S R row M=L++if sealsP P R=true then [(headsB,(readN q.S headsB).length,wrapL (putH (hdK P n (R++[row]) K)))] else []:=by unfold actL; rw [hK,eL]; rfl
    have hd1:=Nat.div_add_mod R.length P
    have hd2:=Nat.mod_lt R.length (show 0 < P by omega)
    rw [hK] at hd1
    have hcr:=hro.le
    obtain⟨A,hA⟩:∃ A,K * P=A:=⟨_,rfl⟩
    have hA2:P * K=A:=by rw [Nat.mul_comm]; exact hA
    rw [hA2] at hd1
    have hAI:(K:Int) * (P:Int)=(A:Int):=by rw [← hA]; simp
    have hrs:SlOk w (svA gr) (R.map str):=SlOk.row hro
    obtain⟨T,hT2⟩:∃ T,R.drop A=T:=⟨_,rfl⟩
    have hTl:T.length=R.length - A:=by rw [← hT2,List.length_drop]
    have hTs:∀ w' a,Ext [] w w'→(a=piA gr A∨R.length - A=0)→SlOk w' a (T.map str):=fun w' a he ha=>by
      rcases ha with rfl | ha
      rotate_left
      · have:T=[]:=List.length_eq_zero_iff.1 (by omega)
        rw [this]; exact SlOk.nil _ _
      have h0:=hrs.ext he (by simp)
      cases gr with
      | none =>
        have:=hro.nil rfl
        have:T=[]:=List.length_eq_zero_iff.1 (by omega)
        rw [this]; exact SlOk.nil _ _
      | some g1 =>
        have:=SlOk.rowsD A h0
        rw [Nat.zero_add,hT2] at this; exact this
    refine At.gn 10 [false] [] rfl (by and_intros <;> first | exact decide_eq_false (by omega) | exact oK) ?_
    refine At.cutS (ι:=Option Nat × Nat) ⟨1,[0,1,1,1,1,1],[]⟩ (fun e=>[(0,.pointer (some ⟨lg,0,none⟩)),(7,.int .i64 K),(9,sv g L.length c),(12,sv e.1 (T.length+1) e.2)]) (fun _=>[]) (fun e=>[Seg.row e.1 9 1 (T.length+1) e.2 (T.map str++[str row]),Seg.row g 107 3 L.length c (L.flatMap wrL)]) ?_ fun hz=>?_
    rotate_left
    · refine At.dr 17 ?_
      refine AtH.readsK [] [false] [0,1,2,3,4,5,6,7,8,9,10,13] [hR [sv gr R.length cr],hR [.int .i64 P]] rfl rfl (by and_intros <;> first | exact rdM hlg (by simp [kys]) 5 rfl | exact rdM hlg (by simp [kys]) 1 rfl | omega | (simp only; rw [hAI]; omega) | (rw [hAI]; omega) | exact oK) rfl rfl (fuel:=5) ?_
      rw [hAI]
      refine AtH.fork2 11 14 (by kernel_rfl) rfl rfl rfl rfl rfl rfl (OpOk.sliceLow gr R.length cr A rfl rfl rfl rfl rfl (by omega) hcr hro.nil fun a ha han =>⟨fun w hw=>hw.selK [] [false],?_⟩) (OpOk.buildSlice rfl rfl rfl rfl rfl rfl rfl fun b68 hb68 =>⟨fun w hw=>hw.selK [false] [false],?_⟩) 
      · rw [← hTl]
        refine AtH.fork2 12 14 (by kernel_rfl) rfl rfl rfl rfl rfl rfl (OpOk.call rfl (fun w' hw'=>Tryz.cloneS_w T a (cr - A) w' (by omega) (fun e=>by rw [hTl]; exact han e) (hTs w' a hw'.ext ha)) ?_) (OpOk.buildSlice rfl rfl rfl rfl rfl rfl rfl fun b68 hb68 =>⟨fun w hw=>hw.selK [false] [false],?_⟩) 
        · rintro _ _ _ ⟨a1,c1,rfl,rfl,rfl⟩
          refine⟨fun w hw=>hw.selK [] [false,false],?_⟩
          refine AtH.f1 14 rfl (OpOk.buildSlice rfl rfl rfl rfl rfl rfl rfl fun b68 hb68 =>⟨fun w hw=>hw.selK [false] [false,false],?_⟩)
          refine AtH.f1 15 rfl (OpOk.appendS (m:=1) 0 1 16 [str row] rfl rfl rfl rfl rfl rfl rfl rfl (fun w' hw'=>SlOk.blk (hw'.bx _ (nth_mem (i:=0) rfl))) rfl (by simp [Value.oneCell',str]) (by omega) (by omega) fun a2 c2 =>⟨fun w hw=>hw.selK [false] [false,false],?_⟩)
          refine AtH.f1 16 rfl (OpOk.one true [] [] rfl oK ⟨fun w hw=>hw.selK [false] [false,false],?_⟩)
          refine AtH.dn ?_
          refine At.keep [false] [true,true] rfl ?_
          exact At.weak (hz (a2,c2)) sB
        · refine AtH.f1 12 rfl (OpOk.call rfl (fun w' hw' => Tryz.cloneS_w T a (cr - A) w' (by omega) (fun e => by rw [hTl]; exact han e) (hTs w' a hw'.ext ha)) ?_)
          rintro _ _ _ ⟨a1,c1,rfl,rfl,rfl⟩
          refine⟨fun w hw=>hw.selK [false] [false,false],?_⟩
          refine AtH.f1 15 rfl (OpOk.appendS (m:=1) 0 1 16 [str row] rfl rfl rfl rfl rfl rfl rfl rfl (fun w' hw'=>SlOk.blk (hw'.bx _ (nth_mem (i:=0) rfl))) rfl (by simp [Value.oneCell',str]) (by omega) (by omega) fun a2 c2 =>⟨fun w hw=>hw.selK [false] [false,false],?_⟩)
          refine AtH.f1 16 rfl (OpOk.one true [] [] rfl oK ⟨fun w hw=>hw.selK [false] [false,false],?_⟩)
          refine AtH.dn ?_
          refine At.keep [false] [true,true] rfl ?_
          exact At.weak (hz (a2,c2)) sB
      · refine AtH.f1 11 rfl (OpOk.sliceLow gr R.length cr A rfl rfl rfl rfl rfl (by omega) hcr hro.nil fun a ha han =>⟨fun w hw => hw.selK [false] [false],?_⟩)
        rw [← hTl]
        refine AtH.f1 12 rfl (OpOk.call rfl (fun w' hw'=>Tryz.cloneS_w T a (cr - A) w' (by omega) (fun e=>by rw [hTl]; exact han e) (hTs w' a hw'.ext ha)) ?_)
        rintro _ _ _ ⟨a1,c1,rfl,rfl,rfl⟩
        refine⟨fun w hw=>hw.selK [false] [false,false],?_⟩
        refine AtH.f1 15 rfl (OpOk.appendS (m:=1) 0 1 16 [str row] rfl rfl rfl rfl rfl rfl rfl rfl (fun w' hw'=>SlOk.blk (hw'.bx _ (nth_mem (i:=0) rfl))) rfl (by simp [Value.oneCell',str]) (by omega) (by omega) fun a2 c2 =>⟨fun w hw=>hw.selK [false] [false,false],?_⟩)
        refine AtH.f1 16 rfl (OpOk.one true [] [] rfl oK ⟨fun w hw=>hw.selK [false] [false,false],?_⟩)
        refine AtH.dn ?_
        refine At.keep [false] [true,true] rfl ?_
        exact At.weak (hz (a2,c2)) sB
    rintro⟨a12,c12⟩
    dsimp only
    have hTm:T.length=R.length % P:=by rw [hTl]; omega
    by_cases hse:sealsP P R=true
    · have hs1:R.length % P+1=P:=by simpa [sealsP] using hse
      rw [if_pos hse] at eA
      refine At.gn 8 [true] [hR [.int .i64 ↑P]] rfl (by and_intros <;> first | exact rdM hlg (by simp [kys]) 1 rfl | exact decide_eq_true (by omega) | exact oK) ?_
      refine At.rowCap 0 rfl fun hca=>?_
      have hseg:segK P (R++[row]) K=T++[row]:=by
        unfold segK
        rw [hA,List.drop_append_of_le_length (by omega),hT2,List.take_of_length_le (by rw [List.length_append,List.length_singleton]; omega)]
      have hxk:hdK P n (R++[row]) K=⟨K,A,P,sumL (T++[row]),prevB P n R K,rootB n (T++[row])⟩:=by
        unfold hdK mkH
        rw [hseg,hA,prevB_app K (by omega)]
      have hTx:∀ x,x∈T++[row]→x.length≤100000:=fun x h=>by
        rcases List.mem_append.1 h with h | h
        · have:=hx x (List.mem_of_mem_drop (hT2 ▸ h)); omega
        · simp only [List.mem_singleton] at h; subst h; omega
      have hmx:mayH (hdK P n (R++[row]) K) n=true:=hdK_may (by omega) (by omega) (by rw [List.length_append,List.length_singleton]; omega) (fun x h=>by
        rcases List.mem_append.1 h with h | h
        · have:=hx x h; omega
        · simp only [List.mem_singleton] at h; subst h; omega) (by rw [List.length_append,List.length_singleton,Nat.add_mul,hA]; omega)
      obtain⟨x,hxe⟩:∃ x,hdK P n (R++[row]) K=x:=⟨_,rfl⟩
      rw [hxe] at hxk hmx eA
      have hTT:T.map str++[str row]=(T++[row]).map str:=by simp
      have hTTl:(T++[row]).length=T.length+1:=by simp
      have fHdr:∀ {bx:Bx}{hp:List Seg},nth hp 0=some (Seg.row a12 9 1 (T.length+1) c12 (T.map str++[str row]))→CallOb Tryz.prog ⟨w,kys [] []⟩ bx hp 9 [.agg ⟨[.int .i64 P,.int .i64 n,.int .i64 c3,.int .i64 c4]⟩,.int .i64 K,.int .i64 A,str (prevB P n R K),.slice (svA a12) (T.length+1) c12] (.agg ⟨hdC x⟩):=fun {_ _} h w' hw'=>by
        have h0:=SlOk.row (hw'.hp _ (nth_mem h))
        rw [hTT] at h0
        have:=Tryz.Header_w P n c3 c4 K A (prevB P n R K) (T++[row]) (svA a12) c12 w' hm (by omega) (by omega) hTx h0 (Tryz.sha_ext hT.1 hw'.ext)
        rw [hTTl,show ((T.length+1:Nat):Int)=(P:Int) by omega] at this
        rw [hxk]; exact this
      have hps:=putH_short hmx (by omega)
      have fP:∀ {S:Base}{bx:Bx}{hp:List Seg},CallOb Tryz.prog S bx hp 96 [.agg ⟨hdC x⟩] (str (putH x)):=fun {_ _ _} w2 _=>Tryz.hPut_w x n w2 hmx (by omega)
      have fW2:∀ {S:Base}{bx:Bx}{hp:List Seg},CallOb Tryz.prog S bx hp 95 [str (putH x)] (str (wrapL (putH x))):=fun {_ _ _} w2 _=>Tryz.framed_w (putH x) w2 hps
      have fHd:∀ {S:Base}{bx:Bx}{hp:List Seg},CallOb Tryz.prog S bx hp 98 [] (str headsB):=fun {_ _ _} w2 _=>Tryz.shHeads_w w2
      refine At.cutS (ι:=Nat) ⟨1,[0,0,1,0,1,1,1,1,1,1],[]⟩ (fun b=>[(0,.pointer (some ⟨lg,0,none⟩)),(9,sv g L.length c),(13,.pointer (some ⟨b,0,none⟩))]) (fun b=>[(b,28,hdC x)]) (fun _=>[Seg.row a12 9 1 (T.length+1) c12 (T.map str++[str row]),Seg.row g 107 3 L.length c (L.flatMap wrL)]) ?_ fun hz=>?_
      rotate_left
      · refine At.dr 18 ?_
        refine AtH.readsK [] [true,false] [0,1,2,3,4,5,6,7,8,9,10,11,12,14] [hR [.int .i64 P,.int .i64 n,.int .i64 c3,.int .i64 c4],hR [.int .i64 P]] rfl rfl (by and_intros <;> first | exact rdM hlg (by simp [kys]) 1 rfl | exact rdMs hlg (by simp [kys]) 1 (by simp [lgV]) (fun j u hu=>by match j,hu with | 0,hu=>exact hu | 1,hu=>exact hu | 2,hu=>exact hu | 3,hu=>exact hu) | omega | (simp only; rw [hAI]; omega) | (rw [hAI]; omega) | exact oK) rfl rfl (fuel:=4) ?_
        rw [hAI]
        refine AtH.fork2 13 16 (by kernel_rfl) rfl rfl rfl rfl rfl rfl (OpOk.one true [] [hC (str (prevB P n R K))] rfl fHs ⟨fun w hw=>hw.selK [] [true,false],?_⟩) (OpOk.alloc rfl rfl fun b13 hb13 =>⟨fun w hw=>hw.selK [false] [true,false],?_⟩)
        · refine AtH.fork2 15 16 (by kernel_rfl) rfl rfl rfl rfl rfl rfl (OpOk.one true [] [hC (.agg ⟨hdC x⟩)] rfl (fHdr rfl) ⟨fun w hw => hw.selK [] [true,false],?_⟩) (OpOk.alloc rfl rfl fun b13 hb13 =>⟨fun w hw => hw.selK [false] [true,false],?_⟩)
          · refine AtH.f1 16 rfl (OpOk.alloc rfl rfl fun b13 hb13 =>⟨fun w hw => hw.selK [false] [true,false],?_⟩)
            refine AtH.f1 17 rfl (OpOk.one true [] [hB 0] rfl ⟨rfl,hdC_one _⟩ ⟨fun w hw=>hw.selK [false] [true,false],?_⟩)
            refine AtH.dn ?_
            exact At.weak (hz b13) sB
          · refine AtH.f1 15 rfl (OpOk.one true [] [hC (.agg ⟨hdC x⟩)] rfl (fHdr rfl) ⟨fun w hw => hw.selK [false] [true,false],?_⟩)
            refine AtH.f1 17 rfl (OpOk.one true [] [hB 0] rfl ⟨rfl,hdC_one _⟩ ⟨fun w hw=>hw.selK [false] [true,false],?_⟩)
            refine AtH.dn ?_
            exact At.weak (hz b13) sB
        · refine AtH.f1 13 rfl (OpOk.one true [] [hC (str (prevB P n R K))] rfl fHs ⟨fun w hw => hw.selK [false] [true,false],?_⟩)
          refine AtH.f1 15 rfl (OpOk.one true [] [hC (.agg ⟨hdC x⟩)] rfl (fHdr rfl) ⟨fun w hw=>hw.selK [false] [true,false],?_⟩)
          refine AtH.f1 17 rfl (OpOk.one true [] [hB 0] rfl ⟨rfl,hdC_one _⟩ ⟨fun w hw=>hw.selK [false] [true,false],?_⟩)
          refine AtH.dn ?_
          exact At.weak (hz b13) sB
      rintro b13
      refine At.gn 1 [] [] rfl (by and_intros <;> first | exact trivial | exact oK) ?_
      refine At.dr 16 ?_
      refine AtH.readsK [true] [false,false] [0,2,3,4,5,9] [hR [.pointer (some ⟨d,0,none⟩)],hB 0] rfl rfl (by and_intros <;> first | exact rdM hlg (by simp [kys]) 0 rfl | exact oK) rfl rfl (fuel:=10) ?_
      refine AtH.f1 1 rfl (OpOk.one true [] [hC (str headsB)] rfl fHd ⟨fun w hw=>hw.selK [true] [false,false],?_⟩)
      refine AtH.f1 6 rfl (OpOk.one true [] [hC (str headsB)] rfl fHd ⟨fun w hw=>hw.selK [true] [false,false],?_⟩)
      refine AtH.f1 7 rfl (OpOk.one true [] [hC (str (readN q.S headsB))] rfl (fR headsB) ⟨fun w hw=>hw.selK [true] [false,false],?_⟩)
      refine AtH.reK [8] [] rfl oK rfl rfl (fuel:=6) ?_
      refine AtH.f1 10 rfl (OpOk.one true [] [hC (str (putH x))] rfl fP ⟨fun w hw=>hw.selK [true] [false,false],?_⟩)
      refine AtH.f1 11 rfl (OpOk.one true [] [hC (str (wrapL (putH x)))] rfl fW2 ⟨fun w hw=>hw.selK [true] [false,false],?_⟩)
      refine AtH.f1 12 rfl (OpOk.one true [] [] rfl oK ⟨fun w hw=>hw.selK [true] [false,false],?_⟩)
      rw [bl_of]
      refine AtH.f1 13 rfl (OpOk.buildSlice rfl rfl rfl rfl rfl rfl rfl fun b107 hb107 =>⟨fun w hw=>hw.selK [false,true] [false,false],?_⟩)
      refine AtH.f1 14 rfl (OpOk.appendS (m:=1) 1 3 40 [str headsB,.int .i64 ((readN q.S headsB).length:Nat),str (wrapL (putH x))] rfl rfl rfl rfl rfl rfl rfl rfl (fun w' hw'=>SlOk.blk (hw'.bx _ (nth_mem (i:=0) rfl))) rfl (by simp [Value.oneCell',str]) (by omega) (by omega) fun a2 c2 =>⟨fun w hw=>hw.selK [false,true] [false,false],?_⟩)
      refine AtH.f1 15 rfl (OpOk.one true [] [] rfl oK ⟨fun w hw=>hw.selK [false,true] [false,false],?_⟩)
      refine AtH.dn ?_
      refine At.go [] [] rfl oK ?_
      rw [eA]
      refine At.rt [] [false,true] [] Tryz.func58 ?_
      exact⟨a2,c2,by rw [List.length_append]; rfl,rfl,by rw [List.length_append,List.flatMap_append]; rfl⟩
    · have hs1:¬ R.length % P+1=P:=by simpa [sealsP] using hse
      rw [if_neg hse,List.append_nil] at eA
      refine At.go [false] [hR [.int .i64 ↑P]] rfl (by and_intros <;> first | exact rdM hlg (by simp [kys]) 1 rfl | exact decide_eq_false (by omega) | exact oK) ?_
      rw [eA]
      refine At.rt [] [false,true] [] Tryz.func58 ?_
      exact⟨g,c,rfl,rfl,rfl⟩
theorem nmB_few {c:UInt8}{k:Nat}(hk:k≤1099511627776):(nmB c (k:Int)).length≤100:=by
  rw [nmB_of (by omega)]
  have:=dd_len 18 k (by rw [show (10:Nat) ^ (18+1)=10000000000000000000 by decide]; omega)
  simp only [List.length_cons]; omega
theorem actL_in {P n:Nat}{S:FL}{R:List (List UInt8)}{row:List UInt8}{M:FL}{m:Nat}(hS:∀ x,(readN S x).length≤1048576) (hrow:row.length≤65536) (hM:∀ p,p∈M→p.2.length≤9000) (hN:∀ p,p∈M→p.1.length≤m) (hm:100≤m) (hmx:sealsP P R=true→mayH (hdK P n (R++[row]) (R.length / P)) n=true) (hn:n≤32) (hk:R.length / P≤1000000) :
    (actL P n S R row M).length≤M.length+2∧∀ e,e∈actL P n S R row M→e.2.2.length≤70000∧e.2.1≤1048576∧e.1.length≤m:=by
  have hw:=wrapL_len row
  have hnl:=numL_len10 row.length (by omega)
  unfold actL
  refine⟨?_,fun e he=>?_⟩
  · rw [List.cons_append,List.length_cons,List.length_append,List.length_map]
    split <;> simp only [List.length_cons,List.length_nil] <;> omega
  · rcases List.mem_append.1 he with he | he
    · rcases List.mem_cons.1 he with rfl | he
      · exact⟨by show (wrapL row).length≤_; omega,hS _,by have:=nmB_few (c:=115) (k:=R.length / P) (by omega); show (nmB 115 ((R.length / P:Nat):Int)).length≤m; omega⟩
      · obtain⟨p,hp,rfl⟩:=List.mem_map.1 he
        exact⟨by have:=hM p hp; show p.2.length≤_; omega,Nat.zero_le _,hN p hp⟩
    · by_cases hs:sealsP P R=true
      · rw [if_pos hs] at he
        simp only [List.mem_singleton] at he
        subst he
        have h1:=putH_124 (hmx hs) hn
        have h2:=wrapL_len (putH (hdK P n (R++[row]) (R.length / P)))
        have h3:=numL_len10 (putH (hdK P n (R++[row]) (R.length / P))).length (by omega)
        exact⟨by show (wrapL _).length≤_; omega,hS _,by show headsB.length≤m; have:headsB.length=5:=rfl; omega⟩
      · rw [if_neg hs] at he; cases he
theorem Tryz.lgAppend_w {r kq:Nat}(lg d P n cr ch:Nat) (c3 c4:Int) (gr gh:Option Nat) (R:List (List UInt8)) (row:List UInt8) (q:DkQ r kq) (M:FL) (ma:Option Addr) (mc:Nat) (w:World) (hm:mayCf P n c3 c4=true) (eR:R.length≤90000) (hx:∀ x,x∈R→1≤x.length∧x.length≤65536) (hrl:row.length≤9223372036854775807) (eM:M.length≤60) (hMb:∀ p,p∈M→p.2.length≤9000) (hMn:∀ p,p∈M→p.1.length≤9223372036854775807) (hr:SlOk w ma (fl M)) (hkq:kq≤800000)
    (hrm:∀ x,x∈slR ma (fl M)→x ∉ kys [(lg,98,lgV d P n c3 c4 (sv gr R.length cr) (sv gh (R.length / P) ch))] [Seg.row gr 9 1 R.length cr (R.map str),Seg.row gh 28 6 (R.length / P) ch ((hdsB P n R (R.length / P)).flatMap hdC),Tryz.dkS d q])
    (hT:Tryz.Tabs w) (hTk:∀ x,x∈Tryz.tabG→x ∉ kys [(lg,98,lgV d P n c3 c4 (sv gr R.length cr) (sv gh (R.length / P) ch))] [Seg.row gr 9 1 R.length cr (R.map str),Seg.row gh 28 6 (R.length / P) ch ((hdsB P n R (R.length / P)).flatMap hdC),Tryz.dkS d q])
    (hown:Own [(lg,98,lgV d P n c3 c4 (sv gr R.length cr) (sv gh (R.length / P) ch))] [Seg.row gr 9 1 R.length cr (R.map str),Seg.row gh 28 6 (R.length / P) ch ((hdsB P n R (R.length / P)).flatMap hdC),Tryz.dkS d q] w) :
    Tri Tryz.prog 23 [.pointer (some ⟨lg,0,none⟩),str row,.slice ma M.length mc] w (kys [(lg,98,lgV d P n c3 c4 (sv gr R.length cr) (sv gh (R.length / P) ch))] [Seg.row gr 9 1 R.length cr (R.map str),Seg.row gh 28 6 (R.length / P) ch ((hdsB P n R (R.length / P)).flatMap hdC),Tryz.dkS d q])
      (fun v bx hp => v=.int .i64 (appE r P n q.S R row M)∧∃ (R':List (List UInt8)) (g:Option Nat) (c:Nat) (g2:Option Nat) (c2:Nat) (q':DkQ r (kq+62)),bx=[(lg,98,lgV d P n c3 c4 (sv g R'.length c) (sv g2 (R'.length / P) c2))]∧hp=[Seg.row g 9 1 R'.length c (R'.map str),Seg.row g2 28 6 (R'.length / P) c2 ((hdsB P n R' (R'.length / P)).flatMap hdC),Tryz.dkS d q']∧q'.K=q.K ∧
        if appE r P n q.S R row M=0 then R'=R++[row]∧(q'.S,q'.P)=wrAll r (q.S,q.P) (actL P n q.S R row M) else R'=R∧q'.S=q.S∧q'.P=q.P):=by
  have hin:=mayCf_in hm
  have htl:=Tryz.tabs_lt hT
  refine Tri.enter Tryz.func23 rfl (by kernel_rfl) rfl hown ?_
  have fSn:∀ {bx:Bx}{hp:List Seg},nth bx 0=some (lg,98,lgV d P n c3 c4 (sv gr R.length cr) (sv gh (R.length / P) ch))→nth hp 2=some (Tryz.dkS d q)→CallOb Tryz.prog ⟨w,kys [(lg,98,lgV d P n c3 c4 (sv gr R.length cr) (sv gh (R.length / P) ch))] [Seg.row gr 9 1 R.length cr (R.map str),Seg.row gh 28 6 (R.length / P) ch ((hdsB P n R (R.length / P)).flatMap hdC),Tryz.dkS d q]⟩ bx hp 57 [.pointer (some ⟨lg,0,none⟩),.slice ma M.length mc] (.bool (snapOk q.S [] M)):=fun {_ _} h1 h2 w' hw' =>
    Tryz.lgSnaps_w lg d P n c3 c4 _ _ q M ma mc w' eM (SlOk.extR hr hw'.ext hrm) (fun p hp =>⟨hMn p hp,by have:=hMb p hp; omega⟩) (SlOk.blk (hw'.bx _ (nth_mem h1))) (hw'.hp _ (nth_mem h2)) (fun x hx=>hw'.lt x (mem_kys_hp (nth_mem h2) (by simpa [kys] using hx)))
  have hsame:∀ e:Int,e≠0→appE r P n q.S R row M=e→∀ (v:Value) bx hp,v=.int .i64 e→bx=[(lg,98,lgV d P n c3 c4 (sv gr R.length cr) (sv gh (R.length / P) ch))]→hp=[Seg.row gr 9 1 R.length cr (R.map str),Seg.row gh 28 6 (R.length / P) ch ((hdsB P n R (R.length / P)).flatMap hdC),Tryz.dkS d q] →
      (v=.int .i64 (appE r P n q.S R row M)∧∃ (R':List (List UInt8)) (g:Option Nat) (c:Nat) (g2:Option Nat) (c2:Nat) (q':DkQ r (kq+62)),bx=[(lg,98,lgV d P n c3 c4 (sv g R'.length c) (sv g2 (R'.length / P) c2))]∧hp=[Seg.row g 9 1 R'.length c (R'.map str),Seg.row g2 28 6 (R'.length / P) c2 ((hdsB P n R' (R'.length / P)).flatMap hdC),Tryz.dkS d q']∧q'.K=q.K ∧
        if appE r P n q.S R row M=0 then R'=R++[row]∧(q'.S,q'.P)=wrAll r (q.S,q.P) (actL P n q.S R row M) else R'=R∧q'.S=q.S∧q'.P=q.P):=fun e h0 he v bx hp hv hb hh =>
    ⟨by rw [hv,he],R,gr,cr,gh,ch,q.lift (by omega),hb,hh,rfl,by rw [if_neg (by rw [he]; exact h0)]; exact⟨rfl,rfl,rfl⟩⟩
  by_cases h0:row=[]
  · have he:appE r P n q.S R row M=1:=by unfold appE; rw [if_pos (.inl h0)]
    refine At.go [false,true,true] [] rfl (by and_intros <;> first | (simp only [bl_of]; simp [h0]; done) | exact oK) ?_
    refine At.rt [true] [true,true,true] [] Tryz.func23 ?_
    exact hsame 1 (by decide) he _ _ _ rfl rfl rfl
  by_cases hs:snapOk q.S [] M=false
  · have he:appE r P n q.S R row M=1:=by unfold appE; rw [if_pos (.inr hs)]
    rw [hs] at fSn
    refine At.go [false,false,true] [hC (.bool false)] rfl (by and_intros <;> first | exact fSn rfl rfl | (simp only [bl_of]; simp [h0]; done) | (simp; done) | exact oK) ?_
    refine At.rt [true] [true,true,true] [] Tryz.func23 ?_
    exact hsame 1 (by decide) he _ _ _ rfl rfl rfl
  have hs1:snapOk q.S [] M=true:=by simpa using hs
  rw [hs1] at fSn
  by_cases hrow:65536 < row.length
  · have he:appE r P n q.S R row M=4:=by unfold appE; rw [if_neg (by simp [h0,hs1]),if_pos hrow]
    refine At.go [false,false,false,true] [hC (.bool true)] rfl (by and_intros <;> first | exact fSn rfl rfl | (simp only [bl_of]; simp [h0]; done) | (rw [bl_of]; exact decide_eq_true (by omega)) | (rw [bl_of]; omega) | (simp; done) | exact oK) ?_
    refine At.rt [true] [true,true,true] [] Tryz.func23 ?_
    exact hsame 4 (by decide) he _ _ _ rfl rfl rfl
  refine At.go [false,false,false,false] [hC (.bool true)] rfl (by and_intros <;> first | exact fSn rfl rfl | (simp only [bl_of]; simp [h0]; done) | (rw [bl_of]; exact decide_eq_false (by omega)) | (rw [bl_of]; omega) | (simp; done) | exact oK) ?_
  have hrow1:1≤row.length∧row.length≤65536:=⟨List.length_pos_iff.2 h0,by omega⟩
  have hKl:=Nat.div_le_self R.length P
  refine At.step [] rfl rfl rfl rfl rfl trivial (OpOk.call rfl (fun w' hw'=>Tryz.lgActs_w lg d P n cr ch c3 c4 gr gh R row q M ma mc w' hm (by omega) (fun x h=>(hx x h).2) hrow1 eM (SlOk.extR hr hw'.ext hrm) (SlOk.blk (hw'.bx _ (nth_mem (i:=0) rfl))) (hw'.hp (Seg.row gr 9 1 R.length cr (R.map str)) (nth_mem (i:=0) rfl)) (SlOk.row (hw'.hp _ (nth_mem (i:=1) rfl))) (hw'.hp _ (nth_mem (i:=2) rfl)) (fun x hx=>hw'.lt x (mem_kys_hp (nth_mem (i:=2) rfl) (by simpa [kys] using hx))) (Tryz.tabs_ext hT hw'.ext hTk)) ?_)
  rintro _ _ _ ⟨ga,ca,rfl,rfl,rfl⟩
  have hmx:sealsP P R=true→mayH (hdK P n (R++[row]) (R.length / P)) n=true:=fun hs=>by
    have hd:=div_full (row:=row) (R:=R) (P:=P) (by omega)
    rw [if_pos hs] at hd
    refine hdK_may (by omega) (by omega) (by rw [List.length_append,List.length_singleton]; omega) (fun x h=>?_) ((Nat.le_div_iff_mul_le (by omega)).1 (by omega))
    rcases List.mem_append.1 h with h | h
    · have:=hx x h; omega
    · simp only [List.mem_singleton] at h; subst h; omega
  obtain⟨hAl,hAe⟩:=actL_in (P:=P) (n:=n) (S:=q.S) (R:=R) (row:=row) (M:=M) (m:=9223372036854775807) (fun x=>(DkQ.fok q).read x) (by omega) hMb hMn (by omega) hmx (by omega) (by omega)
  have happ:appE r P n q.S R row M=if 4096 < q.S.length+cnt0 (actL P n q.S R row M) then 4 else if r < sumB q.S+sumS (actL P n q.S R row M) then 6 else 0:=by unfold appE; rw [if_neg (by simp [h0,hs1]),if_neg hrow]
  obtain⟨A,hA⟩:∃ A,actL P n q.S R row M=A:=⟨_,rfl⟩
  rw [hA] at hAl hAe happ ⊢
  refine At.go [] [hB 0] rfl oK ?_
  refine At.step [] rfl rfl rfl rfl rfl trivial (OpOk.call rfl (fun w' hw'=>Tryz.qFiles_w d q w' (hw'.hp _ (nth_mem (i:=3) rfl))) ?_)
  rintro _ _ _ ⟨gf,cf,rfl,rfl,rfl⟩
  have hSl:q.S.length≤4096:=by rw [q.len]; exact q.inv.lS
  have hst:∀ i,sumS (A.take i)≤62 * 70000:=fun i=>by
    have h1:=sumS_le (L:=A.take i) fun e he=>(hAe e (List.mem_of_mem_take he)).1
    have h2:(A.take i).length * 70000≤62 * 70000:=Nat.mul_le_mul_right _ (by rw [List.length_take]; omega)
    exact Nat.le_trans h1 h2
  have hct:∀ i,cnt0 (A.take i)≤62:=fun i=>Nat.le_trans (cnt0_le _) (by rw [List.length_take]; omega)
  refine At.go [] [] rfl oK ?_
  refine At.keep [true] [false,true,true,true,true] rfl ?_
  refine At.loop (env0:=[(0,.pointer (some ⟨lg,0,none⟩)),(1,.string { data:=row.toArray }),(7,.slice (svA ga) A.length ca),(8,.int .i64 ↑(List.length q.S)),(9,.int .i64 0),(41,.slice (svA ga) A.length ca),(42,.int .i64 ↑A.length),(43,.int .i64 0)]) (fun m_ env bx hp => ∃ (i:Nat),m_=A.length - i∧(i≤A.length)∧env=[(0,.pointer (some ⟨lg,0,none⟩)),(1,.string { data:=row.toArray }),(7,.slice (svA ga) A.length ca),(8,.int .i64 ((q.S.length+cnt0 (A.take i):Nat):Int)),(9,.int .i64 ((sumS (A.take i):Nat):Int)),(41,.slice (svA ga) A.length ca),(42,.int .i64 ↑A.length),(43,.int .i64 (i:Int))]∧bx=[(lg,98,[.pointer (some ⟨d,0,none⟩),.int .i64 ↑P,.int .i64 ↑n,.int .i64 c3,.int .i64 c4,.slice (svA gr) R.length cr,.slice (svA gh) (R.length.div P) ch])]∧hp=[Seg.row ga 107 3 A.length ca (List.flatMap wrL A),Seg.row gr 9 1 R.length cr (List.map str R),Seg.row gh 28 6 (R.length / P) ch (List.flatMap hdC (hdsB P n R (R.length / P))),dkS d q]) rfl
    ⟨0,rfl,(Nat.zero_le _),rfl,rfl,rfl⟩ sB ?_
  rintro m_ env bx hp ⟨i,rfl,hi,rfl,rfl,rfl⟩ ih
  by_cases hlt:i < A.length
  · obtain⟨e,he⟩:∃ e,A[i]?=some e:=⟨_,List.getElem?_eq_getElem hlt⟩
    have hee:=hAe e (List.mem_of_getElem? he)
    refine At.rowSome 0 rfl (by omega) (fun g hg=>?_)
    subst hg
    have rE:∀ {S:Base}{bx:Bx}{hp:List Seg},nth hp 0=some (Seg.row (some g) 107 3 A.length ca (A.flatMap wrL))→RdW S bx hp g (0+(i:Int).toNat * 3) [str e.1,.int .i64 e.2.1,str e.2.2]:=fun {_ _ _} h=>RdW.row h fun k u hu=>by
      rw [Nat.zero_add,Int.toNat_natCast]; exact flat_get (f:=wrL) (sz:=3) (fun _ _=>rfl) he k u hu
    have hs1:sumS (A.take (i+1))=sumS (A.take i)+e.2.2.length:=by rw [List.take_add_one,he]; simp [sumS]
    have hc1:cnt0 (A.take (i+1))=cnt0 (A.take i)+if e.2.1=0 then 1 else 0:=by rw [List.take_add_one,he]; simp [cnt0]
    have hs2:=hst (i+1)
    have hc2:=hct (i+1)
    by_cases hz:e.2.1=0
    · rw [if_pos hz] at hc1
      refine At.go [true] [hR [.string { data:=e.fst.toArray },.int .i64 ↑e.snd.fst,.string { data:=e.snd.snd.toArray }]] rfl (by and_intros <;> first | exact rE rfl | exact decide_eq_true (by omega) | (simp only; omega) | (simp; done) | exact oK) ?_
      refine At.al fun b11 hb11=>?_
      refine At.go [true] [hB 0,hB 0,hB 0] rfl (by and_intros <;> first | exact rE rfl | exact decide_eq_true (by omega) | (simp only [bl_of]; omega) | (simp [Value.oneCell']; done) | exact oK) ?_
      rw [show ((sumS (A.take i):Nat):Int)+((bl ⟨e.2.2.toArray⟩).length:Int)=((sumS (A.take (i+1)):Nat):Int) by rw [bl_of,hs1]; omega]
      rw [show ((q.S.length+cnt0 (A.take i):Nat):Int)+1=((q.S.length+cnt0 (A.take (i+1)):Nat):Int) by omega]
      refine At.keep [false,true] [true,true,true,true] rfl ?_
      exact At.weak (ih _ _ _ _ (by omega) ⟨i+1,rfl,by omega,rfl,rfl,rfl⟩) sB
    · rw [if_neg hz] at hc1
      refine At.go [true] [hR [.string { data:=e.fst.toArray },.int .i64 ↑e.snd.fst,.string { data:=e.snd.snd.toArray }]] rfl (by and_intros <;> first | exact rE rfl | exact decide_eq_true (by omega) | exact decide_eq_false (by omega) | (simp only; omega) | (simp; done) | exact oK) ?_
      refine At.al fun b11 hb11=>?_
      refine At.go [false] [hB 0,hB 0,hB 0] rfl (by and_intros <;> first | exact rE rfl | exact decide_eq_true (by omega) | exact decide_eq_false (by omega) | (simp only [bl_of]; omega) | (simp [Value.oneCell']; done) | exact oK) ?_
      rw [show ((sumS (A.take i):Nat):Int)+((bl ⟨e.2.2.toArray⟩).length:Int)=((sumS (A.take (i+1)):Nat):Int) by rw [bl_of,hs1]; omega]
      rw [show ((q.S.length+cnt0 (A.take i):Nat):Int)=((q.S.length+cnt0 (A.take (i+1)):Nat):Int) by omega]
      refine At.keep [false,true] [true,true,true,true] rfl ?_
      exact At.weak (ih _ _ _ _ (by omega) ⟨i+1,rfl,by omega,rfl,rfl,rfl⟩) sB
  · obtain rfl:i=A.length:=by omega
    rw [List.take_length]
    have hsA:=hst A.length
    have hcA:=hct A.length
    rw [List.take_length] at hsA hcA
    have hus:=q.used
    have hrr:=q.inv.p.hr
    have fRm:∀ {S:Base}{bx:Bx}{hp:List Seg},nth hp 3=some (Tryz.dkS d q)→CallOb Tryz.prog S bx hp 45 [.pointer (some ⟨d,0,none⟩)] (.int .i64 ((r:Int) - (sumB q.S:Int))):=fun {_ _ _} h w' hw'=>Tryz.qRoom_w d q w' (hw'.hp _ (nth_mem h))
    by_cases hm1:4096 < q.S.length+cnt0 A
    · rw [if_pos hm1] at happ
      refine At.go [false,true] [] rfl (by and_intros <;> first | exact decide_eq_false (by omega) | exact decide_eq_true (by omega) | exact oK) ?_
      refine At.rt [true] [false,true,true,true] [] Tryz.func23 ?_
      exact hA ▸ hsame 4 (by decide) happ _ _ _ rfl rfl rfl
    rw [if_neg hm1] at happ
    by_cases hm2:r < sumB q.S+sumS A
    · rw [if_pos hm2] at happ
      refine At.go [false,false,true] [hB 0,hC (.int .i64 (↑r - ↑(sumB q.S)))] rfl (by and_intros <;> first | exact fRm rfl | exact decide_eq_false (by omega) | exact decide_eq_true (by omega) | exact oK) ?_
      refine At.rt [true] [false,true,true,true] [] Tryz.func23 ?_
      exact hA ▸ hsame 6 (by decide) happ _ _ _ rfl rfl rfl
    rw [if_neg hm2] at happ
    refine At.go [false,false,false] [hB 0,hC (.int .i64 (↑r - ↑(sumB q.S)))] rfl (by and_intros <;> first | exact fRm rfl | exact decide_eq_false (by omega) | exact oK) ?_
    refine At.loop (env0:=[(0,.pointer (some ⟨lg,0,none⟩)),(1,.string { data:=row.toArray }),(67,.slice (svA ga) A.length ca),(68,.int .i64 ↑A.length),(69,.int .i64 0)]) (fun m_ env bx hp => ∃ (i:Nat) (qi:DkQ r (kq+i)),m_=A.length - i∧(i≤A.length)∧((qi.S,qi.P)=wrAll r (q.S,q.P) (A.take i))∧(qi.K=q.K)∧env=[(0,.pointer (some ⟨lg,0,none⟩)),(1,.string { data:=row.toArray }),(67,.slice (svA ga) A.length ca),(68,.int .i64 ↑A.length),(69,.int .i64 (i:Int))]∧bx=[(lg,98,[.pointer (some ⟨d,0,none⟩),.int .i64 ↑P,.int .i64 ↑n,.int .i64 c3,.int .i64 c4,.slice (svA gr) R.length cr,.slice (svA gh) (R.length.div P) ch])]∧hp=[Seg.row ga 107 3 A.length ca (List.flatMap wrL A),Seg.row gr 9 1 R.length cr (List.map str R),Seg.row gh 28 6 (R.length / P) ch (List.flatMap hdC (hdsB P n R (R.length / P))),Tryz.dkS d qi]) rfl
      ⟨0,q,rfl,(Nat.zero_le _),(rfl),(rfl),rfl,rfl,rfl⟩ sB ?_
    rintro m_ env bx hp ⟨i,qi,rfl,hi,hS,hK,rfl,rfl,rfl⟩ ih
    by_cases hlt2:i < A.length
    · obtain⟨e,he⟩:∃ e,A[i]?=some e:=⟨_,List.getElem?_eq_getElem hlt2⟩
      have hee:=hAe e (List.mem_of_getElem? he)
      refine At.rowSome 0 rfl (by omega) (fun g hg=>?_)
      subst hg
      have rE:∀ {S:Base}{bx:Bx}{hp:List Seg},nth hp 0=some (Seg.row (some g) 107 3 A.length ca (A.flatMap wrL))→RdW S bx hp g (0+(i:Int).toNat * 3) [str e.1,.int .i64 e.2.1,str e.2.2]:=fun {_ _ _} h=>RdW.row h fun k u hu=>by
        rw [Nat.zero_add,Int.toNat_natCast]; exact flat_get (f:=wrL) (sz:=3) (fun _ _=>rfl) he k u hu
      have hst2:wrAll r (q.S,q.P) (A.take (i+1))=wrStep r (qi.S,qi.P) e:=by rw [List.take_add_one,he]; unfold wrAll; rw [List.foldl_append]; unfold wrAll at hS; rw [← hS]; rfl
      refine At.go [true] [hR [.string { data:=e.fst.toArray },.int .i64 ↑e.snd.fst,.string { data:=e.snd.snd.toArray }]] rfl (by and_intros <;> first | exact rE rfl | exact decide_eq_true (by omega) | (simp; done) | exact oK) ?_
      refine At.al fun b13 hb13=>?_
      refine At.gn 2 [] [hB 0] rfl (by and_intros <;> first | exact rE rfl | exact decide_eq_true (by omega) | (simp [Value.oneCell']; done) | exact oK) ?_
      refine At.dr 11 ?_
      refine AtD.lx [0,1,2,3,4,5,6,7,8,9] 1 [] [hB 1,hB 0,hB 0,hB 0] rfl oK ?_
      refine AtD.fork1 10 (by kernel_rfl) (StepD.by [] rfl rfl rfl rfl trivial (OpOk.callO [false,false] [false,false,false,true] rfl rfl (fun w' _ ho=>Tryz.qWrite_w d qi e.1 e.2.1 e.2.2 w' ho (by omega) hee.2.2 (by omega) (by simp only [inK]; omega)) ?_))
      rintro _ _ _ ⟨rfl,rfl,q1,rfl,hk1,hif⟩
      refine AtD.dn ?_
      refine At.order [] [3,3,3] rfl rfl ?_
      have hS1:(q1.S,q1.P)=wrAll r (q.S,q.P) (A.take (i+1)):=by
        rw [hst2]
        unfold wrStep
        by_cases hw0:wrR r qi.S e.1 e.2.1 e.2.2=0
        · rw [if_pos hw0] at hif
          rw [if_pos hw0,hif.1,hif.2]; rfl
        · rw [if_neg hw0] at hif
          rw [if_neg hw0,hif.1,hif.2]
      refine At.go [] [] rfl (by and_intros <;> first | exact trivial | exact oK) ?_
      refine At.keep [false,true] [true,true,true,true] rfl ?_
      exact At.weak (ih _ _ _ _ (by omega) ⟨i+1,q1,rfl,by omega,hS1,by rw [hk1,hK],rfl,rfl,rfl⟩) sB
    · obtain rfl:i=A.length:=by omega
      rw [List.take_length] at hS
      refine At.go [false] [] rfl (by and_intros <;> first | exact decide_eq_false (by omega) | exact oK) ?_
      refine At.qt [] [hB 0,hB 0,hB 0] rfl rfl (by and_intros <;> first | exact decide_eq_false (by omega) | exact oK) ?_
      refine At.go [] [hB 0] rfl (by and_intros <;> first | exact decide_eq_false (by omega) | exact oK) ?_
      refine At.a1 1 1 16 fun b109 a110 c110=>?_
      refine At.go [] [hB 0] rfl (by and_intros <;> first | exact decide_eq_false (by omega) | exact oK) ?_
      have hmod0:Int.tmod ((R.length:Nat):Int) (P:Int)=((R.length % P:Nat):Int):=(Int.ofNat_tmod _ _).symm
      have hmod1:((R.length:Nat):Int) % (P:Int)=((R.length % P:Nat):Int):=(Int.natCast_emod _ _).symm
      have hml:=Nat.mod_lt R.length (show 0 < P by omega)
      have hdf:=div_full (row:=row) (R:=R) (P:=P) (by omega)
      have hl1:(R++[row]).length=R.length+1:=by rw [List.length_append]; rfl
      have hmp:R.map str++[.string ⟨row.toArray⟩]=(R++[row]).map str:=by rw [List.map_append]; rfl
      have hKP:R.length / P * P≤R.length:=Nat.div_mul_le_self _ _
      have hapR:=hdsB_app (P:=P) (n:=n) (R:=R) (X:=[row]) hKP
      by_cases hse:R.length % P+1=P
      · rw [show sealsP P R=true from decide_eq_true hse,if_pos rfl] at hdf
        refine At.go [true] [] rfl (by and_intros <;> first | (rw [hmod0]; exact decide_eq_true (by omega)) | (rw [hmod1]; exact decide_eq_true (by omega)) | exact oK) ?_
        refine At.qt [] [hB 0,hB 0] rfl rfl (by and_intros <;> first | (rw [hmod0]; exact decide_eq_true (by omega)) | (rw [hmod1]; exact decide_eq_true (by omega)) | exact oK) ?_
        refine At.gn 1 [] [] rfl (by and_intros <;> first | (rw [hmod0]; exact decide_eq_true (by omega)) | (rw [hmod1]; exact decide_eq_true (by omega)) | exact oK) ?_
        rw [hmp]
        have hdm:=Nat.div_add_mod R.length P
        obtain⟨A0,hA0⟩:∃ A0,R.length / P * P=A0:=⟨_,rfl⟩
        rw [show P * (R.length / P)=A0 by rw [Nat.mul_comm]; exact hA0] at hdm
        rw [hA0] at hKP
        have hI1:((R.length+1:Nat):Int) - (P:Int)=(A0:Int):=by omega
        have hq0:Int.tdiv (A0:Int) (P:Int)=((R.length / P:Nat):Int):=by rw [← hA0,Int.natCast_mul]; exact Int.mul_tdiv_cancel _ (by omega)
        have hq1:(A0:Int) / (P:Int)=((R.length / P:Nat):Int):=by rw [← hA0,Int.natCast_mul]; exact Int.mul_ediv_cancel _ (by omega)
        have hmxK:=hmx (decide_eq_true hse)
        have hxk:hdK P n (R++[row]) (R.length / P)=⟨(R.length / P:Nat),(A0:Nat),P,sumL (segK P (R++[row]) (R.length / P)),prevB P n R (R.length / P),rootB n (segK P (R++[row]) (R.length / P))⟩:=by
          unfold hdK mkH
          rw [hA0,prevB_app (R.length / P) (by omega)]
        have hsl:(segK P (R++[row]) (R.length / P)).length=P:=by rw [segK_len,hl1,hA0]; omega
        have hmayO:∀ k,k < R.length / P→mayH (hdK P n R k) n=true:=fun k hk=>hdK_may (by omega) (by omega) (by omega) (fun x h=>by have:=hx x h; omega) ((Nat.le_div_iff_mul_le (by omega)).1 hk)
        refine At.rowCap 1 rfl fun hca=>?_
        refine At.rowSome 1 rfl (by omega) (fun g1 hg1=>?_)
        subst hg1
        rw [hI1]
        obtain⟨x,hxe⟩:∃ x,hdK P n (R++[row]) (R.length / P)=x:=⟨_,rfl⟩
        rw [hxe] at hxk
        have hTw:∀ w',Ext (kys [(lg,98,lgV d P n c3 c4 (sv gr R.length cr) (sv gh (R.length / P) ch))] [Seg.row gr 9 1 R.length cr (R.map str),Seg.row gh 28 6 (R.length / P) ch ((hdsB P n R (R.length / P)).flatMap hdC),Tryz.dkS d q]) w w'→Tryz.Tabs w':=fun w' he=>Tryz.tabs_ext hT he hTk
        have fHs:∀ {S:Base}{bx:Bx}{hp:List Seg},(∀ w',Ext S.mods S.w0 w'→Tryz.Tabs w')→nth bx 0=some (lg,98,lgV d P n c3 c4 (sv (some g1) (R.length+1) c110) (sv gh (R.length / P) ch))→nth hp 2=some (Seg.row gh 28 6 (R.length / P) ch ((hdsB P n R (R.length / P)).flatMap hdC))→CallOb Tryz.prog S bx hp 21 [.pointer (some ⟨lg,0,none⟩)] (str (prevB P n R (R.length / P))):=fun {_ _ _} hTS h1 h2 w' hw' =>
          Tryz.lgHash_w lg d P n (R.length / P) ch c3 c4 R _ (svA gh) w' (by omega) (by omega) hmayO (SlOk.blk (hw'.bx _ (nth_mem h1))) (SlOk.row (hw'.hp _ (nth_mem h2))) (hTS w' hw'.ext)
        have fHdr:∀ {S:Base}{bx:Bx}{hp:List Seg}(z:Int),(∀ w',Ext S.mods S.w0 w'→Tryz.Tabs w')→z=((R.length / P:Nat):Int)→nth hp 1=some (Seg.row (some g1) 9 1 (R.length+1) c110 ((R++[row]).map str))→CallOb Tryz.prog S bx hp 9 [.agg ⟨[.int .i64 P,.int .i64 n,.int .i64 c3,.int .i64 c4]⟩,.int .i64 z,.int .i64 A0,str (prevB P n R (R.length / P)),.slice (some ⟨g1,0+(A0:Int).toNat * 1,none⟩) (R.length+1 - (A0:Int).toNat) (c110 - (A0:Int).toNat)] (.agg ⟨hdC x⟩):=fun {_ _ _} z hTS hz h1 w' hw'=>by
          have s0:=SlOk.row (hw'.hp _ (nth_mem h1))
          have s1:=SlOk.rowsT P (SlOk.rowsD A0 s0)
          rw [← hA0] at s1
          have:=Tryz.Header_w P n c3 c4 (R.length / P:Nat) A0 (prevB P n R (R.length / P)) (segK P (R++[row]) (R.length / P)) _ (c110 - A0) w' hm (by omega) (by omega) (fun x h=>by
            rcases List.mem_append.1 (segK_mem0 h) with h | h
            · have:=hx x h; omega
            · simp only [List.mem_singleton] at h; subst h; omega) s1 (hTS w' hw'.ext).1
          rw [hsl] at this
          rw [hz,Int.toNat_natCast,Nat.mul_one,show R.length+1 - A0=P by omega,hxk,← hA0]
          rw [← hA0] at this
          exact this
        refine At.dr 31 ?_
        refine AtD.pu [0,1,2,3] 27 rfl oK ?_
        refine AtD.late 5 21 4 26 4 true [] [hB 0,hB 0,hC (str (prevB P n R (R.length / P))),hB 0,hC (.agg ⟨hdC x⟩)] [hB 0] ⟨by kernel_rfl,by kernel_rfl,by kernel_rfl,rfl,by kernel_rfl,by kernel_rfl,rfl,rfl,by kernel_rfl⟩ rfl rfl rfl (by and_intros <;> first | omega | (simp only; rw [hq0]; omega) | exact fHs hTw rfl rfl | exact fHdr _ hTw hq0 rfl | exact fHdr _ hTw hq1 rfl | exact oK) rfl rfl oK ?_ ?_
        · refine AtD.fork1 26 (by kernel_rfl) (StepD.by [] rfl rfl rfl rfl trivial (OpOk.buildSlice rfl rfl rfl rfl rfl rfl rfl (fun bb hbb=>?_)))
          refine AtD.fork1 27 (by kernel_rfl) (StepD.by [] rfl rfl rfl rfl trivial (OpOk.appendS (m:=1) 2 6 64 (hdC x) rfl rfl rfl rfl rfl rfl rfl rfl (fun w' hw'=>SlOk.blk (hw'.bx _ (nth_mem (i:=0) rfl))) rfl (hdC_one x) (by omega) (by omega) fun a2 c2=>?_))
          refine AtD.pures (ob:=True) true (by kernel_rfl) [28,29] (fuel:=1) (by kernel_rfl) rfl oK ?_
          refine AtD.fork1 30 (by kernel_rfl) (StepD.by0 [] rfl rfl rfl trivial (OpOk.one true [] [hB 1] rfl (by and_intros <;> first | (simp [Value.oneCell',sv]; done) | exact oK) ?_))
          refine AtD.dn ?_
          refine At.go [] [] rfl (by and_intros <;> first | (simp; done) | exact oK) ?_
          refine At.rt [false,true] [false,true,true,true] [] Tryz.func23 ?_
          exact⟨by rw [happ]; first | done | rfl,R++[row],some g1,c110,a2,c2,qi.lift (by omega),by rw [hdf,hl1]; first | done | rfl,by rw [hdf,hl1,hdsB_snoc,hapR,hxe,List.flatMap_append]; simp only [List.flatMap_cons,List.flatMap_nil,List.append_nil]; first | done | rfl,hK,by rw [if_pos happ]; exact⟨rfl,hS⟩⟩
        · refine StepD.by [] rfl rfl rfl rfl trivial (OpOk.buildSlice rfl rfl rfl rfl rfl rfl rfl (fun bb hbb=>?_))
          refine AtD.fork1 4 (by kernel_rfl) (StepD.by [] rfl rfl rfl rfl trivial (OpOk.one true [] [hB 1] rfl oK ?_))
          refine AtD.fork1 27 (by kernel_rfl) (StepD.by [] rfl rfl rfl rfl trivial (OpOk.appendS (m:=1) 2 6 64 (hdC x) rfl rfl rfl rfl rfl rfl rfl rfl (fun w' hw'=>SlOk.blk (hw'.bx _ (nth_mem (i:=0) rfl))) rfl (hdC_one x) (by omega) (by omega) fun a2 c2=>?_))
          refine AtD.pures (ob:=True) true (by kernel_rfl) [28,29] (fuel:=1) (by kernel_rfl) rfl oK ?_
          refine AtD.fork1 30 (by kernel_rfl) (StepD.by0 [] rfl rfl rfl trivial (OpOk.one true [] [hB 1] rfl (by and_intros <;> first | (simp [Value.oneCell',sv]; done) | exact oK) ?_))
          refine AtD.dn ?_
          refine At.go [] [] rfl (by and_intros <;> first | (simp; done) | exact oK) ?_
          refine At.rt [false,true] [false,true,true,true] [] Tryz.func23 ?_
          exact⟨by rw [happ]; first | done | rfl,R++[row],some g1,c110,a2,c2,qi.lift (by omega),by rw [hdf,hl1]; first | done | rfl,by rw [hdf,hl1,hdsB_snoc,hapR,hxe,List.flatMap_append]; simp only [List.flatMap_cons,List.flatMap_nil,List.append_nil]; first | done | rfl,hK,by rw [if_pos happ]; exact⟨rfl,hS⟩⟩
      · rw [show sealsP P R=false from decide_eq_false hse,if_neg (by simp),Nat.add_zero] at hdf
        refine At.go [false] [] rfl (by and_intros <;> first | (rw [hmod0]; exact decide_eq_false (by omega)) | (rw [hmod1]; exact decide_eq_false (by omega)) | exact oK) ?_
        rw [hmp,← hl1]
        have hfin:appE r P n q.S R row M=0:=happ
        refine At.rt [true] [false,true,true,true] [] Tryz.func23 ?_
        exact⟨by rw [happ]; first | done | rfl,R++[row],a110,c110,gh,ch,qi.lift (by omega),by rw [hdf]; first | done | rfl,by rw [hdf,hapR]; first | done | rfl,hK,by rw [if_pos happ]; exact⟨rfl,hS⟩⟩
def rowsF (P:Nat) (S:FL):Nat→Nat→List (List UInt8)
  | 0,_ => []
  | f+1,k => if (frowsB (readN S (nmB 115 (k:Int)))).length < P then frowsB (readN S (nmB 115 (k:Int))) else (frowsB (readN S (nmB 115 (k:Int)))).take P++rowsF P S f (k+1)
def rowsS (P:Nat) (S:FL):List (List UInt8):=rowsF P S (S.length+1) 0
theorem Tryz.rRows_w (P n:Nat) (S:FL) (c3 c4:Int) (a:Option Addr) (cap:Nat) (w:World) (hP:1≤P∧P≤64) (hS:S.length≤900000) (hrd:∀ x,(readN S x).length≤2000000) (hr:SlOk w a (fl S)) :
    Tri Tryz.prog 68 [.agg ⟨[.int .i64 P,.int .i64 n,.int .i64 c3,.int .i64 c4]⟩,.slice a S.length cap] w [] (fun v bx hp=>∃ (g:Option Nat) (c:Nat),v=sv g (rowsS P S).length c∧bx=[]∧hp=[Seg.row g 9 1 (rowsS P S).length c ((rowsS P S).map str)]):=by
  obtain⟨W,hW⟩:∃ W,rowsS P S=W:=⟨_,rfl⟩
  rw [hW]
  refine Tri.enter (bx:=[]) (hp:=[]) Tryz.func68 rfl (by kernel_rfl) rfl (Own.nil w) ?_
  refine At.go [] [] rfl oK ?_
  refine At.bo fun b2 hb2=>?_
  refine At.go [] [] rfl oK ?_
  refine At.nilRow 9 1 ?_
  refine At.loop (env0:=[(1,.slice a (List.length S) cap),(2,.pointer (some ⟨b2,0,none⟩)),(5,.slice none 0 0),(6,.int .i64 0)]) (fun m_ env bx hp => ∃ (k:Nat) (A:List (List UInt8)) (g:Option Nat) (c:Nat),m_=S.length+1 - k∧(k≤S.length)∧(∀ j,j < k→readN S (nmB 115 (j:Int))≠[])∧(A++rowsF P S (S.length+1 - k) k=W)∧(A.length=k * P)∧env=[(1,.slice a (List.length S) cap),(2,.pointer (some ⟨b2,0,none⟩)),(5,sv g A.length c),(6,.int .i64 (k:Int))]∧bx=[(b2,23,[.int .i64 ↑P,.int .i64 ↑n,.int .i64 c3,.int .i64 c4])]∧hp=[Seg.row g 9 1 A.length c (A.map str)]) rfl
    ⟨0,[],none,0,rfl,(Nat.zero_le _),(fun j h=>absurd h (Nat.not_lt_zero j)),(hW),((Nat.zero_mul P).symm),rfl,rfl,rfl⟩ sB ?_
  rintro m_ env bx hp ⟨k,A,g,c,rfl,hk,hj,hA,hl,rfl,rfl,rfl⟩ ih
  obtain⟨s,hs⟩:∃ s,readN S (nmB 115 (k:Int))=s:=⟨_,rfl⟩
  have hsl:s.length≤2000000:=hs ▸ hrd _
  have hkP:k * P≤k * 64:=Nat.mul_le_mul_left _ hP.2
  have hf:(frowsB s).length≤s.length:=by unfold frowsB; rw [List.length_map]; exact (scan_len s).1
  have fN:∀ {S:Base}{bx:Bx}{hp:List Seg},CallOb Tryz.prog S bx hp 61 [.int .i64 (k:Int)] (str (nmB 115 (k:Int))):=fun {_ _ _} w' _=>Tryz.rSegment_w _ w'
  have fR:∀ {bx:Bx}{hp:List Seg},CallOb Tryz.prog ⟨w,kys [] []⟩ bx hp 63 [.slice a S.length cap,str (nmB 115 (k:Int))] (str s):=fun {_ _} w' hw'=>hs ▸ Tryz.r9Read_w S _ a cap w' (by omega) (hr.ext hw'.ext (by simp [kys]))
  have hun:rowsF P S (S.length+1 - k) k=if (frowsB s).length < P then frowsB s else (frowsB s).take P++rowsF P S (S.length+1 - (k+1)) (k+1):=by
    rw [show S.length+1 - k=(S.length+1 - (k+1))+1 by omega,rowsF,hs]
  refine At.go [] [hC (.string { data:=(nmB 115 ↑k).toArray }),hC (.string { data:=s.toArray })] rfl (by and_intros <;> first | exact fN | exact fR | exact oK) ?_
  refine At.step [] rfl rfl rfl rfl rfl trivial (OpOk.call rfl (fun w' _=>Tryz.rScan_w s w' hsl) ?_)
  rintro _ _ _ ⟨a1,c1,a2,c2,rfl,rfl,rfl⟩
  refine At.rowCap 1 rfl fun hca=>?_
  have one:∀ l:List (List UInt8),∀ v,v∈l.map str→v.oneCell'=true:=fun l v hv=>by obtain⟨y,-,rfl⟩:=List.mem_map.1 hv; rfl
  by_cases hlt:(frowsB s).length < P
  · rw [if_pos hlt] at hun
    rw [hun] at hA
    refine At.go [true] [hB 0] rfl (by and_intros <;> first | exact decide_eq_true (by omega) | exact oK) ?_
    refine At.step [] rfl rfl rfl rfl rfl trivial (OpOk.appendS 2 1 16 ((frowsB s).map str) rfl rfl rfl rfl rfl rfl rfl rfl (fun w' hw'=>SlOk.row (hw'.hp _ (nth_mem (i:=1) rfl))) (by simp) (one _) (by omega) (by omega) fun a3 c3'=>?_)
    rw [← List.map_append,← List.length_append,hA]
    refine At.go [] [] rfl oK ?_
    refine At.rt [] [false,false,true] [] Tryz.func68 ?_
    exact⟨_,_,rfl,rfl,rfl⟩
  · rw [if_neg hlt] at hun
    rw [hun,← List.append_assoc] at hA
    have hj1:∀ j,j < k+1→readN S (nmB 115 (j:Int))≠[]:=fun j h=>by
      by_cases hjk:j=k
      · rw [hjk,hs]
        intro h0
        rw [h0] at hf hlt
        rw [List.length_nil] at hf
        omega
      · exact hj j (by omega)
    have hk1:k+1≤S.length:=names_few (by omega) hj1
    have htl:((frowsB s).take P).length=P:=by rw [List.length_take]; omega
    refine At.go [false] [hB 0,hB 0] rfl (by and_intros <;> first | exact decide_eq_false (by omega) | omega | exact oK) ?_
    refine At.step [] rfl rfl rfl rfl rfl trivial (OpOk.appendS (m:=(P:Int).toNat) 2 1 16 (((frowsB s).take P).map str) rfl rfl rfl rfl rfl rfl rfl rfl (fun w' hw'=>SlOk.rowsT P (SlOk.row (hw'.hp _ (nth_mem (i:=1) rfl)))) (by rw [List.length_map,htl]; omega) (one _) (by omega) (by omega) fun a3 c3'=>?_)
    rw [← List.map_append,show A.length+(P:Int).toNat=(A++(frowsB s).take P).length by rw [List.length_append,htl]; omega]
    refine At.go [] [] rfl oK ?_
    refine At.keep [true] [false,false,true] rfl ?_
    exact At.weak (ih _ _ _ _ (by omega) ⟨k+1,A++(frowsB s).take P,a3,c3',rfl,hk1,hj1,hA,by rw [List.length_append,htl,Nat.succ_mul,hl],rfl,rfl,rfl⟩) sB
theorem rowsF_step {P:Nat}{S:FL}{f k:Nat}:rowsF P S (f+1) k=rdK P S k++if (rdK P S k).length=P then rowsF P S f (k+1) else []:=by
  show (if (frowsB (readN S (nmB 115 (k:Int)))).length < P then frowsB (readN S (nmB 115 (k:Int))) else (frowsB (readN S (nmB 115 (k:Int)))).take P++rowsF P S f (k+1))=_
  have hl:(rdK P S k).length=min P (frowsB (readN S (nmB 115 (k:Int)))).length:=by unfold rdK; rw [List.length_take]
  by_cases h:(frowsB (readN S (nmB 115 (k:Int)))).length < P
  · rw [if_pos h,if_neg (by rw [hl]; omega),List.append_nil]
    unfold rdK
    rw [List.take_of_length_le (by omega)]
  · rw [if_neg h,if_pos (by rw [hl]; omega)]
    rfl
theorem rowsF_cut {P:Nat}{S:FL}{k z:Nat}:∀ {f j:Nat},k < j→j+f≤1099511627776→rowsF P (cutS S (nmB 115 (k:Int)) z) f j=rowsF P S f j
  | 0,_,_,_ => rfl
  | f+1,j,h,hj => by
    have hr:readN (cutS S (nmB 115 (k:Int)) z) (nmB 115 (j:Int))=readN S (nmB 115 (j:Int)):=by
      rw [cutS_read,if_neg (fun e=>by have:=nmB_inj (by omega) (by omega) e; omega)]
    show (if (frowsB (readN (cutS S (nmB 115 (k:Int)) z) (nmB 115 (j:Int)))).length < P then frowsB (readN (cutS S (nmB 115 (k:Int)) z) (nmB 115 (j:Int))) else (frowsB (readN (cutS S (nmB 115 (k:Int)) z) (nmB 115 (j:Int)))).take P++rowsF P (cutS S (nmB 115 (k:Int)) z) f (j+1))=_
    rw [hr,rowsF_cut (by omega) (by omega)]
    rfl
theorem rdLoop_rows {P:Nat}:∀ {f k:Nat}{S:FL}{R:List (List UInt8)},k+f≤1000000→(rdLoop P f k S R).2.1=R++rowsF P S (f+1) k
  | 0,k,S,R,_ => by rw [rowsF_step]; simp [rdLoop,rowsF]
  | f+1,k,S,R,h => by
    rw [rowsF_step]
    unfold rdLoop
    by_cases hl:(rdK P S k).length=P
    · rw [if_pos hl,if_pos hl,rdLoop_rows (by omega),rowsF_cut (by omega) (by omega),List.append_assoc]
    · rw [if_neg hl,if_neg hl,List.append_nil]
theorem frows_nil:frowsB []=[]:=by
  have h:=scan_len []
  unfold frowsB
  have:(scan []).length=0:=by have:=h.1; rw [List.length_nil] at this; omega
  rw [List.length_eq_zero_iff.1 this]; rfl
theorem rowsF_enough {P:Nat}{S:FL}(hP:1≤P):∀ {f g k:Nat},(∀ j,j < k→readN S (nmB 115 (j:Int))≠[])→S.length < k+f→S.length < k+g→k+f≤1000000→rowsF P S f k=rowsF P S g k
  | 0,_,k,h,h1,_,h3 => by
    have:=names_few (by omega) h
    omega
  | f+1,0,k,h,_,h2,h3 => by
    have:=names_few (by omega) h
    omega
  | f+1,g+1,k,h,h1,h2,h3 => by
    show (if (frowsB (readN S (nmB 115 (k:Int)))).length < P then frowsB (readN S (nmB 115 (k:Int))) else (frowsB (readN S (nmB 115 (k:Int)))).take P++rowsF P S f (k+1))=(if (frowsB (readN S (nmB 115 (k:Int)))).length < P then frowsB (readN S (nmB 115 (k:Int))) else (frowsB (readN S (nmB 115 (k:Int)))).take P++rowsF P S g (k+1))
    by_cases hl:(frowsB (readN S (nmB 115 (k:Int)))).length < P
    · rw [if_pos hl,if_pos hl]
    · have hn:∀ j,j < k+1→readN S (nmB 115 (j:Int))≠[]:=fun j hj=>by
        by_cases hjk:j=k
        · rw [hjk]
          intro h0
          rw [h0,frows_nil,List.length_nil] at hl
          omega
        · exact h j (by omega)
      rw [if_neg hl,if_neg hl,rowsF_enough (f:=f) (g:=g) (k:=k+1) hP hn (by omega) (by omega) (by omega)]
theorem open_rows {P:Nat}{S:FL}(hP:1≤P) (hS:S.length≤4096):(rdLoop P 5000 0 S []).2.1=rowsS P S:=by
  rw [rdLoop_rows (by omega),List.nil_append]
  exact rowsF_enough hP (fun j hj=>absurd hj (Nat.not_lt_zero j)) (by omega) (by omega) (by omega)
theorem clrS_read {K L:Nat}{m:List UInt8}:∀ {F S:FL},readN (clrS K L F S) m=if badN K L m=true∧m∈F.map (·.1) then [] else readN S m
  | [],S => by simp [clrS]
  | p :: F,S => by
    rw [clrS,clrS_read]
    by_cases hm:m=p.1
    · subst hm
      by_cases hb:badN K L p.1=true
      · rw [if_pos hb,cutS_read,if_pos rfl,if_pos (c:=_∧p.1∈(p :: F).map (·.1)) ⟨hb,List.mem_cons_self ..⟩]
        split <;> rfl
      · rw [if_neg hb,if_neg (fun h=>hb h.1),if_neg (fun h=>hb h.1)]
    · have e:readN (if badN K L p.1=true then cutS S p.1 0 else S) m=readN S m:=by
        split
        · rw [cutS_read,if_neg hm]
        · rfl
      rw [e]
      by_cases h:badN K L m=true∧m∈F.map (·.1)
      · rw [if_pos h,if_pos ⟨h.1,List.mem_cons_of_mem _ h.2⟩]
      · rw [if_neg h,if_neg (fun h'=>h ⟨h'.1,(List.mem_cons.1 h'.2).resolve_left hm⟩)]
def tornP (Z:List (List UInt8 × Nat)):List UInt8:=Z.flatMap fun z=>z.1.take z.2++List.replicate (z.1.length - z.2) 0
theorem tornP_cons (z:List UInt8 × Nat) (Z:List (List UInt8 × Nat)):tornP (z :: Z)=(z.1.take z.2++List.replicate (z.1.length - z.2) 0)++tornP Z:=rfl
theorem tornP_app (Z Y:List (List UInt8 × Nat)):tornP (Z++Y)=tornP Z++tornP Y:=by unfold tornP; rw [List.flatMap_append]
theorem chunk_len (s:List UInt8) (k:Nat):(s.take k++List.replicate (s.length - k) 0).length=s.length:=by
  rw [List.length_append,List.length_take,List.length_replicate]; omega
theorem tornP_len:∀ Z:List (List UInt8 × Nat),(tornP Z).length=(Z.map (·.1)).flatten.length
  | [] => rfl
  | z :: Z => by rw [tornP_cons,List.length_append,chunk_len,tornP_len Z,List.map_cons,List.flatten_cons,List.length_append]
theorem tornP_none (Z:List (List UInt8 × Nat)):tornP (Z.map fun z=>(z.1,0))=List.replicate (tornP Z).length 0:=by
  induction Z with
  | nil => rfl
  | cons z Z ih =>
    rw [List.map_cons,tornP_cons,tornP_cons,ih,List.length_append,chunk_len]
    simp
def Torn (X:List UInt8) (L:List (List UInt8)):Prop:=∃ Z:List (List UInt8 × Nat),Z.map (·.1)=L∧X <+: tornP Z
theorem Torn.len {X:List UInt8}{L:List (List UInt8)}(h:Torn X L):X.length≤L.flatten.length:=by
  obtain⟨Z,rfl,h⟩:=h
  rw [← tornP_len]; exact h.length_le
theorem Torn.whole (L:List (List UInt8)):Torn L.flatten L:=by
  refine⟨L.map fun s=>(s,s.length),by simp [Function.comp_def],?_⟩
  have:tornP (L.map fun s=>(s,s.length))=L.flatten:=by
    unfold tornP
    rw [List.flatMap_map,List.flatMap_def]
    congr 1
    induction L with
    | nil => rfl
    | cons s L ih => simp only [List.map_cons,ih]; simp
  rw [this]; exact List.prefix_rfl
theorem torn_pad:∀ (Z:List (List UInt8 × Nat)) (X:List UInt8),X <+: tornP Z→∃ Z':List (List UInt8 × Nat),Z'.map (·.1)=Z.map (·.1)∧X++List.replicate ((tornP Z).length - X.length) 0=tornP Z'
  | [],X,h => by
    have:X=[]:=List.prefix_nil.1 h
    subst this
    exact⟨[],rfl,rfl⟩
  | z :: Z,X,h => by
    rw [tornP_cons] at h ⊢
    have hc:=chunk_len z.1 z.2
    by_cases hl:X.length≤(z.1.take z.2++List.replicate (z.1.length - z.2) 0).length
    · have hx:X <+: z.1.take z.2++List.replicate (z.1.length - z.2) 0:=List.prefix_of_prefix_length_le h (List.prefix_append ..) hl
      have hxe:=List.prefix_iff_eq_take.1 hx
      rw [List.take_append,List.take_take,List.take_replicate,List.length_take] at hxe
      refine⟨(z.1,min X.length z.2) :: Z.map fun z=>(z.1,0),by simp [Function.comp_def],?_⟩
      rw [tornP_cons,tornP_none,List.length_append,hc]
      rw [hc] at hl
      conv=>lhs; arg 1; rw [hxe]
      simp only [List.append_assoc,List.replicate_append_replicate]
      congr 2
      omega
    · have hp:(z.1.take z.2++List.replicate (z.1.length - z.2) 0) <+: X:=List.prefix_of_prefix_length_le (List.prefix_append ..) h (by omega)
      obtain⟨Y,rfl⟩:=hp
      have hY:=(List.prefix_append_right_inj _).1 h
      obtain⟨Z',e1,e2⟩:=torn_pad Z Y hY
      refine⟨z :: Z',by rw [List.map_cons,List.map_cons,e1],?_⟩
      rw [tornP_cons,← e2]
      generalize z.1.take z.2++List.replicate (z.1.length - z.2) 0=c
      have e3:(c++tornP Z).length - (c++Y).length=(tornP Z).length - Y.length:=by simp only [List.length_append]; omega
      rw [e3,List.append_assoc]
theorem wrB_pad {X t:List UInt8}{at0:Nat}(h:X.length≤at0):wrB X at0 t=X++List.replicate (at0 - X.length) 0++t:=by
  rw [wrB_split,List.take_append,List.take_of_length_le h,List.take_replicate,List.drop_eq_nil_of_le (by rw [List.length_append,List.length_replicate]; omega),List.append_nil]
  congr 3
  omega
theorem Torn.more {X:List UInt8}{L:List (List UInt8)}(h:Torn X L) (s:List UInt8):Torn X (L++[s]):=by
  obtain⟨Z,rfl,h⟩:=h
  exact⟨Z++[(s,0)],by simp,by rw [tornP_app]; exact h.trans (List.prefix_append ..)⟩
theorem Torn.write {X:List UInt8}{L:List (List UInt8)}(h:Torn X L) (s:List UInt8) (k:Nat):Torn (wrB X L.flatten.length (s.take k)) (L++[s]):=by
  have hl:=h.len
  obtain⟨Z,rfl,h⟩:=h
  obtain⟨Z',e1,e2⟩:=torn_pad Z X h
  rw [tornP_len] at e2
  refine⟨Z'++[(s,k)],by rw [List.map_append,e1]; rfl,?_⟩
  rw [wrB_pad hl,e2,tornP_app]
  refine (List.prefix_append_right_inj _).2 ?_
  show _ <+: _++tornP []
  rw [show tornP []=[] from rfl,List.append_nil]
  exact List.prefix_append ..
theorem numL_zero:∀ (n i:Nat),1≤n→(numL n)[i]?≠some 0:=fun n=>by
  induction n using Nat.strongRecOn with
  | _ n ih =>
    intro i hn h
    by_cases hs:n < 128
    · rw [numL_small hs] at h
      cases i with
      | zero =>
        rw [List.getElem?_cons_zero,Option.some.injEq] at h
        have:=congrArg UInt8.toNat h
        rw [UInt8.toNat_ofNat'] at this
        have h0:(0:UInt8).toNat=0:=rfl
        omega
      | succ i => simp at h
    · rw [numL_big (by omega)] at h
      cases i with
      | zero =>
        rw [List.getElem?_cons_zero,Option.some.injEq] at h
        have:=congrArg UInt8.toNat h
        rw [UInt8.toNat_ofNat'] at this
        have h0:(0:UInt8).toNat=0:=rfl
        omega
      | succ i => exact ih (n / 128) (by omega) i (by omega) (by simpa using h)
theorem numL_pre {n m:Nat}{r:List UInt8}(hn:n < 18446744073709551616) (hm:m < 18446744073709551616) (h1:numL n <+: r) (h2:numL m <+: r):n=m:=by
  obtain⟨a,rfl⟩:=h1
  obtain⟨b,hb⟩:=h2
  have e1:=digP_put0 hn a
  have e2:=digP_put0 hm b
  rw [hb,e1] at e2
  exact (Prod.mk.inj e2).1
theorem frB_torn {x X T:List UInt8}{k:Nat}(h1:1≤x.length) (h2:x.length≤65536) (hk:k < (wrapL x).length) (hX:X <+: (wrapL x).take k++List.replicate ((wrapL x).length - k) 0++T):(frB X).2.2≠0:=by
  intro h0
  obtain⟨w1,w2,w3⟩:=frB_wrapped h0
  generalize (frB X).1=y at w1 w2 w3
  have hy:wrapL y <+: (wrapL x).take k++List.replicate ((wrapL x).length - k) 0++T:=(w1 ▸ List.take_prefix _ X:wrapL y <+: X).trans hX
  have hwx:wrapL x=numL x.length++(x++[165]):=by unfold wrapL rowL; rw [List.append_assoc]
  have hwy:wrapL y=numL y.length++(y++[165]):=by unfold wrapL rowL; rw [List.append_assoc]
  have hny:numL y.length <+: (wrapL x).take k++List.replicate ((wrapL x).length - k) 0++T:=(hwy ▸ List.prefix_append ..:numL y.length <+: wrapL y).trans hy
  have hkt:((wrapL x).take k).length=k:=by rw [List.length_take]; omega
  have hz:∀ i,k≤i→i < (wrapL x).length→((wrapL x).take k++List.replicate ((wrapL x).length - k) 0++T)[i]?=some 0:=fun i hi hil=>by
    rw [List.append_assoc,List.getElem?_append_right (by omega),List.getElem?_append_left (by rw [List.length_replicate]; omega),hkt,List.getElem?_replicate,if_pos (by omega)]
  by_cases hm:(numL x.length).length≤k
  · have hnx:numL x.length <+: (wrapL x).take k++List.replicate ((wrapL x).length - k) 0++T:=by
      rw [hwx,List.take_append,List.take_of_length_le hm,List.append_assoc,List.append_assoc]
      exact List.prefix_append ..
    have e:=numL_pre (by omega) (by omega) hny hnx
    have hll:(wrapL y).length=(wrapL x).length:=by rw [hwx,hwy,e]; simp [e]
    have hlast:(wrapL y)[(wrapL y).length - 1]?=some 165:=by
      unfold wrapL
      rw [List.getElem?_append_right (by simp),List.length_append]
      simp
    obtain⟨Q,hQ⟩:=hy
    have hpos:0 < (wrapL y).length:=by omega
    have h3:=hz ((wrapL y).length - 1) (by omega) (by omega)
    rw [← hQ,List.getElem?_append_left (by omega),hlast] at h3
    cases h3
  · by_cases hlt:k < (numL y.length).length
    · obtain⟨Q,hQ⟩:=hny
      have h3:=hz k (Nat.le_refl _) hk
      rw [← hQ,List.getElem?_append_left hlt] at h3
      exact numL_zero _ _ w2 h3
    · have hpp:numL y.length <+: numL x.length:=by
        have h4:numL y.length <+: (wrapL x).take k:=List.prefix_of_prefix_length_le hny (by rw [List.append_assoc]; exact List.prefix_append ..) (by omega)
        refine h4.trans ?_
        rw [hwx,List.take_append_of_le_length (by omega)]
        exact List.take_prefix ..
      have e:=numL_pre (r:=numL x.length) (by omega) (by omega) hpp List.prefix_rfl
      rw [e] at hlt
      omega
theorem frows_stop {X:List UInt8}(h:(frB X).2.2≠0):frowsB X=[]:=by unfold frowsB; rw [scan_stop h]; rfl
theorem frows_step {x Y:List UInt8}(h1:1≤x.length) (h2:x.length≤65536):frowsB (wrapL x++Y)=x :: frowsB Y:=by
  have h:=frB_wrap Y h1 h2
  unfold frowsB
  rw [scan_next (by rw [h]),h]
  simp
theorem frows_torn:∀ (R:List (List UInt8)) (X:List UInt8),(∀ x,x∈R→1≤x.length∧x.length≤65536)→Torn X (R.map wrapL)→frowsB X <+: R
  | [],X,_,h => by
    have:=h.len
    have hX:X=[]:=List.length_eq_zero_iff.1 (by simpa using this)
    rw [hX,frows_nil]; exact List.nil_prefix
  | x :: R,X,hR,h => by
    obtain⟨hx1,hx2⟩:=hR x (by simp)
    obtain⟨Z,e,hX⟩:=h
    obtain⟨z,Z,rfl,hz1,hz2⟩:∃ z Z',Z=z :: Z'∧z.1=wrapL x∧Z'.map (·.1)=R.map wrapL:=by
      cases Z with
      | nil => simp at e
      | cons z Z => rw [List.map_cons,List.map_cons,List.cons.injEq] at e; exact⟨z,Z,rfl,e.1,e.2⟩
    rw [tornP_cons,hz1] at hX
    by_cases hk:z.2 < (wrapL x).length
    · rw [frows_stop (frB_torn hx1 hx2 hk hX)]; exact List.nil_prefix
    · rw [List.take_of_length_le (by omega),show (wrapL x).length - z.2=0 by omega,List.replicate_zero,List.append_nil] at hX
      by_cases hl:X.length < (wrapL x).length
      · have h4:X <+: wrapL x:=List.prefix_of_prefix_length_le hX (List.prefix_append ..) (by omega)
        have h5:=List.prefix_iff_eq_take.1 h4
        rw [frows_stop (frB_torn (T := []) hx1 hx2 hl (by conv => lhs; rw [h5]
                                                          rw [List.append_nil]; exact List.prefix_append ..))]
        exact List.nil_prefix
      · obtain⟨Y,rfl⟩:=List.prefix_of_prefix_length_le (List.prefix_append ..) hX (by omega)
        rw [frows_step hx1 hx2]
        exact List.cons_prefix_cons.2 ⟨rfl,frows_torn R Y (fun x hx=>hR x (List.mem_cons_of_mem _ hx)) ⟨Z,hz2,(List.prefix_append_right_inj _).1 hX⟩⟩
theorem frows_base:∀ (B:List (List UInt8)) (X:List UInt8),(∀ x,x∈B→1≤x.length∧x.length≤65536)→B.flatMap wrapL <+: X→B <+: frowsB X
  | [],X,_,_ => List.nil_prefix
  | x :: B,X,hB,h => by
    obtain⟨Y,rfl⟩:=h
    rw [List.flatMap_cons,List.append_assoc,frows_step (hB x (by simp)).1 (hB x (by simp)).2]
    exact List.cons_prefix_cons.2 ⟨rfl,frows_base B _ (fun x hx=>hB x (List.mem_cons_of_mem _ hx)) (List.prefix_append ..)⟩
def TornD (K:FL) (W:List (List UInt8 × Nat × List UInt8)) (ch:List UInt8→List (List UInt8)):Prop:=∀ (Kf:Nat→Int) (m:List UInt8),Torn (readN (crashR K W Kf 0) m) (ch m)∧readN K m <+: readN (crashR K W Kf 0) m
theorem crashR_snoc:∀ (W:List (List UInt8 × Nat × List UInt8)) (T:FL) (K:Nat→Int) (i:Nat) (e:List UInt8 × Nat × List UInt8),crashR T (W++[e]) K i=if 0 < min (max (K (i+W.length)) 0) (e.2.2.length:Int) then setN e.1 (wrB (readN (crashR T W K i) e.1) e.2.1 (e.2.2.take (min (max (K (i+W.length)) 0) (e.2.2.length:Int)).toNat)) (crashR T W K i) else crashR T W K i
  | [],T,K,i,(n,a,s) => rfl
  | (m,b,t) :: W,T,K,i,e => by
    rw [List.cons_append,crashR,crashR,crashR_snoc W _ K (i+1) e,List.length_cons,show i+1+W.length=i+(W.length+1) by omega]
theorem TornD.write {K:FL}{W:List (List UInt8 × Nat × List UInt8)}{ch:List UInt8→List (List UInt8)}(h:TornD K W ch) {n s:List UInt8}{at0:Nat}(ha:at0=(ch n).flatten.length):TornD K (W++[(n,at0,s)]) (fun m=>ch m++if n=m then [s] else []):=fun Kf m=>by
  rw [crashR_snoc]
  subst ha
  obtain⟨h1,h2⟩:=h Kf m
  simp only
  by_cases hm:n=m
  · subst hm
    rw [if_pos rfl]
    split
    · rw [readN_set,if_pos rfl]
      refine⟨h1.write s _,?_⟩
      show readN K n <+: wrB _ (ch n).flatten.length (List.take _ s)
      rw [wrB_pad h1.len,List.append_assoc]
      exact h2.trans (List.prefix_append ..)
    · exact⟨h1.more s,h2⟩
  · rw [if_neg hm,List.append_nil]
    split
    · rw [readN_set,if_neg (fun e=>hm e.symm)]; exact⟨h1,h2⟩
    · exact⟨h1,h2⟩
theorem TornD.none {K:FL}(ch:List UInt8→List (List UInt8)) (h:∀ m,(ch m).flatten=readN K m):TornD K [] ch:=fun Kf m=>by
  show Torn (readN K m) (ch m)∧readN K m <+: readN K m
  rw [← h]; exact⟨Torn.whole _,List.prefix_rfl⟩
def apd (L:List (List UInt8 × Nat × List UInt8)) (m:List UInt8):List UInt8:=L.flatMap fun e=>if e.1=m then e.2.2 else []
def chL (L:List (List UInt8 × Nat × List UInt8)) (m:List UInt8):List (List UInt8):=L.flatMap fun e=>if e.1=m then [e.2.2] else []
theorem chL_flat (m:List UInt8):∀ L:List (List UInt8 × Nat × List UInt8),(chL L m).flatten=apd L m
  | [] => rfl
  | e :: L => by
    have ih:=chL_flat m L
    unfold chL apd at ih ⊢
    rw [List.flatMap_cons,List.flatMap_cons,List.flatten_append,ih]
    split <;> simp
theorem TornD.writes {K:FL}:∀ (L W:List (List UInt8 × Nat × List UInt8)) (ch:List UInt8→List (List UInt8)),(L.map (·.1)).Nodup→(∀ e,e∈L→e.2.1=(ch e.1).flatten.length)→TornD K W ch→TornD K (W++L) (fun m => ch m++chL L m)
  | [],W,ch,_,_,h => by
    have:(fun m=>ch m++chL [] m)=ch:=funext fun m=>by simp [chL]
    rw [this,List.append_nil]; exact h
  | (n,a,s) :: L,W,ch,hd,ha,h => by
    rw [List.map_cons,List.nodup_cons] at hd
    have h1:=h.write (s:=s) (ha (n,a,s) (by simp))
    have h2:=TornD.writes L (W++[(n,a,s)]) _ hd.2 (fun e he=>by
      have hne:¬ n=e.1:=fun e2=>hd.1 (by rw [e2]; exact List.mem_map.2 ⟨e,he,rfl⟩)
      simp only [if_neg hne,List.append_nil]
      exact ha e (List.mem_cons_of_mem _ he)) h1
    rw [List.append_assoc] at h2
    have e3:(fun m=>(ch m++if n=m then [s] else [])++chL L m)=fun m=>ch m++chL ((n,a,s) :: L) m:=funext fun m=>by
      show _=ch m++((if n=m then [s] else [])++chL L m)
      rw [List.append_assoc]
    rwa [e3] at h2
theorem kind1_nm {m:List UInt8}(h:(kindB m).1=1):∃ u:Nat,u≤1099511627776∧m=nmB 115 (u:Int)∧(kindB m).2.1=u:=by
  unfold kindB at h ⊢
  split at h
  · cases h
  · rename_i h0
    rw [if_neg h0]
    split at h
    · cases h
    · rename_i c l
      split at h
      · rename_i u hu
        obtain⟨h1,h2,-⟩:=numS_some hu
        by_cases hc:c=115
        · subst hc
          refine⟨u,h2,by rw [nmB_of h2,h1],?_⟩
          simp
        · rw [if_neg hc] at h
          split at h <;> cases h
      · cases h
theorem kind2_nm {m:List UInt8}(h:(kindB m).1=2):∃ u:Nat,u≤1099511627776∧m=nmB 99 (u:Int)∧(kindB m).2.1=u:=by
  unfold kindB at h ⊢
  split at h
  · cases h
  · rename_i h0
    rw [if_neg h0]
    split at h
    · cases h
    · rename_i c l
      split at h
      · rename_i u hu
        obtain⟨h1,h2,-⟩:=numS_some hu
        by_cases hc:c=115
        · rw [if_pos hc] at h; cases h
        · rw [if_neg hc] at h
          by_cases hc2:c=99
          · subst hc2
            refine⟨u,h2,by rw [nmB_of h2,h1],?_⟩
            simp
          · rw [if_neg hc2] at h; cases h
      · cases h
theorem named_nm {c:UInt8}{u:Nat}(hc:c=115∨c=99) (hu:u≤1099511627776):namedB (nmB c (u:Int))=true:=by
  rw [nmB_of hu]
  have hl:=dd_len 12 u (by rw [show (10:Nat) ^ (12+1)=10000000000000 by decide]; omega)
  have hd:=(dd_canon u).1
  unfold namedB
  have h1:Nat.ble 1 (c :: Lib.decDigits u).length=true:=by rw [Nat.ble_eq,List.length_cons]; omega
  have h2:Nat.ble (c :: Lib.decDigits u).length 16=true:=by rw [Nat.ble_eq,List.length_cons]; omega
  rw [h1,h2,Bool.true_and,Bool.true_and,List.all_eq_true]
  intro b hb
  unfold okR
  refine decide_eq_true ?_
  rcases List.mem_cons.1 hb with rfl | hb
  · rcases hc with rfl | rfl
    · exact .inr (by decide)
    · exact .inr (by decide)
  · exact .inl (hd b hb)
theorem named_heads:namedB headsB=true:=by decide
theorem wrB_end (X s:List UInt8):wrB X X.length s=X++s:=by
  rw [wrB_pad (Nat.le_refl _),Nat.sub_self,List.replicate_zero,List.append_nil]
theorem setN_put {S:FL}(h:risN S=true) {n s:List UInt8}(hs:s≠[]):setN n s S=ordN (putN S (n,s)):=by
  have hn:=risN_nodup h
  rw [ord_put hn hs,ordN_of_perm h (List.Perm.refl _)]
theorem sumB_set {S:FL}(h:risN S=true) {n s:List UInt8}(hs:s≠[]):sumB (setN n s S)+(readN S n).length=sumB S+s.length:=by
  rw [setN_put h hs,sum_ord (putN_nodup (risN_nodup h))]
  exact sumB_putN S (n,s)
theorem setN_hit {S:FL}(h:risN S=true) {n s:List UInt8}(hs:s≠[]) (hr:readN S n≠[]):(setN n s S).length=S.length:=by
  rw [setN_put h hs,ordN_len (putN_nodup (risN_nodup h))]
  unfold putN
  cases hi:S.findIdx? (fun x=>decide (x.1=n)) with
  | some i => simp
  | none =>
    exfalso
    rw [List.findIdx?_eq_none_iff] at hi
    rcases @readN_mem S n with h2 | h2
    · exact hr h2
    · have:=hi _ h2; simp at this
theorem wrAll_ok {r:Nat}:∀ (L W:List (List UInt8 × Nat × List UInt8)) (S:FL),risN S=true→(L.map (·.1)).Nodup→(∀ e,e∈L→e.2.1=(readN S e.1).length∧namedB e.1=true∧e.2.2≠[])→S.length+cnt0 L≤4096→sumB S+sumS L≤r →
    (wrAll r (S,W) L).2=W++L∧(∀ m,readN (wrAll r (S,W) L).1 m=readN S m++apd L m)∧sumB (wrAll r (S,W) L).1=sumB S+sumS L∧(wrAll r (S,W) L).1.length≤S.length+L.length∧risN (wrAll r (S,W) L).1=true
  | [],W,S,hr,_,_,_,_ => by
    refine⟨by simp [wrAll],fun m=>by simp [wrAll,apd],by simp [wrAll,sumS],by simp [wrAll],hr⟩
  | (n,a,s) :: L,W,S,hr,hd,ha,hc,hu => by
    rw [List.map_cons,List.nodup_cons] at hd
    obtain⟨a1,a2,a3⟩:=ha (n,a,s) (by simp)
    simp only at a1 a2 a3
    have hc1:cnt0 ((n,a,s) :: L)=(if a=0 then 1 else 0)+cnt0 L:=by simp [cnt0]
    have hs1:sumS ((n,a,s) :: L)=s.length+sumS L:=by simp [sumS]
    rw [hc1] at hc
    rw [hs1] at hu
    have hw:wrB (readN S n) a s=readN S n++s:=by rw [a1,wrB_end]
    have hne:readN S n++s≠[]:=by simp [a3]
    have hsum:=sumB_set hr (n:=n) hne
    rw [List.length_append] at hsum
    have hlen:(setN n (readN S n++s) S).length≤S.length+(if a=0 then 1 else 0):=by
      by_cases h0:a=0
      · rw [if_pos h0]; exact setN_few ..
      · rw [if_neg h0,setN_hit hr hne (by intro e; rw [e] at a1; exact h0 a1)]; exact Nat.le_refl _
    have h0:wrR r S n (a:Int) s=0:=by
      unfold wrR
      rw [if_neg (by simp [a2,a3]),if_neg (by omega),if_neg (by
        rintro⟨e1,e2⟩
        rw [e1,List.length_nil] at a1
        rw [if_pos a1] at hc
        omega),if_neg (by rw [Int.toNat_natCast,hw]; omega)]
    have hst:wrAll r (S,W) ((n,a,s) :: L)=wrAll r (setN n (readN S n++s) S,W++[(n,a,s)]) L:=by
      unfold wrAll
      rw [List.foldl_cons]
      unfold wrStep
      rw [if_pos h0,hw]
    have hrd:∀ m,readN (setN n (readN S n++s) S) m=readN S m++if n=m then s else []:=fun m=>by
      rw [readN_set]
      by_cases hm:m=n
      · subst hm; rw [if_pos rfl,if_pos rfl]
      · rw [if_neg hm,if_neg (fun e=>hm e.symm),List.append_nil]
    obtain⟨i1,i2,i3,i4,i5⟩:=wrAll_ok (r:=r) L (W++[(n,a,s)]) (setN n (readN S n++s) S) (setN_ris _ _ hr) hd.2 (fun e he=>by
      obtain⟨b1,b2,b3⟩:=ha e (List.mem_cons_of_mem _ he)
      refine⟨?_,b2,b3⟩
      rw [hrd,if_neg (fun e2=>hd.1 (by rw [e2]; exact List.mem_map.2 ⟨e,he,rfl⟩)),List.append_nil]
      exact b1) (by omega) (by omega)
    rw [hst]
    refine⟨by rw [i1,List.append_assoc]; rfl,fun m=>?_,by rw [i3,hs1]; omega,?_,i5⟩
    · rw [i2,hrd,List.append_assoc]; rfl
    · rw [List.length_cons]
      split at hlen <;> omega
structure LInv (P n:Nat) (S:FL) (R:List (List UInt8)):Prop where
  sg:∀ k:Nat,k≤1099511627776→readN S (nmB 115 (k:Int))=(segK P R k).flatMap wrapL
  hd:readN S headsB=wantH P n R
theorem segK_far {P k:Nat}{R:List (List UInt8)}(h:R.length≤k * P):segK P R k=[]:=by unfold segK; rw [List.drop_of_length_le h,List.take_nil]
theorem LInv.nil (P n:Nat):LInv P n [] []:=by
  refine⟨fun k _=>by rw [segK_far (by simp)]; rfl,?_⟩
  unfold wantH
  rw [List.length_nil,Nat.zero_div]; rfl
theorem segK_row {P k:Nat}{R:List (List UInt8)}{row:List UInt8}(hP:1≤P):segK P (R++[row]) k=segK P R k++if k=R.length / P then [row] else []:=by
  have h:=segK_snoc (P:=P) (i:=R.length) (k:=k) (R:=R++[row]) hP (by simp)
  rw [List.take_of_length_le (by simp),List.take_append_of_le_length (Nat.le_refl _),List.take_length,List.getElem?_append_right (Nat.le_refl _),Nat.sub_self] at h
  exact h
theorem wantH_row {P n:Nat}{R:List (List UInt8)}{row:List UInt8}(hP:1≤P):wantH P n (R++[row])=wantH P n R++if sealsP P R=true then wrapL (putH (hdK P n (R++[row]) (R.length / P))) else []:=by
  have hm:R.length / P * P≤R.length:=Nat.div_mul_le_self ..
  unfold wantH
  rw [div_full hP]
  by_cases h:sealsP P R=true
  · rw [if_pos h,if_pos h,hdsB_snoc,hdsB_app hm,List.map_append,List.flatMap_append]; simp
  · rw [if_neg h,if_neg h,Nat.add_zero,hdsB_app hm,List.append_nil]
theorem snapOk_all {S:FL}:∀ {M:FL}{seen:List (List UInt8)},snapOk S seen M=true→(∀ p,p∈M→(kindB p.1).1=2∧p.2≠[]∧p.1 ∉ seen∧readN S p.1=[])∧(M.map (·.1)).Nodup
  | [],seen,_ =>⟨fun p hp => absurd hp List.not_mem_nil,List.nodup_nil⟩
  | p :: M,seen,h => by
    rw [snapOk] at h
    split at h
    · cases h
    · rename_i hc
      simp only [not_or,ne_eq,Decidable.not_not] at hc
      obtain⟨c1,c2,c3,c4⟩:=hc
      obtain⟨i1,i2⟩:=snapOk_all h
      refine⟨fun q hq=>?_,?_⟩
      · rcases List.mem_cons.1 hq with rfl | hq
        · exact⟨c1,c2,c3,c4⟩
        · obtain⟨d1,d2,d3,d4⟩:=i1 q hq
          exact⟨d1,d2,fun e=>d3 (List.mem_append.2 (.inl e)),d4⟩
      · rw [List.map_cons,List.nodup_cons]
        refine⟨fun e=>?_,i2⟩
        obtain⟨q,hq,e2⟩:=List.mem_map.1 e
        exact (i1 q hq).2.2.1 (by simp [e2])
theorem appE_ok {r P n:Nat}{S:FL}{R:List (List UInt8)}{row:List UInt8}{M:FL}(h:appE r P n S R row M=0):row≠[]∧snapOk S [] M=true∧row.length≤65536∧S.length+cnt0 (actL P n S R row M)≤4096∧sumB S+sumS (actL P n S R row M)≤r:=by
  unfold appE at h
  split at h
  · cases h
  · rename_i h1
    split at h
    · cases h
    · rename_i h2
      split at h
      · cases h
      · rename_i h3
        split at h
        · cases h
        · rename_i h4
          simp only [not_or,Bool.not_eq_false] at h1
          exact⟨h1.1,h1.2,by omega,by omega,by omega⟩
theorem actL_ok {P n:Nat}{S:FL}{R:List (List UInt8)}{row:List UInt8}{M:FL}(hR:R.length≤1099511627776) (hs:snapOk S [] M=true) :
    ((actL P n S R row M).map (·.1)).Nodup∧(∀ e,e∈actL P n S R row M→e.2.1=(readN S e.1).length∧namedB e.1=true∧e.2.2≠[]) ∧
    (∀ k:Nat,k≤1099511627776→chL (actL P n S R row M) (nmB 115 (k:Int))=if k=R.length / P then [wrapL row] else [])∧apd (actL P n S R row M) headsB=(if sealsP P R=true then wrapL (putH (hdK P n (R++[row]) (R.length / P))) else []) ∧
    (∀ m,(∀ k:Nat,k≤1099511627776→m≠nmB 115 (k:Int))→m≠headsB→apd (actL P n S R row M) m=readN M m):=by
  obtain⟨h1,h2⟩:=snapOk_all hs
  have hK:R.length / P≤1099511627776:=Nat.le_trans (Nat.div_le_self ..) hR
  have hw:∀ x,wrapL x≠[]:=fun x=>by simp [wrapL]
  have k3:(kindB headsB).1=3:=by decide
  have hMs:∀ k:Nat,k≤1099511627776→∀ p,p∈M→p.1≠nmB 115 (k:Int):=fun k hk p hp e=>by
    have:=(h1 p hp).1
    rw [e,kindB_nm hk] at this; cases this
  have hMh:∀ p,p∈M→p.1≠headsB:=fun p hp e=>by
    have:=(h1 p hp).1
    rw [e,k3] at this; cases this
  have hM0:∀ m,(∀ p,p∈M→p.1≠m)→(M.map (fun p=>(p.1,0,p.2)):List (List UInt8 × Nat × List UInt8)).flatMap (fun e=>if e.1=m then [e.2.2] else [])=[]:=fun m hm=>by
    rw [List.flatMap_eq_nil_iff]
    intro e he
    obtain⟨p,hp,rfl⟩:=List.mem_map.1 he
    rw [if_neg (hm p hp)]
  refine⟨?_,fun e he=>?_,fun k hk=>?_,?_,fun m hm hmh=>?_⟩
  · unfold actL
    rw [List.map_append,List.map_cons,List.map_map]
    have hnd:((nmB 115 ((R.length / P:Nat):Int)) :: M.map (·.1)).Nodup:=by
      rw [List.nodup_cons]
      exact⟨fun e=>by obtain⟨p,hp,e2⟩:=List.mem_map.1 e; exact hMs _ hK p hp e2,h2⟩
    split
    · rw [List.nodup_append]
      refine⟨hnd,by simp,fun a ha b hb=>?_⟩
      have hb':b=headsB:=by simpa using hb
      subst hb'
      rcases List.mem_cons.1 ha with rfl | ha
      · exact nmB_heads hK
      · obtain⟨p,hp,rfl⟩:=List.mem_map.1 ha
        exact hMh p hp
    · rw [List.map_nil,List.append_nil]; exact hnd
  · unfold actL at he
    rcases List.mem_append.1 he with he | he
    · rcases List.mem_cons.1 he with rfl | he
      · exact⟨rfl,named_nm (.inl rfl) hK,hw _⟩
      · obtain⟨p,hp,rfl⟩:=List.mem_map.1 he
        obtain⟨g1,g2,-,g4⟩:=h1 p hp
        obtain⟨u,hu,e,-⟩:=kind2_nm g1
        exact⟨by show 0=(readN S p.1).length; rw [g4]; rfl,by show namedB p.1=true; rw [e]; exact named_nm (.inr rfl) hu,g2⟩
    · split at he
      · obtain rfl:=List.mem_singleton.1 he
        exact⟨rfl,named_heads,hw _⟩
      · cases he
  · unfold chL actL
    rw [List.flatMap_append,List.flatMap_cons,hM0 _ (hMs k hk),List.append_nil]
    have e2:(if sealsP P R=true then [(headsB,(readN S headsB).length,wrapL (putH (hdK P n (R++[row]) (R.length / P))))] else []).flatMap (fun e:List UInt8 × Nat × List UInt8=>if e.1=nmB 115 (k:Int) then [e.2.2] else [])=[]:=by
      split
      · rw [List.flatMap_cons,if_neg (fun e=>nmB_heads hk e.symm)]; rfl
      · rfl
    rw [e2,List.append_nil]
    by_cases hkk:k=R.length / P
    · subst hkk; rw [if_pos rfl,if_pos rfl]
    · rw [if_neg (fun e=>hkk (nmB_inj hk hK e.symm)),if_neg hkk]
  · rw [← chL_flat]
    unfold chL actL
    rw [List.flatMap_append,List.flatMap_cons,hM0 _ hMh,if_neg (nmB_heads hK)]
    split
    · simp
    · simp
  · rw [← chL_flat]
    unfold chL actL
    rw [List.flatMap_append,List.flatMap_cons,if_neg (fun e=>hm _ hK e.symm)]
    have e2:(if sealsP P R=true then [(headsB,(readN S headsB).length,wrapL (putH (hdK P n (R++[row]) (R.length / P))))] else []).flatMap (fun e:List UInt8 × Nat × List UInt8=>if e.1=m then [e.2.2] else [])=[]:=by
      split
      · rw [List.flatMap_cons,if_neg (fun e=>hmh e.symm)]; rfl
      · rfl
    rw [e2,List.append_nil,List.nil_append]
    clear hM0 hMs hMh h1 hs e2
    induction M with
    | nil => rfl
    | cons p M ih =>
      rw [List.map_cons,List.nodup_cons] at h2
      rw [List.map_cons,List.flatMap_cons,List.flatten_append,ih h2.2,readN_cons]
      by_cases hp:p.1=m
      · subst hp
        rw [if_pos rfl,if_pos rfl]
        rw [readN_no (fun q hq e=>h2.1 (List.mem_map.2 ⟨q,hq,e⟩))]
        simp
      · rw [if_neg hp,if_neg hp]; rfl
theorem app_ok {r P n:Nat}{S:FL}{R:List (List UInt8)}{row:List UInt8}{M:FL}(W:List (List UInt8 × Nat × List UInt8)) (hP:1≤P) (hR:R.length≤1099511627776) (hI:LInv P n S R) (hr:risN S=true) (h0:appE r P n S R row M=0) :
    (wrAll r (S,W) (actL P n S R row M)).2=W++actL P n S R row M∧LInv P n (wrAll r (S,W) (actL P n S R row M)).1 (R++[row])∧(∀ m,readN (wrAll r (S,W) (actL P n S R row M)).1 m=readN S m++apd (actL P n S R row M) m) ∧
    sumB (wrAll r (S,W) (actL P n S R row M)).1=sumB S+sumS (actL P n S R row M)∧(wrAll r (S,W) (actL P n S R row M)).1.length≤S.length+(M.length+2)∧risN (wrAll r (S,W) (actL P n S R row M)).1=true:=by
  obtain⟨g1,g2,g3,g4,g5⟩:=appE_ok h0
  obtain⟨a1,a2,a3,a4,a5⟩:=actL_ok (P:=P) (n:=n) (row:=row) hR g2
  obtain⟨w1,w2,w3,w4,w5⟩:=wrAll_ok _ W S hr a1 a2 g4 g5
  refine⟨w1,⟨fun k hk=>?_,?_⟩,w2,w3,?_,w5⟩
  · rw [w2,hI.sg k hk,← chL_flat,a3 k hk,segK_row hP,List.flatMap_append]
    congr 1
    split <;> simp
  · rw [w2,hI.hd,a4,wantH_row hP]
  · have:(actL P n S R row M).length≤M.length+2:=by
      unfold actL
      rw [List.length_append,List.length_cons,List.length_map]
      split
      · simp
      · simp
    omega
theorem wrapL_most {x:List UInt8}(h:x.length≤65536):(wrapL x).length≤x.length+4:=by
  have:=numL_len 2 x.length (by omega)
  have:=wrapL_len x
  omega
theorem actL_one {P n:Nat}{S:FL}{R:List (List UInt8)}{row:List UInt8}(hrow:row.length≤65536) (hn:n≤32) (hmx:sealsP P R=true→mayH (hdK P n (R++[row]) (R.length / P)) n=true):sumS (actL P n S R row [])≤row.length+139∧cnt0 (actL P n S R row [])≤2:=by
  have h1:=wrapL_most hrow
  have h2:=cnt0_le (actL P n S R row [])
  unfold actL at h2 ⊢
  by_cases hs:sealsP P R=true
  · have h3:=wraps_len hn [hdK P n (R++[row]) (R.length / P)] fun x hx => by rw [List.mem_singleton.1 hx]; exact hmx hs
    simp only [List.map_cons,List.map_nil,List.flatMap_cons,List.flatMap_nil,List.append_nil,List.length_singleton] at h3
    rw [if_pos hs] at h2 ⊢
    simp only [List.map_nil,List.cons_append,List.nil_append,List.length_cons,List.length_nil] at h2 ⊢
    refine⟨?_,h2⟩
    simp only [sumS,List.map_cons,List.map_nil,List.sum_cons,List.sum_nil]
    omega
  · rw [if_neg hs] at h2 ⊢
    simp only [List.map_nil,List.append_nil,List.length_cons,List.length_nil] at h2 ⊢
    refine⟨?_,by omega⟩
    simp only [sumS,List.map_cons,List.map_nil,List.sum_cons,List.sum_nil]
    omega
theorem app_fits {r P n:Nat}{S:FL}{R:List (List UInt8)}{row:List UInt8}(h1:1≤row.length) (hrow:row.length≤65536) (hn:n≤32) (hmx:sealsP P R=true→mayH (hdK P n (R++[row]) (R.length / P)) n=true) (hS:S.length≤4094) (hu:sumB S+row.length+139≤r):appE r P n S R row []=0:=by
  obtain⟨a1,a2⟩:=actL_one (S:=S) hrow hn hmx
  unfold appE
  rw [if_neg (by
    rintro (e | e)
    · rw [e] at h1; cases h1
    · cases e),if_neg (by omega),if_neg (by omega),if_neg (by omega)]
theorem filesB_okL {P n:Nat}{R:List (List UInt8)}(hP:1≤P∧P≤64) (hn:n≤32) (eR:R.length≤40) (hx:∀ x,x∈R→x.length≤300):(filesB P n R).length≤60∧(∀ p,p∈filesB P n R→p.2.length≤20000):=by
  have h1:=logF_few P R R.length
  have h2:=setN_few headsB (((hdsB P n R (R.length / P)).map putH).flatMap wrapL) (logF P R R.length)
  have hm:=logF_mem (P:=P) hx (by omega) R.length (Nat.le_refl _)
  have hKl:=Nat.div_le_self R.length P
  have hw:=wraps_len hn (hdsB P n R (R.length / P)) fun x h=>by
    unfold hdsB at h
    obtain⟨k,hk,rfl⟩:=List.mem_map.1 h
    exact hdK_may hP hn (by omega) (fun x h=>by have:=hx x h; omega) ((Nat.le_div_iff_mul_le (by omega)).1 (List.mem_range.1 hk))
  rw [hdsB_len] at hw
  have hk2:R.length / P * 135≤40 * 135:=Nat.mul_le_mul_right _ (by omega)
  have hl2:R.length * (300+3)≤40 * (300+3):=Nat.mul_le_mul_right _ eR
  refine⟨by unfold filesB; omega,fun p hp=>?_⟩
  rcases (setN_mem _ _ _ _).1 hp with⟨-,rfl⟩ | ⟨h3,-⟩
  · show (((hdsB P n R (R.length / P)).map putH).flatMap wrapL).length≤20000
    omega
  · have:=(hm p h3).2; omega
def opB (L:Nat) (F:FL) (p:List UInt8 × List UInt8):List UInt8 :=
  if (kindB p.1).1=1 then readN F p.1 else if (kindB p.1).1=2∧(L:Int) < (kindB p.1).2.1 then [] else if (kindB p.1).1=3 then p.2.take (comL p.2 (readN F headsB)) else p.2
def opF (L:Nat) (F:FL) (S:FL):FL:=S.flatMap fun p=>if opB L F p=[] then [] else [(p.1,opB L F p)]
theorem Tryz.rOpen_w (P n r:Nat) (S:FL) (c3 c4:Int) (a ka pa:Option Addr) (cap kn kc pc:Nat) (w:World) (hP:1≤P∧P≤64) (hn:n≤32) (hS:S.length≤4096) (hrd:∀ p,p∈S→p.1.length≤9223372036854775807∧p.2.length≤1048576) (hr:SlOk w a (fl S)) (R:List (List UInt8)) (eW:rowsS P S=R) (eR:R.length≤40) (hx:∀ x,x∈R→x.length≤300)
    (F:FL) (hF:filesB P n R=F) (T:FL) (hT:opF R.length F S=T) (hu:sumB T≤1048576) (gr:r≤9223372036854775807)
    (hw:(readN T headsB).length < (readN F headsB).length→wrR r T headsB ((readN T headsB).length:Nat) ((readN F headsB).drop (readN T headsB).length)=0) :
    Tri Tryz.prog 35 [.agg ⟨keyC⟩,.agg ⟨[.int .i64 P,.int .i64 n,.int .i64 c3,.int .i64 c4]⟩,.agg ⟨rdV (.slice a S.length cap) (.slice ka kn kc) (.slice pa 0 pc) r⟩] w [] (fun v bx hp=>∃ (T':FL) (g:Option Nat) (c:Nat) (a1:Option Nat) (c1:Nat),
      T'=(if (readN T headsB).length < (readN F headsB).length then setN headsB (wrB (readN T headsB) (readN T headsB).length ((readN F headsB).drop (readN T headsB).length)) T else T) ∧
      v=.tuple #[sv g R.length c,.agg ⟨rdV (sv a1 T'.length c1) (sv a1 T'.length c1) (.slice none 0 0) r⟩,.int .i64 0]∧bx=[]∧hp=[Seg.row a1 57 2 T'.length c1 (fl T'),Seg.row g 9 1 R.length c (R.map str)]):=by
  have hrS:∀ x,(readN S x).length≤2000000:=fun x=>by
    rcases @readN_mem S x with h | h
    · rw [h]; simp
    · have h2:(readN S x).length≤1048576:=(hrd _ h).2
      omega
  have hFk:=filesB_okL hP hn eR hx
  rw [hF] at hFk
  refine Tri.enter (bx:=[]) (hp:=[]) Tryz.func35 rfl (by kernel_rfl) rfl (Own.nil w) ?_
  refine At.go [] [] rfl oK ?_
  refine At.bo fun b3 hb3=>?_
  refine At.bo fun b4 hb4=>?_
  refine At.bo fun b5 hb5=>?_
  refine At.go [] [] rfl oK ?_
  refine At.al fun b7 hb7=>?_
  refine At.go [] [hB 2,hB 1] rfl oK ?_
  refine At.step [] rfl rfl rfl rfl rfl trivial (OpOk.call rfl (fun w' hw'=>Tryz.rRows_w P n S c3 c4 a cap w' hP (by omega) hrS (hr.ext hw'.ext (by simp [kys]))) ?_)
  rw [eW]
  rintro _ _ _ ⟨gR,cR,rfl,rfl,rfl⟩
  refine At.rowCap 0 rfl fun hcR=>?_
  refine At.go [] [hK (.agg { toList:=keyC }),hB 2] rfl (by and_intros <;> first | exact Tryz.key_ld (i:=3) rfl | exact oK) ?_
  refine At.step [] rfl rfl rfl rfl rfl trivial (OpOk.call rfl (fun w' hw'=>Tryz.rFiles_w P n R c3 c4 (svA gR) cR w' hP hn eR hcR (fun x h=>by have:=hx x h; omega) (SlOk.row (hw'.hp _ (nth_mem (i:=0) rfl)))) ?_)
  rw [hF]
  rintro _ _ _ ⟨gF,cF,rfl,rfl,rfl⟩
  obtain⟨H,hH⟩:∃ H,readN F headsB=H:=⟨_,rfl⟩
  rw [hH] at hw ⊢
  have fH:∀ {bx:Bx}{hp:List Seg},nth hp 0=some (Seg.row gF 57 2 F.length cF (fl F))→CallOb Tryz.prog ⟨w,kys [] []⟩ bx hp 63 [.slice (svA gF) F.length cF,.string ⟨#[104,101,97,100,115]⟩] (str H):=fun {_ _} h w' hw'=>hH ▸ Tryz.r9Read_w F headsB (svA gF) cF w' (by omega) (SlOk.row (hw'.hp _ (nth_mem h)))
  refine At.go [] [hC (.string { data:=H.toArray })] rfl (by and_intros <;> first | exact fH rfl | exact oK) ?_
  refine At.nilRow 57 2 ?_
  have hdr0:opF R.length F (S.drop S.length)=[]:=by rw [List.drop_length]; rfl
  refine At.loop (env0:=[(5,.pointer (some ⟨b5,0,none⟩)),(7,.pointer (some ⟨b7,0,none⟩)),(9,.slice (svA gR) R.length cR),(10,.slice (svA gF) (List.length F) cF),(11,.string { data:=H.toArray }),(12,.slice none 0 0),(13,.int .i64 0)]) (fun m_ env bx hp => ∃ (i:Nat) (U:FL) (g:Option Nat) (c:Nat),m_=S.length - i∧(i≤S.length)∧(U.length≤i)∧(U++opF R.length F (S.drop i)=T)∧env=[(5,.pointer (some ⟨b5,0,none⟩)),(7,.pointer (some ⟨b7,0,none⟩)),(9,.slice (svA gR) R.length cR),(10,.slice (svA gF) (List.length F) cF),(11,.string { data:=H.toArray }),(12,sv g U.length c),(13,.int .i64 (i:Int))]∧bx=[(b7,71,[.slice none 0 0,.slice none 0 0,.slice none 0 0,.int .i64 0]),(b5,71,[.slice a (List.length S) cap,.slice ka kn kc,.slice pa 0 pc,.int .i64 ↑r]),(b4,23,[.int .i64 ↑P,.int .i64 ↑n,.int .i64 c3,.int .i64 c4]),(b3,36,keyC)]∧hp=[Seg.row g 57 2 U.length c (fl U),Seg.row gF 57 2 (List.length F) cF (fl F),Seg.row gR 9 1 R.length cR (List.map str R)]) rfl
    ⟨0,[],none,0,rfl,(Nat.zero_le _),(Nat.le_refl _),(hT),rfl,rfl,rfl⟩ sB ?_
  rintro m_ env bx hp ⟨i,U,g,c,rfl,hi,gU,eU,rfl,rfl,rfl⟩ ih
  by_cases hlt:i < S.length
  · obtain⟨p,hp⟩:∃ p,S[i]?=some p:=⟨_,List.getElem?_eq_getElem hlt⟩
    have hpl:=hrd p (List.mem_of_getElem? hp)
    obtain⟨ga,o,rfl,hc⟩:=hr.get (fl_ne (by intro h; rw [h] at hlt; simp at hlt))
    have rA:∀ {bx:Bx}{hp:List Seg},RdW ⟨w,kys [] []⟩ bx hp ga (o+(i:Int).toNat * 2) [str p.1,str p.2]:=fun {_ _}=>RdW.fileE hc (by simp [kys]) hp (by omega)
    obtain⟨kd,kn',ok,hK⟩:∃ kd n ok,kindB p.1=(kd,n,ok):=⟨_,_,_,rfl⟩
    have fC:∀ {S:Base}{bx:Bx}{hp:List Seg},CallOb Tryz.prog S bx hp 69 [str p.1] (.tuple #[.int .i64 kd,.int .i64 kn',.bool ok]):=fun {_ _ _} w' _=>by
      have:=Tryz.rKind_w p.1 w' hpl.1; rwa [hK] at this
    have hst:opF R.length F (S.drop i)=(if opB R.length F p=[] then [] else [(p.1,opB R.length F p)])++opF R.length F (S.drop (i+1)):=by
      obtain⟨h1,h2⟩:=List.getElem?_eq_some_iff.1 hp
      rw [List.drop_eq_getElem_cons h1,h2]; rfl
    have hO:opB R.length F p=if kd=1 then readN F p.1 else if kd=2∧(R.length:Int) < kn' then [] else if kd=3 then p.2.take (comL p.2 H) else p.2:=by unfold opB; rw [hK,hH]
    obtain⟨O,hO0⟩:∃ O,opB R.length F p=O:=⟨_,rfl⟩
    rw [hO0] at hst hO
    refine At.go [true] [hB 1,hB 1,hR [.string { data:=p.fst.toArray },.string { data:=p.snd.toArray }]] rfl (by and_intros <;> first | exact rA | exact fC | exact decide_eq_true (by omega) | exact oK) ?_
    refine At.al fun b14 hb14=>?_
    refine At.go [] [hB 0,hB 0,hC (.tuple ⟨[.int .i64 kd,.int .i64 kn',.bool ok]⟩)] rfl (by and_intros <;> first | exact rA | exact fC | exact decide_eq_true (by omega) | exact oK) ?_
    refine At.cutU (ι:=Unit) ⟨0,[0,1,1,1,1,1,0,0,1,0,0,1,0,1,1,1,1,1],[]⟩ (fun _ => [(5,.pointer (some ⟨b5,0,none⟩)),(7,.pointer (some ⟨b7,0,none⟩)),(9,.slice (svA gR) R.length cR),(10,.slice (svA gF) F.length cF),(11,str H),(12,.slice (svA g) U.length c),(13,.int .i64 (i:Int)),(14,.pointer (some ⟨b14,0,none⟩))])
      (fun _=>[(b14,57,[str p.1,str O]),(b7,71,[.slice none 0 0,.slice none 0 0,.slice none 0 0,.int .i64 0]),(b5,71,[.slice (some ⟨ga,o,none⟩) S.length cap,.slice ka kn kc,.slice pa 0 pc,.int .i64 r]),(b4,23,[.int .i64 P,.int .i64 n,.int .i64 c3,.int .i64 c4]),(b3,36,keyC)]) ?_ fun hk=>?_
    · rintro -
      by_cases ho:O=[]
      · rw [if_pos ho,List.nil_append] at hst
        rw [hst] at eU
        refine At.go [false] [hB 0] rfl (by and_intros <;> first | (simp only [bl_of]; simp [ho]; done) | (simp; done) | exact oK) ?_
        refine At.keep [false,true,true,true,true] [true,true,true] rfl ?_
        exact At.weak (ih _ _ _ _ (by omega) ⟨i+1,U,g,c,rfl,by omega,by omega,eU,rfl,rfl,rfl⟩) sB
      · rw [if_neg ho] at hst
        rw [hst,← List.append_assoc] at eU
        refine At.go [true] [hB 0,hB 0] rfl (by and_intros <;> first | (simp only [bl_of]; simp [ho]; done) | (simp; done) | exact oK) ?_
        refine At.a1 0 2 32 fun b102 a103 c103=>?_
        refine At.go [] [] rfl (by and_intros <;> first | (simp only; simp [ho,bl]; done) | (simp; done) | exact oK) ?_
        rw [show fl U++[str p.1,str O]=fl (U++[(p.1,O)]) by simp [fl,flC],show U.length+1=(U++[(p.1,O)]).length by simp]
        refine At.keep [false,true,true,true,true] [true,true,true] rfl ?_
        exact At.weak (ih _ _ _ _ (by omega) ⟨i+1,U++[(p.1,O)],a103,c103,rfl,by omega,by rw [List.length_append,List.length_singleton]; omega,eU,rfl,rfl,rfl⟩) sB
    have fF:∀ {bx:Bx}{hp:List Seg},nth hp 1=some (Seg.row gF 57 2 F.length cF (fl F))→CallOb Tryz.prog ⟨w,kys [] []⟩ bx hp 63 [.slice (svA gF) F.length cF,str p.1] (str (readN F p.1)):=fun {_ _} h w' hw'=>Tryz.r9Read_w F p.1 (svA gF) cF w' (by omega) (SlOk.row (hw'.hp _ (nth_mem h)))
    by_cases h1:kd=1
    · rw [if_pos h1] at hO
      subst hO
      refine At.gn 27 [true,false,false,false] [hB 0,hC (.string { data:=(readN F p.fst).toArray }),hB 0,hB 0] rfl (by and_intros <;> first | exact fF rfl | exact decide_eq_true h1 | (simp [Value.oneCell']; done) | exact oK) ?_
      exact At.weak (hk ()) sB
    rw [if_neg h1] at hO
    by_cases h2:kd=2∧(R.length:Int) < kn'
    · rw [if_pos h2] at hO
      subst hO
      refine At.gn 27 [false,true,true,false,false] [hB 0,hB 0] rfl (by and_intros <;> first | exact decide_eq_false h1 | exact decide_eq_true h2.1 | exact decide_eq_true h2.2 | (simp [Value.oneCell']; done) | exact oK) ?_
      exact At.weak (hk ()) sB
    rw [if_neg h2] at hO
    by_cases h3:kd=3
    · rw [if_pos h3] at hO
      have hcm:=comL_le p.2 H
      have h22:¬ kd=2:=by omega
      refine At.go [false,false,false,true] [] rfl (by and_intros <;> first | exact decide_eq_false h1 | exact decide_eq_false h22 | exact decide_eq_true h3 | exact oK) ?_
      refine At.loop (env0:=[(5,.pointer (some ⟨b5,0,none⟩)),(7,.pointer (some ⟨b7,0,none⟩)),(9,.slice (svA gR) R.length cR),(10,.slice (svA gF) (List.length F) cF),(11,.string { data:=H.toArray }),(12,.slice (svA g) (List.length U) c),(13,.int .i64 ↑i),(14,.pointer (some ⟨b14,0,none⟩)),(18,.int .i64 0)]) (fun m_ env bx hp => ∃ (j:Nat),m_=p.2.length - j∧(j≤p.2.length∧j≤H.length)∧(comL p.2 H=j+comL (p.2.drop j) (H.drop j))∧env=[(5,.pointer (some ⟨b5,0,none⟩)),(7,.pointer (some ⟨b7,0,none⟩)),(9,.slice (svA gR) R.length cR),(10,.slice (svA gF) (List.length F) cF),(11,.string { data:=H.toArray }),(12,.slice (svA g) (List.length U) c),(13,.int .i64 ↑i),(14,.pointer (some ⟨b14,0,none⟩)),(18,.int .i64 (j:Int))]∧bx=[(b14,57,[.string { data:=p.fst.toArray },.string { data:=p.snd.toArray }]),(b7,71,[.slice none 0 0,.slice none 0 0,.slice none 0 0,.int .i64 0]),(b5,71,[.slice (some ⟨ga,o,none⟩) (List.length S) cap,.slice ka kn kc,.slice pa 0 pc,.int .i64 ↑r]),(b4,23,[.int .i64 ↑P,.int .i64 ↑n,.int .i64 c3,.int .i64 c4]),(b3,36,keyC)]∧hp=[Seg.row g 57 2 (List.length U) c (fl U),Seg.row gF 57 2 (List.length F) cF (fl F),Seg.row gR 9 1 R.length cR (List.map str R)]) rfl
        ⟨0,rfl,(⟨Nat.zero_le _,Nat.zero_le _⟩),(by simp),rfl,rfl,rfl⟩ sB ?_
      rintro m_ env bx hp ⟨j,rfl,gj,gc,rfl,rfl,rfl⟩ ihx
      by_cases j1:j < p.2.length
      · by_cases j2:j < H.length
        · obtain⟨x,hx1⟩:∃ x,p.2[j]?=some x:=⟨_,List.getElem?_eq_getElem j1⟩
          obtain⟨y,hy⟩:∃ y,H[j]?=some y:=⟨_,List.getElem?_eq_getElem j2⟩
          have hh:=comL_hit hx1 hy
          have ea:((bl ⟨p.2.toArray⟩)[(j:Int).toNat]?.getD 0)=x:=by rw [bl_of,Int.toNat_natCast,hx1]; rfl
          have eb:((bl ⟨H.toArray⟩)[(j:Int).toNat]?.getD 0)=y:=by rw [bl_of,Int.toNat_natCast,hy]; rfl
          by_cases hxy:x=y
          · rw [if_pos hxy] at hh
            refine At.go [] [] rfl oK ?_
            refine At.qt [true,true] [hB 0,hB 0] rfl rfl (by and_intros <;> first | (rw [bl_of]; exact decide_eq_true (by omega)) | (rw [bl_of]; exact decide_eq_false (by omega)) | (rw [bl_of]; omega) | (rw [ea,eb,hxy]; exact decide_eq_true rfl) | omega | exact oK) ?_
            refine At.go [true] [] rfl (by and_intros <;> first | (rw [ea,eb,hxy]; exact decide_eq_true rfl) | (rw [bl_of]; exact decide_eq_true (by omega)) | (rw [bl_of]; exact decide_eq_false (by omega)) | (rw [bl_of]; omega) | exact oK) ?_
            exact At.weak (ihx _ _ _ _ (by omega) ⟨j+1,rfl,by omega,by omega,rfl,rfl,rfl⟩) sB
          · rw [if_neg hxy] at hh
            have hu9:¬ ((x.toNat:Int)=(y.toNat:Int)):=fun e=>hxy (UInt8.toNat_inj.1 (by omega))
            refine At.go [] [] rfl oK ?_
            refine At.qt [true,true] [hB 0,hB 0] rfl rfl (by and_intros <;> first | (rw [bl_of]; exact decide_eq_true (by omega)) | (rw [bl_of]; exact decide_eq_false (by omega)) | (rw [bl_of]; omega) | (rw [ea,eb]; exact decide_eq_false hu9) | omega | exact oK) ?_
            refine At.gn 12 [false] [hB 0,hB 0,hB 0] rfl (by and_intros <;> first | (rw [ea,eb]; exact decide_eq_false hu9) | (rw [bl_of]; exact decide_eq_true (by omega)) | (rw [bl_of]; exact decide_eq_false (by omega)) | (rw [bl_of]; omega) | exact oK) ?_
            rw [show O=p.2.take j by rw [hO,show comL p.2 H=j by omega]] at hk
            exact At.weak (hk ()) sB
        · rw [comL_end (.inr (by omega))] at gc
          refine At.go [] [] rfl oK ?_
          refine At.qt [true,false] [hB 0] rfl rfl (by and_intros <;> first | (rw [bl_of]; exact decide_eq_true (by omega)) | (rw [bl_of]; exact decide_eq_false (by omega)) | (rw [bl_of]; omega) | omega | exact oK) ?_
          refine At.gn 12 [false] [hB 0,hB 0,hB 0] rfl (by and_intros <;> first | (rw [bl_of]; exact decide_eq_true (by omega)) | (rw [bl_of]; exact decide_eq_false (by omega)) | (rw [bl_of]; omega) | exact oK) ?_
          rw [show O=p.2.take j by rw [hO,show comL p.2 H=j by omega]] at hk
          exact At.weak (hk ()) sB
      · rw [comL_end (.inl (by omega))] at gc
        refine At.go [] [] rfl oK ?_
        refine At.qt [false,false] [hB 0] rfl rfl (by and_intros <;> first | (rw [bl_of]; exact decide_eq_true (by omega)) | (rw [bl_of]; exact decide_eq_false (by omega)) | (rw [bl_of]; omega) | omega | exact oK) ?_
        refine At.gn 12 [false] [hB 0,hB 0,hB 0] rfl (by and_intros <;> first | (rw [bl_of]; exact decide_eq_true (by omega)) | (rw [bl_of]; exact decide_eq_false (by omega)) | (rw [bl_of]; omega) | exact oK) ?_
        rw [show O=p.2.take j by rw [hO,show comL p.2 H=j by omega]] at hk
        exact At.weak (hk ()) sB
    rw [if_neg h3] at hO
    subst hO
    by_cases h22:kd=2
    · have h23:¬ (R.length:Int) < kn':=fun h => h2 ⟨h22,h⟩
      refine At.gn 26 [false,true,false,false] [hB 0] rfl (by and_intros <;> first | exact decide_eq_false h1 | exact decide_eq_true h22 | exact decide_eq_false h23 | exact decide_eq_false h3 | exact oK) ?_
      exact At.weak (hk ()) sB
    · refine At.gn 26 [false,false,false,false] [hB 0] rfl (by and_intros <;> first | exact decide_eq_false h1 | exact decide_eq_false h22 | exact decide_eq_false h3 | exact oK) ?_
      exact At.weak (hk ()) sB
  · obtain rfl:i=S.length:=by omega
    rw [hdr0,List.append_nil] at eU
    subst eU
    obtain⟨Z,hZ⟩:∃ Z,readN U headsB=Z:=⟨_,rfl⟩
    rw [hZ] at hw ⊢
    have fT:∀ {bx:Bx}{hp:List Seg},nth hp 0=some (Seg.row g 57 2 U.length c (fl U))→CallOb Tryz.prog ⟨w,kys [] []⟩ bx hp 63 [.slice (svA g) U.length c,.string ⟨#[104,101,97,100,115]⟩] (str Z):=fun {_ _} h w' hw'=>hZ ▸ Tryz.r9Read_w U headsB (svA g) c w' (by omega) (SlOk.row (hw'.hp _ (nth_mem h)))
    by_cases hlz:Z.length < H.length
    · rw [if_pos hlz]
      have hwr:=hw hlz
      have hZl:Z.length≤sumB U:=by
        rcases @readN_mem U headsB with h5 | h5
        · rw [← hZ,h5]; simp
        · rw [← hZ]; exact sumB_mem h5
      have hHl:H.length≤20000:=by
        rcases @readN_mem F headsB with h5 | h5
        · rw [← hH,h5]; simp
        · rw [← hH]; exact hFk.2 _ h5
      obtain⟨D,hD⟩:∃ D,H.drop Z.length=D:=⟨_,rfl⟩
      have hDl:D.length≤20000:=by rw [← hD,List.length_drop]; omega
      rw [hD] at hwr ⊢
      refine At.gn 28 [false,true] [hB 1,hB 1,hB 1,hC (.string { data:=Z.toArray })] rfl (by and_intros <;> first | exact fT rfl | exact decide_eq_false (by omega) | (simp only [bl_of]; exact decide_eq_true (by omega)) | (simp only; omega) | exact oK) ?_
      refine At.dr 13 ?_
      refine AtD.pu [1,2,3] 10 rfl oK ?_
      refine AtD.pu [4] 9 rfl (by and_intros <;> first | (simp only [bl_of]; omega) | exact oK) ?_
      simp only [bl_of]
      rw [Int.toNat_natCast,hD]
      refine AtD.pu [5] 8 rfl oK ?_
      refine AtH.readsK [false,true,false,false] [false,false,false] [0] [hB 0] rfl rfl oK rfl rfl (fuel:=7) ?_
      have hCl:=fun (w':World) (h1:SlOk w' (svA g) (fl U))=>Tryz.rWrites_w U [] headsB D (Z.length:Nat) (svA g) (svA g) pa c U.length c pc r w' (by omega) h1 (SlOk.nil _ _) (by simp) (by decide) (by omega) (by simp only [inK]; omega) hu gr
      simp only [hwr,↓reduceIte,hZ,Int.toNat_natCast] at hCl
      obtain⟨V,hV⟩:∃ V,setN headsB (wrB Z Z.length D) U=V:=⟨_,rfl⟩
      simp only [hV] at hCl ⊢
      refine AtH.fork2 6 10 (by kernel_rfl) rfl rfl rfl rfl rfl rfl (OpOk.call rfl (fun w' hw'=>hCl w' (SlOk.row (hw'.hp _ (nth_mem (i:=0) rfl)))) ?_) (OpOk.alloc rfl rfl fun b20 hb20 =>⟨fun w hw=>hw.selK [false,false,true,false,false] [false,false,false],?_⟩)
      · rintro _ _ _ ⟨rfl,a1,c1,a2,c2,rfl,rfl⟩
        refine⟨fun w hw=>hw.selK [false,true,false,false] [false,false,false,false,false],?_⟩
        refine AtH.reK [7,8,9] [] rfl oK rfl rfl ?_
        refine AtH.f1 10 rfl (OpOk.alloc rfl rfl fun b20 hb20 =>⟨fun w hw=>hw.selK [false,false,true,false,false] [false,false,false,false,false],?_⟩)
        refine AtH.f1 11 rfl (OpOk.one true [] [hB 0] rfl (by and_intros <;> first | exact one_of rfl | exact oK) ⟨fun w hw=>hw.selK [false,false,true,false,false] [false,false,false,false,false],?_⟩)
        refine AtH.reK [12] [] rfl oK rfl rfl ?_
        refine AtH.dn ?_
        have fS:∀ {bx:Bx}{hp:List Seg},CallOb Tryz.prog ⟨w,kys [] []⟩ bx hp 33 [.agg ⟨rdV (sv a1 V.length c1) (.slice (svA g) U.length c) (sv a2 1 c2) r⟩] (.agg ⟨rdV (sv a1 V.length c1) (sv a1 V.length c1) (.slice none 0 0) r⟩):=fun {_ _} w' hw'=>Tryz.rSync_w (svA a1) (svA g) (svA a2) V.length c1 U.length c 1 c2 r w'
        refine At.go [false] [hB 0,hB 2,hB 2,hC (.agg ⟨[.slice (svA a1) (List.length V) c1,.slice (svA a1) (List.length V) c1,.slice none 0 0,.int .i64 ↑r]⟩),hB 1] rfl (by and_intros <;> first | exact fS | exact decide_eq_false (by omega) | exact one_of rfl | (simp; done) | exact oK) ?_
        refine At.rt [] [false,true,false,false,true] [hB 1] Tryz.func35 ?_
        exact⟨V,gR,cR,a1,c1,rfl,rfl,rfl,rfl⟩
      · refine AtH.f1 6 rfl (OpOk.call rfl (fun w' hw' => hCl w' (SlOk.row (hw'.hp _ (nth_mem (i:=0) rfl)))) ?_)
        rintro _ _ _ ⟨rfl,a1,c1,a2,c2,rfl,rfl⟩
        refine⟨fun w hw=>hw.selK [false,false,true,false,false] [false,false,false,false,false],?_⟩
        refine AtH.reK [7,8,9] [] rfl oK rfl rfl ?_
        refine AtH.f1 11 rfl (OpOk.one true [] [hB 0] rfl (by and_intros <;> first | exact one_of rfl | exact oK) ⟨fun w hw=>hw.selK [false,false,true,false,false] [false,false,false,false,false],?_⟩)
        refine AtH.reK [12] [] rfl oK rfl rfl ?_
        refine AtH.dn ?_
        have fS:∀ {bx:Bx}{hp:List Seg},CallOb Tryz.prog ⟨w,kys [] []⟩ bx hp 33 [.agg ⟨rdV (sv a1 V.length c1) (.slice (svA g) U.length c) (sv a2 1 c2) r⟩] (.agg ⟨rdV (sv a1 V.length c1) (sv a1 V.length c1) (.slice none 0 0) r⟩):=fun {_ _} w' hw'=>Tryz.rSync_w (svA a1) (svA g) (svA a2) V.length c1 U.length c 1 c2 r w'
        refine At.go [false] [hB 0,hB 2,hB 2,hC (.agg ⟨[.slice (svA a1) (List.length V) c1,.slice (svA a1) (List.length V) c1,.slice none 0 0,.int .i64 ↑r]⟩),hB 1] rfl (by and_intros <;> first | exact fS | exact decide_eq_false (by omega) | exact one_of rfl | (simp; done) | exact oK) ?_
        refine At.rt [] [false,true,false,false,true] [hB 1] Tryz.func35 ?_
        exact⟨V,gR,cR,a1,c1,rfl,rfl,rfl,rfl⟩
    · rw [if_neg hlz]
      have fS:∀ {bx:Bx}{hp:List Seg},CallOb Tryz.prog ⟨w,kys [] []⟩ bx hp 33 [.agg ⟨rdV (sv g U.length c) (sv g U.length c) (.slice pa 0 pc) r⟩] (.agg ⟨rdV (sv g U.length c) (sv g U.length c) (.slice none 0 0) r⟩):=fun {_ _} w' hw'=>Tryz.rSync_w (svA g) (svA g) pa U.length c U.length c 0 pc r w'
      refine At.go [false,false] [hB 1,hB 1,hB 1,hC (.string { data:=Z.toArray }),hB 1,hC (.agg ⟨[.slice (svA g) (List.length U) c,.slice (svA g) (List.length U) c,.slice none 0 0,.int .i64 ↑r]⟩),hB 0] rfl (by and_intros <;> first | exact fT rfl | exact fS | exact decide_eq_false (by omega) | (simp only [bl_of]; exact decide_eq_false (by omega)) | exact one_of rfl | exact oK) ?_
      refine At.rt [] [true,false,true] [hB 0] Tryz.func35 ?_
      exact⟨U,gR,cR,g,c,rfl,rfl,rfl,rfl⟩
structure Fil (S:FL):Prop where
  ris:risN S=true
  ne:∀ p,p∈S→0 < p.2.length
theorem Fil.nd {S:FL}(h:Fil S):(S.map (·.1)).Nodup:=risN_nodup h.ris
theorem Fil.set {S:FL}(h:Fil S) (n s:List UInt8):Fil (setN n s S):=by
  refine⟨setN_ris _ _ h.ris,fun p hp=>?_⟩
  rcases (setN_mem _ _ _ _).1 hp with⟨h1,rfl⟩ | ⟨h1,-⟩
  · exact List.length_pos_iff.2 h1
  · exact h.ne p h1
theorem Fil.cut {S:FL}(h:Fil S) (n:List UInt8) (z:Nat):Fil (cutS S n z):=by
  unfold cutS
  split
  · exact h
  · exact h.set _ _
theorem Fil.clr {K L:Nat}:∀ {F S:FL},Fil S→Fil (clrS K L F S)
  | [],_,h => h
  | p :: F,S,h => by
    rw [clrS]
    refine Fil.clr ?_
    split
    · exact h.cut _ _
    · exact h
theorem Fil.nil:Fil []:=⟨rfl,fun p hp=>by cases hp⟩
theorem Fil.has {S:FL}(h:Fil S) {n:List UInt8}:readN S n=[]↔n ∉ S.map (·.1):=by
  constructor
  · intro hr hn
    obtain⟨p,hp,rfl⟩:=List.mem_map.1 hn
    rw [readN_at h.nd hp] at hr
    have:=h.ne p hp
    rw [hr] at this; cases this
  · intro hn
    rcases @readN_mem S n with h2 | h2
    · exact h2
    · exact absurd (List.mem_map.2 ⟨_,h2,rfl⟩) hn
theorem Fil.ext {A B:FL}(ha:Fil A) (hb:Fil B) (h:∀ m,readN A m=readN B m):A=B:=by
  refine ris_unique ha.ris hb.ris ?_
  have key:∀ {A B:FL},Fil A→Fil B→(∀ m,readN A m=readN B m)→∀ p,p∈A→p∈B:=fun {A B} ha hb h p hp=>by
    have e:=readN_at ha.nd hp
    rw [h] at e
    rcases @readN_mem B p.1 with h2 | h2
    · rw [e] at h2
      have:=ha.ne p hp
      rw [h2] at this; cases this
    · rwa [e] at h2
  exact (List.perm_ext_iff_of_nodup (nodup_of_names ha.nd) (nodup_of_names hb.nd)).2 fun p =>⟨key ha hb h p,key hb ha (fun m=>(h m).symm) p⟩
theorem cutS_len {S:FL}(h:Fil S) (n:List UInt8) (z:Nat):(cutS S n z).length≤S.length:=by
  have h1:((cutS S n z).map (·.1)).length≤(S.map (·.1)).length:=nodup_len (h.cut n z).nd fun x hx=>by
    obtain⟨p,hp,rfl⟩:=List.mem_map.1 hx
    obtain⟨p',h2,h3⟩:=cutS_names hp
    exact List.mem_map.2 ⟨p',h2,h3⟩
  simpa using h1
theorem clrS_len {K L:Nat}:∀ {F S:FL},Fil S→(clrS K L F S).length≤S.length
  | [],_,_ => Nat.le_refl _
  | p :: F,S,h => by
    rw [clrS]
    by_cases hb:badN K L p.1=true
    · rw [if_pos hb]; exact Nat.le_trans (clrS_len (h.cut _ _)) (cutS_len h _ _)
    · rw [if_neg hb]; exact clrS_len h
theorem cutS_pre (S:FL) (n m:List UInt8) (z:Nat):readN (cutS S n z) m <+: readN S m:=by
  rw [cutS_read]
  split
  · rename_i h; rw [h]; exact List.take_prefix ..
  · exact List.prefix_rfl
theorem segK_end {P k:Nat}{R X:List (List UInt8)}(h:R.length=k * P) (hX:X.length≤P):segK P (R++X) k=X:=by
  unfold segK
  rw [← h,List.drop_left,List.take_of_length_le hX]
theorem rdLoop_grow (P:Nat):∀ (f k:Nat) (S:FL) (R:List (List UInt8)),k≤(rdLoop P f k S R).1∧R.length≤(rdLoop P f k S R).2.1.length
  | 0,k,S,R =>⟨Nat.le_refl _,by simp [rdLoop]⟩
  | f+1,k,S,R => by
    unfold rdLoop
    split
    · have h:=rdLoop_grow P f (k+1) (cutS S (nmB 115 (k:Int)) (rdZ P S k)) (R++rdK P S k)
      rw [List.length_append] at h
      exact⟨by omega,by omega⟩
    · exact⟨Nat.le_refl _,by simp⟩
theorem rdLoop_all {P:Nat}(hP:1≤P):∀ (f k:Nat) (S:FL) (R0:List (List UInt8)) (K:Nat) (R:List (List UInt8)) (S1:FL),rdLoop P f k S R0=(K,R,S1)→Fil S→S.length≤4096→5000≤k+f→k+f≤1000000→R0.length=k * P →
    (∀ j:Nat,j < k→readN S (nmB 115 (j:Int))≠[])→(∀ j:Nat,j < k→readN S (nmB 115 (j:Int))=(segK P R0 j).flatMap wrapL)→(∀ x,x∈R0→1≤x.length∧x.length≤65536) →
    Fil S1∧S1.length≤S.length∧K≤4096∧K * P≤R.length∧R.length < (K+1) * P∧(∀ j:Nat,j≤K→readN S1 (nmB 115 (j:Int))=(segK P R j).flatMap wrapL)∧(∀ m,(∀ j:Nat,j≤K→m≠nmB 115 (j:Int))→readN S1 m=readN S m)∧(∀ x,x∈R→1≤x.length∧x.length≤65536)∧∀ m,readN S1 m <+: readN S m:=by
  intro f
  induction f with
  | zero =>
    intro k S R0 K R S1 _ _ h4 h5 h6 _ hne _ _
    have:=names_few (by omega) hne
    omega
  | succ f ih =>
    intro k S R0 K R S1 h hF h4 h5 h6 hl hne hrd hx
    have hk:=names_few (by omega) hne
    have hXl:(rdK P S k).length≤P:=by unfold rdK; rw [List.length_take]; omega
    have hself:readN (cutS S (nmB 115 (k:Int)) (rdZ P S k)) (nmB 115 (k:Int))=(rdK P S k).flatMap wrapL:=by rw [cutS_read,if_pos rfl,rdZ_took]
    have hoth:∀ m,m≠nmB 115 (k:Int)→readN (cutS S (nmB 115 (k:Int)) (rdZ P S k)) m=readN S m:=fun m hm=>by rw [cutS_read,if_neg hm]
    have hrd':∀ j:Nat,j < k+1→readN (cutS S (nmB 115 (k:Int)) (rdZ P S k)) (nmB 115 (j:Int))=(segK P (R0++rdK P S k) j).flatMap wrapL:=fun j hj=>by
      by_cases hjk:j=k
      · subst hjk; rw [hself,segK_end hl hXl]
      · rw [hoth _ (fun e=>hjk (nmB_inj (by omega) (by omega) e)),hrd j (by omega),segK_app (by rw [hl]; exact Nat.mul_le_mul_right _ (by omega))]
    have hx':∀ x,x∈R0++rdK P S k→1≤x.length∧x.length≤65536:=fun x h=>by
      rcases List.mem_append.1 h with h | h
      · exact hx x h
      · exact rdK_rows h
    have hlen:=cutS_len hF (nmB 115 (k:Int)) (rdZ P S k)
    unfold rdLoop at h
    by_cases hs:(rdK P S k).length=P
    · rw [if_pos hs] at h
      obtain⟨a1,a2,a3,a4,a5,a6,a7,a8,a9⟩:=ih (k+1) _ _ K R S1 h (hF.cut _ _) (by omega) (by omega) (by omega) (by rw [List.length_append,hl,hs,Nat.succ_mul]) (rdK_sealed hP (by omega) hs hne) hrd' hx'
      refine⟨a1,by omega,a3,a4,a5,a6,fun m hm=>?_,a8,fun m=>(a9 m).trans (cutS_pre ..)⟩
      rw [a7 m hm]
      by_cases hKk:k≤K
      · exact hoth m (hm k hKk)
      · by_cases hmk:m=nmB 115 (k:Int)
        · exfalso
          have h9:(k+1) * P≤(R0++rdK P S k).length:=by rw [List.length_append,hl,hs,Nat.succ_mul]; omega
          have h10:=(rdLoop_grow P f (k+1) (cutS S (nmB 115 (k:Int)) (rdZ P S k)) (R0++rdK P S k)).1
          rw [h] at h10
          simp only at h10
          omega
        · exact hoth m hmk
    · rw [if_neg hs] at h
      simp only [Prod.mk.injEq] at h
      obtain⟨rfl,rfl,rfl⟩:=h
      refine⟨hF.cut _ _,hlen,by omega,by rw [List.length_append]; omega,by rw [List.length_append,Nat.succ_mul]; omega,fun j hj=>hrd' j (by omega),fun m hm=>hoth m (hm k (Nat.le_refl _)),hx',fun m=>cutS_pre ..⟩
theorem comL_take:∀ (a b:List UInt8),a.take (comL a b)=b.take (comL a b)
  | [],b => by simp [comL]
  | x :: a,[] => by simp [comL]
  | x :: a,y :: b => by
    unfold comL
    split
    · rename_i h
      subst h
      rw [List.take_succ_cons,List.take_succ_cons,comL_take a b]
    · rfl
def opR (P n:Nat) (R:List (List UInt8)) (S:FL) (m:List UInt8):List UInt8 :=
  if m=headsB then wantH P n R else if (kindB m).1=1 then (segK P R (kindB m).2.1.toNat).flatMap wrapL else if (kindB m).1=2∧(R.length:Int) < (kindB m).2.1 then [] else readN S m
structure Opn (P:Nat) (S:FL) (R:List (List UInt8)) (S2:FL):Prop where
  fil:Fil S2
  len:S2.length≤S.length
  rows:∀ x,x∈R→1≤x.length∧x.length≤65536
  few:R.length≤4097 * P
  rd:∀ m,readN S2 m=if m=headsB then readN S headsB else if (kindB m).1=1 then (segK P R (kindB m).2.1.toNat).flatMap wrapL else if (kindB m).1=2∧(R.length:Int) < (kindB m).2.1 then [] else readN S m
  pre:∀ m,readN S2 m <+: readN S m
  all:R=rowsS P S
theorem kind_heads:kindB headsB=(3,0,true):=by decide
theorem opn_all {P K:Nat}{S S1:FL}{R:List (List UInt8)}(hP:1≤P) (hF:Fil S) (h4:S.length≤4096) (h:rdLoop P 5000 0 S []=(K,R,S1)):Opn P S R (clrS K R.length S1 S1):=by
  obtain⟨a1,a2,a3,a4,a5,a6,a7,a8,a9⟩:=rdLoop_all hP 5000 0 S [] K R S1 h hF h4 (by omega) (by omega) (by simp) (fun j hj=>by omega) (fun j hj=>by omega) (fun x hx=>by cases hx)
  have hr:∀ m,readN (clrS K R.length S1 S1) m=if badN K R.length m=true then [] else readN S1 m:=fun m=>by
    rw [clrS_read]
    by_cases hb:badN K R.length m=true
    · rw [if_pos hb]
      by_cases hm:m∈S1.map (·.1)
      · rw [if_pos ⟨hb,hm⟩]
      · rw [if_neg (fun h=>hm h.2)]; exact (a1.has).2 hm
    · rw [if_neg hb,if_neg (fun h=>hb h.1)]
  refine⟨a1.clr,Nat.le_trans (clrS_len a1) a2,a8,by rw [Nat.succ_mul] at a5; have:=Nat.mul_le_mul_right P a3; rw [Nat.succ_mul]; omega,fun m=>?_,fun m=>?_,by have:=open_rows hP h4; rw [h] at this; exact this⟩
  · rw [hr]
    by_cases hh:m=headsB
    · subst hh
      rw [if_pos rfl,if_neg (by simp [badN,kind_heads])]
      exact a7 _ fun j hj e=>nmB_heads (by omega) e.symm
    rw [if_neg hh]
    by_cases h1:(kindB m).1=1
    · rw [if_pos h1]
      obtain⟨u,hu,rfl,he⟩:=kind1_nm h1
      rw [he,Int.toNat_natCast]
      by_cases hk:u≤K
      · rw [if_neg (by simp [badN,h1,he]; omega)]
        exact a6 u hk
      · rw [if_pos (by simp [badN,h1,he]; omega),segK_far (Nat.le_of_lt (Nat.lt_of_lt_of_le a5 (Nat.mul_le_mul_right _ (by omega))))]
        rfl
    · rw [if_neg h1]
      have hns:∀ j:Nat,j≤K→m≠nmB 115 (j:Int):=fun j hj e=>by
        rw [e,kindB_nm (by omega)] at h1; exact h1 rfl
      by_cases h2:(kindB m).1=2∧(R.length:Int) < (kindB m).2.1
      · rw [if_pos h2,if_pos (by simp [badN,h2.1,h2.2])]
      · rw [if_neg h2,if_neg (by simp [badN,h1]; intro e; have:=fun h => h2 ⟨e,h⟩; omega)]
        exact a7 m hns
  · rw [hr]
    split
    · exact List.nil_prefix
    · exact a9 m
theorem hdr_reads {r:Nat}{S2:FL}{want:List UInt8}(hF:Fil S2) (h0:(hdrS r S2 want).1=0):Fil (hdrS r S2 want).2.1∧∀ m,readN (hdrS r S2 want).2.1 m=if m=headsB then want else readN S2 m:=by
  obtain⟨c,hc⟩:∃ c,comL (readN S2 headsB) want=c:=⟨_,rfl⟩
  have h1:=comL_take (readN S2 headsB) want
  have h2:=comL_le (readN S2 headsB) want
  unfold hdrS at h0 ⊢
  rw [hc] at h0 h1 h2 ⊢
  by_cases hw:c=want.length
  · rw [if_pos hw]
    refine⟨hF.cut _ _,fun m=>?_⟩
    rw [cutS_read]
    split
    · rw [h1,hw,List.take_length]
    · rfl
  · rw [if_neg hw] at h0 ⊢
    split
    · refine⟨(hF.cut _ _).set _ _,fun m=>?_⟩
      rw [readN_set]
      split
      · rw [cutS_read,if_pos rfl,h1]
        have hl:(want.take c).length=c:=by rw [List.length_take]; omega
        have:=wrB_end (want.take c) (want.drop c)
        rw [hl] at this
        rw [this,List.take_append_drop]
      · rename_i hm
        rw [cutS_read,if_neg hm]
    · rename_i hne
      rw [if_neg hne] at h0
      exact absurd h0 hne
theorem opn_reads {P n r:Nat}{S S2:FL}{R:List (List UInt8)}(h:Opn P S R S2) (h0:(hdrS r S2 (wantH P n R)).1=0):Fil (hdrS r S2 (wantH P n R)).2.1∧∀ m,readN (hdrS r S2 (wantH P n R)).2.1 m=opR P n R S m:=by
  obtain⟨a,b⟩:=hdr_reads h.fil h0
  refine⟨a,fun m=>?_⟩
  rw [b]
  unfold opR
  split
  · rfl
  · rename_i hm
    rw [h.rd,if_neg hm]
theorem hdr_ok {P n r:Nat}{S S2 B:FL}{R:List (List UInt8)}(h:Opn P S R S2) (hS:S.length < 4096) (hB:(B.map (·.1)).Nodup) (hr:sumB B≤r) (hle:∀ m,(opR P n R S m).length≤(readN B m).length):(hdrS r S2 (wantH P n R)).1=0:=by
  obtain⟨want,hwt⟩:∃ w,wantH P n R=w:=⟨_,rfl⟩
  rw [hwt]
  obtain⟨c,hc⟩:∃ c,comL (readN S2 headsB) want=c:=⟨_,rfl⟩
  have h1:=comL_take (readN S2 headsB) want
  have h2:=comL_le (readN S2 headsB) want
  unfold hdrS
  rw [hc] at h1 h2 ⊢
  by_cases hw:c=want.length
  · rw [if_pos hw]
  · rw [if_neg hw]
    have hl:(want.take c).length=c:=by rw [List.length_take]; omega
    have hrd:readN (cutS S2 headsB c) headsB=want.take c:=by rw [cutS_read,if_pos rfl,h1]
    have hwb:wrB (want.take c) c (want.drop c)=want:=by
      have:=wrB_end (want.take c) (want.drop c)
      rw [hl] at this
      rw [this,List.take_append_drop]
    have hfl:=(h.fil.cut headsB c).set headsB want
    have h0:wrR r (cutS S2 headsB c) headsB (c:Int) (want.drop c)=0:=by
      unfold wrR
      rw [hrd]
      rw [if_neg (by
        simp only [named_heads,not_or]
        refine⟨by simp,fun e=>?_⟩
        have:=congrArg List.length e
        rw [List.length_drop,List.length_nil] at this
        omega),if_neg (by omega),if_neg (by
        rintro⟨-,e⟩
        have:=cutS_len h.fil headsB c
        have:=h.len
        omega),Int.toNat_natCast,hwb,if_neg]
      have:sumB (setN headsB want (cutS S2 headsB c))≤sumB B:=by
        refine sum_le hfl.nd hB hfl.ne fun m=>Nat.le_trans (Nat.le_of_eq ?_) (hle m)
        rw [readN_set]
        unfold opR
        rw [hwt]
        split
        · rfl
        · rename_i hm
          rw [cutS_read,if_neg hm,h.rd,if_neg hm]
      omega
    rw [if_pos h0]
theorem opn_inv {P n:Nat}{S S3:FL}{R:List (List UInt8)}(h:∀ m,readN S3 m=opR P n R S m):LInv P n S3 R:=by
  refine⟨fun k hk=>?_,?_⟩
  · rw [h]
    unfold opR
    rw [if_neg (nmB_heads hk),kindB_nm hk,if_pos rfl,Int.toNat_natCast]
  · rw [h]; unfold opR; rw [if_pos rfl]
def opnR (P:Nat) (S:FL):List (List UInt8):=(rdLoop P 5000 0 S []).2.1
def opnC (P:Nat) (S:FL):FL:=clrS (rdLoop P 5000 0 S []).1 (opnR P S).length (rdLoop P 5000 0 S []).2.2 (rdLoop P 5000 0 S []).2.2
def opnH (r P n:Nat) (S:FL):Int × FL × List (List UInt8 × Nat × List UInt8):=hdrS r (opnC P S) (wantH P n (opnR P S))
theorem opn_of {P:Nat}{S:FL}(hP:1≤P) (hF:Fil S) (h4:S.length≤4096):Opn P S (opnR P S) (opnC P S):=by
  have:=opn_all (K:=(rdLoop P 5000 0 S []).1) (S1:=(rdLoop P 5000 0 S []).2.2) (R:=opnR P S) hP hF h4 rfl
  exact this
theorem cutS_nil (n:List UInt8) (z:Nat):cutS [] n z=[]:=by unfold cutS; rw [if_pos (by simp [readN])]
theorem opn_none (P:Nat) (hP:1≤P):rdLoop P 5000 0 [] []=(0,[],[]):=by
  have h0:rdK P [] 0=[]:=by unfold rdK; rw [show readN [] (nmB 115 ((0:Nat):Int))=[] from rfl,frows_nil,List.take_nil]
  show (if (rdK P [] 0).length=P then _ else _)=_
  rw [h0,if_neg (by simp; omega),cutS_nil]; rfl
theorem wantH_nil (P n:Nat):wantH P n []=[]:=by unfold wantH; rw [List.length_nil,Nat.zero_div]; rfl
theorem opnH_none (r P n:Nat) (hP:1≤P):opnR P []=[]∧opnH r P n []=(0,[],[]):=by
  unfold opnH opnC opnR
  rw [opn_none P hP]
  refine⟨rfl,?_⟩
  simp only
  rw [wantH_nil]
  have h1:clrS 0 ([]:List (List UInt8)).length [] []=[]:=rfl
  rw [h1]
  unfold hdrS
  rw [show comL (readN [] headsB) []=0 from rfl,if_pos (show 0=([]:List UInt8).length from rfl),cutS_nil]
structure LogD (P n:Nat) (R0 R:List (List UInt8)) (K S:FL) (W:List (List UInt8 × Nat × List UInt8)):Prop where
  inv:LInv P n S R
  base:LInv P n K R0
  pre:R0 <+: R
  torn:∃ ch,TornD K W ch∧(∀ m,(ch m).flatten=readN S m)∧∀ k:Nat,k≤1099511627776→ch (nmB 115 (k:Int))=(segK P R k).map wrapL
theorem LogD.calm {P n:Nat}{R:List (List UInt8)}{S:FL}(h:LInv P n S R):LogD P n R R S S []:=by
  have hc:∀ m,(if (kindB m).1=1 then (segK P R (kindB m).2.1.toNat).map wrapL else [readN S m]).flatten=readN S m:=fun m=>by
    split
    · rename_i h1
      obtain⟨u,hu,rfl,he⟩:=kind1_nm h1
      rw [he,Int.toNat_natCast,h.sg u hu,List.flatMap_def]
    · simp
  refine⟨h,h,List.prefix_rfl,_,TornD.none _ hc,hc,fun k hk=>?_⟩
  simp only [kindB_nm hk,if_true,Int.toNat_natCast]
theorem LogD.app {r P n:Nat}{R0 R:List (List UInt8)}{K S:FL}{W:List (List UInt8 × Nat × List UInt8)}{row:List UInt8}{M:FL}(h:LogD P n R0 R K S W) (hP:1≤P) (hR:R.length≤1099511627776) (hr:risN S=true) (h0:appE r P n S R row M=0) :
    LogD P n R0 (R++[row]) K (wrAll r (S,W) (actL P n S R row M)).1 (wrAll r (S,W) (actL P n S R row M)).2:=by
  obtain⟨w1,w2,w3,-⟩:=app_ok W hP hR h.inv hr h0
  obtain⟨g1,g2,-⟩:=appE_ok h0
  obtain⟨a1,a2,a3,-⟩:=actL_ok (P:=P) (n:=n) (row:=row) hR g2
  obtain⟨ch,t1,t2,t3⟩:=h.torn
  refine⟨w2,h.base,h.pre.trans (List.prefix_append ..),fun m=>ch m++chL (actL P n S R row M) m,?_,fun m=>?_,fun k hk=>?_⟩
  · rw [w1]
    exact TornD.writes _ W ch a1 (fun e he=>by rw [t2]; exact (a2 e he).1) t1
  · rw [List.flatten_append,t2,chL_flat,w3]
  · show ch _++chL _ _=_
    rw [t3 k hk,a3 k hk,segK_row hP,List.map_append]
    congr 1
    split <;> simp
theorem LogD.small {P n:Nat}{R0 R:List (List UInt8)}{K S:FL}{W:List (List UInt8 × Nat × List UInt8)}(h:LogD P n R0 R K S W) (Kf:Nat→Int) (m:List UInt8):(readN (crashR K W Kf 0) m).length≤(readN S m).length:=by
  obtain⟨ch,t1,t2,-⟩:=h.torn
  rw [← t2]; exact (t1 Kf m).1.len
theorem segK_few (P k:Nat) (R:List (List UInt8)):(segK P R k).length≤P:=by unfold segK; rw [List.length_take]; omega
theorem LogD.rows {P n:Nat}{R0 R:List (List UInt8)}{K S:FL}{W:List (List UInt8 × Nat × List UInt8)}(h:LogD P n R0 R K S W) (hx:∀ x,x∈R→1≤x.length∧x.length≤65536) (Kf:Nat→Int) (k:Nat) (hk:k≤1099511627776) :
    frowsB (readN (crashR K W Kf 0) (nmB 115 (k:Int))) <+: segK P R k∧segK P R0 k <+: frowsB (readN (crashR K W Kf 0) (nmB 115 (k:Int))):=by
  obtain⟨ch,t1,t2,t3⟩:=h.torn
  obtain⟨h1,h2⟩:=t1 Kf (nmB 115 (k:Int))
  rw [t3 k hk] at h1
  rw [h.base.sg k hk] at h2
  have hm:∀ x,x∈segK P R k→1≤x.length∧x.length≤65536:=fun x hx'=>hx x (segK_mem0 hx')
  exact⟨frows_torn _ _ hm h1,frows_base _ _ (fun x hx'=>hx x (h.pre.subset (segK_mem0 hx'))) h2⟩
theorem rowsF_torn {P:Nat}(hP:1≤P) {R0 R:List (List UInt8)}{C:FL}(hR:R.length≤1000000) (h:∀ k:Nat,k≤1099511627776→frowsB (readN C (nmB 115 (k:Int))) <+: segK P R k∧segK P R0 k <+: frowsB (readN C (nmB 115 (k:Int)))) :
    ∀ (f k:Nat),k * P≤R.length→R.length < k+f→k+f≤1099511627776→∃ m,R.take (k * P)++rowsF P C f k=R.take m∧R0.length≤m∧m≤R.length
  | 0,k,h1,h2,_ => by
    have:=Nat.mul_le_mul_left k hP
    omega
  | f+1,k,h1,h2,h3 => by
    obtain⟨p1,p2⟩:=h k (by omega)
    have hl:=segK_few P k R
    have hX:rdK P C k=frowsB (readN C (nmB 115 (k:Int))):=by
      unfold rdK
      exact List.take_of_length_le (Nat.le_trans p1.length_le hl)
    rw [rowsF_step,hX]
    generalize frowsB (readN C (nmB 115 (k:Int)))=X at *
    have e1:=List.prefix_iff_eq_take.1 p1
    have hXl:=Nat.le_trans p1.length_le hl
    have e2:R.take (k * P)++X=R.take (k * P+X.length):=by
      rw [List.take_add]
      congr 1
      conv=>lhs; rw [e1]
      unfold segK
      rw [List.take_take,Nat.min_eq_left hXl]
    have hle:k * P+X.length≤R.length:=by
      have:=p1.length_le
      rw [segK_len] at this
      omega
    by_cases hs:X.length=P
    · rw [if_pos hs,← List.append_assoc,e2,hs,← Nat.succ_mul]
      rw [hs,← Nat.succ_mul] at hle
      exact rowsF_torn hP hR h f (k+1) hle (by omega) (by omega)
    · rw [if_neg hs,List.append_nil,e2]
      refine⟨_,rfl,?_,hle⟩
      have:=p2.length_le
      rw [segK_len] at this
      omega
theorem LogD.crash {P n:Nat}{R0 R:List (List UInt8)}{K S:FL}{W:List (List UInt8 × Nat × List UInt8)}(h:LogD P n R0 R K S W) (hP:1≤P) (hR:R.length≤100000) (hx:∀ x,x∈R→1≤x.length∧x.length≤65536) (Kf:Nat→Int) (hC:(crashR K W Kf 0).length≤4096) :
    ∃ m,rowsS P (crashR K W Kf 0)=R.take m∧R0.length≤m∧m≤R.length:=by
  obtain⟨m,e,h1,h2⟩:=rowsF_torn hP (R0:=R0) (by omega) (fun k hk=>h.rows hx Kf k hk) (4097+R.length) 0 (by simp) (by omega) (by omega)
  refine⟨m,?_,h1,h2⟩
  rw [Nat.zero_mul,List.take_zero,List.nil_append] at e
  rw [← e]
  unfold rowsS
  exact rowsF_enough hP (fun j hj=>absurd hj (Nat.not_lt_zero j)) (by omega) (by omega) (by omega)
theorem wantH_pre {P n:Nat}{R' R:List (List UInt8)}(h:R' <+: R):wantH P n R' <+: wantH P n R:=by
  obtain⟨X,rfl⟩:=h
  unfold wantH
  have hd:R'.length / P≤(R'++X).length / P:=Nat.div_le_div_right (by rw [List.length_append]; omega)
  rw [← hdsB_app (n:=n) (X:=X) (Nat.div_mul_le_self R'.length P)]
  have e:hdsB P n (R'++X) (R'.length / P)=(hdsB P n (R'++X) ((R'++X).length / P)).take (R'.length / P):=by
    unfold hdsB
    rw [← List.map_take,List.take_range,Nat.min_eq_left hd]
  rw [e]
  generalize hdsB P n (R'++X) ((R'++X).length / P)=H
  obtain⟨Y,hY⟩:=List.take_prefix (R'.length / P) H
  conv=>rhs; rw [← hY]
  rw [List.map_append,List.flatMap_append]
  exact List.prefix_append ..
theorem segK_pre {P k:Nat}{R' R:List (List UInt8)}(h:R' <+: R):segK P R' k <+: segK P R k:=by
  obtain⟨X,rfl⟩:=h
  unfold segK
  rw [List.drop_append]
  generalize R'.drop (k * P)=A
  rw [List.take_append]
  exact List.prefix_append ..
theorem flat_pre {A B:List (List UInt8)}(h:A <+: B):A.flatMap wrapL <+: B.flatMap wrapL:=by
  obtain⟨X,rfl⟩:=h
  rw [List.flatMap_append]; exact List.prefix_append ..
theorem opR_small {P n:Nat}{R R':List (List UInt8)}{S C:FL}(hI:LInv P n S R) (hR:R' <+: R) (h:∀ m,(readN C m).length≤(readN S m).length) (m:List UInt8):(opR P n R' C m).length≤(readN S m).length:=by
  unfold opR
  split
  · rename_i e
    rw [e,hI.hd]; exact (wantH_pre hR).length_le
  · split
    · rename_i h1
      obtain⟨u,hu,rfl,he⟩:=kind1_nm h1
      rw [he,Int.toNat_natCast,hI.sg u hu]
      exact (flat_pre (segK_pre hR)).length_le
    · split
      · exact Nat.zero_le _
      · exact h m
theorem filesB_read {P n:Nat}{R:List (List UInt8)}(hP:1≤P) (hR:R.length≤1000000) (hx:∀ x,x∈R→x.length≤300) (m:List UInt8):readN (filesB P n R) m=if m=headsB then wantH P n R else if (kindB m).1=1 then (segK P R (kindB m).2.1.toNat).flatMap wrapL else []:=by
  have hm:=logF_mem (P:=P) hx (by omega) R.length (Nat.le_refl _)
  unfold filesB
  rw [readN_set]
  split
  · rfl
  · split
    · rename_i h1
      obtain⟨u,hu,rfl,he⟩:=kind1_nm h1
      rw [he,Int.toNat_natCast]
      by_cases hk:u≤1000000
      · rw [logF_read hP hR hk R.length (Nat.le_refl _),List.take_length]
      · rw [segK_far (by have:=Nat.mul_le_mul_left u hP; omega),readN_no fun p hp e=>?_]
        · rfl
        · obtain⟨k,h2,h3,h4⟩:=(hm p hp).1
          rw [h4] at e
          have:=nmB_inj (by omega) hu e
          omega
    · rename_i h1
      refine readN_no fun p hp e=>?_
      obtain⟨k,h2,h3,h4⟩:=(hm p hp).1
      rw [← e,h4,kindB_nm (by omega)] at h1
      exact h1 rfl
theorem opF_read {L:Nat}{F:FL}:∀ {S:FL},Fil S→∀ m,readN (opF L F S) m=if readN S m=[] then [] else opB L F (m,readN S m)
  | [],_,m => rfl
  | p :: S,h,m => by
    have hS:Fil S:=⟨risN_tail h.ris,fun q hq=>h.ne q (List.mem_cons_of_mem _ hq)⟩
    have hp:=h.ne p (by simp)
    have ih:=opF_read (L:=L) (F:=F) hS m
    have hnd:=h.nd
    rw [List.map_cons,List.nodup_cons] at hnd
    show readN ((if opB L F p=[] then [] else [(p.1,opB L F p)])++opF L F S) m=_
    rw [readN_cons]
    by_cases hm:p.1=m
    · subst hm
      have h0:readN S p.1=[]:=hS.has.2 hnd.1
      rw [h0,if_pos rfl] at ih
      rw [if_pos rfl,if_neg (show ¬ p.2=[] from fun e=>by rw [e] at hp; cases hp)]
      show _=opB L F p
      by_cases ho:opB L F p=[]
      · rw [if_pos ho,List.nil_append,ih]; exact ho.symm
      · rw [if_neg ho,List.cons_append,readN_cons,if_pos rfl]
    · rw [if_neg hm]
      by_cases ho:opB L F p=[]
      · rw [if_pos ho,List.nil_append,ih]
      · rw [if_neg ho,List.cons_append,readN_cons,if_neg hm,List.nil_append,ih]
theorem opF_mem {L:Nat}{F S:FL}{q:List UInt8 × List UInt8}(h:q∈opF L F S):q.2≠[]∧∃ p,p∈S∧p.1=q.1:=by
  unfold opF at h
  obtain⟨p,hp,hq⟩:=List.mem_flatMap.1 h
  split at hq
  · cases hq
  · rename_i ho
    obtain rfl:=List.mem_singleton.1 hq
    exact⟨ho,p,hp,rfl⟩
theorem opF_fil {L:Nat}{F:FL}:∀ {S:FL},Fil S→Fil (opF L F S)
  | [],_ => Fil.nil
  | p :: S,h => by
    have hS:Fil S:=⟨risN_tail h.ris,fun q hq=>h.ne q (List.mem_cons_of_mem _ hq)⟩
    have ih:=opF_fil (L:=L) (F:=F) hS
    refine⟨?_,fun q hq=>List.length_pos_iff.2 (opF_mem hq).1⟩
    show risN ((if opB L F p=[] then [] else [(p.1,opB L F p)])++opF L F S)=true
    split
    · exact ih.ris
    · refine risN_cons ih.ris fun q hq=>?_
      obtain⟨-,p',hp',e⟩:=opF_mem hq
      rw [← e]
      exact risN_head h.ris p' hp'
theorem open_doc {P n:Nat}{S S2:FL}{R:List (List UInt8)}(h:Opn P S R S2) (hF:Fil S) (hP:1≤P) (hR:R.length≤1000000) (hx:∀ x,x∈R→x.length≤300) :
    opF R.length (filesB P n R) S=cutS S2 headsB (comL (readN S2 headsB) (wantH P n R)):=by
  refine (opF_fil hF).ext (h.fil.cut _ _) fun m=>?_
  have hH:readN S2 headsB=readN S headsB:=by rw [h.rd,if_pos rfl]
  rw [opF_read hF,cutS_read]
  by_cases h0:readN S m=[]
  · rw [if_pos h0]
    have h2:=h.pre m
    rw [h0] at h2
    have h3:=List.prefix_nil.1 h2
    split
    · rename_i e; rw [← e,h3]; rfl
    · exact h3.symm
  · rw [if_neg h0]
    unfold opB
    simp only
    by_cases hm:m=headsB
    · subst hm
      rw [if_pos rfl,kind_heads,if_neg (by decide),if_neg (by simp),if_pos rfl,hH,filesB_read hP hR hx,if_pos rfl]
    · rw [if_neg hm,h.rd,if_neg hm]
      by_cases h1:(kindB m).1=1
      · rw [if_pos h1,if_pos h1,filesB_read hP hR hx,if_neg hm,if_pos h1]
      · rw [if_neg h1,if_neg h1]
        by_cases h2:(kindB m).1=2∧(R.length:Int) < (kindB m).2.1
        · rw [if_pos h2,if_pos h2]
        · rw [if_neg h2,if_neg h2,if_neg]
          intro h3
          unfold kindB at h3
          rw [if_neg hm] at h3
          split at h3
          · cases h3
          · split at h3
            · split at h3
              · cases h3
              · split at h3 <;> cases h3
            · cases h3
structure LgQ (r k:Nat) where
  R:List (List UInt8)
  gr:Option Nat
  cr:Nat
  gh:Option Nat
  ch:Nat
  q:DkQ r k
def LgQ.lift {r k k':Nat}(x:LgQ r k) (h:k≤k'):LgQ r k':=⟨x.R,x.gr,x.cr,x.gh,x.ch,x.q.lift h⟩
theorem DkQ.fil {r k:Nat}(q:DkQ r k):Fil q.S:=⟨q.ris,fun p hp=>(q.fok p hp).1⟩
def Tryz.lgBx {r k:Nat}(lg d P n:Nat) (c3 c4:Int) (x:LgQ r k):Bx:=[(lg,98,lgV d P n c3 c4 (sv x.gr x.R.length x.cr) (sv x.gh (x.R.length / P) x.ch))]
def Tryz.lgHp {r k:Nat}(d P n:Nat) (x:LgQ r k):List Seg:=[Seg.row x.gr 9 1 x.R.length x.cr (x.R.map str),Seg.row x.gh 28 6 (x.R.length / P) x.ch ((hdsB P n x.R (x.R.length / P)).flatMap hdC),Tryz.dkS d x.q]
def Tryz.lgS {r k:Nat}(lg d P n:Nat) (c3 c4:Int) (x:LgQ r k):Seg:=Seg.pack (Tryz.lgBx lg d P n c3 c4 x) (Tryz.lgHp d P n x)
theorem Tryz.lgS_b {r k lg d P n:Nat}{c3 c4:Int}{x:LgQ r k}{w:World}(h:(Tryz.lgS lg d P n c3 c4 x).ok w):SlOk w (some ⟨lg,0,none⟩) (lgV d P n c3 c4 (sv x.gr x.R.length x.cr) (sv x.gh (x.R.length / P) x.ch)):=SlOk.blk (h.1 _ (List.mem_singleton.2 rfl))
theorem Tryz.lgS_r {r k lg d P n:Nat}{c3 c4:Int}{x:LgQ r k}{w:World}(h:(Tryz.lgS lg d P n c3 c4 x).ok w):rowOk w x.gr 9 1 x.R.length x.cr (x.R.map str):=h.2 (Seg.row x.gr 9 1 x.R.length x.cr (x.R.map str)) (by simp [Tryz.lgHp])
theorem Tryz.lgS_h {r k lg d P n:Nat}{c3 c4:Int}{x:LgQ r k}{w:World}(h:(Tryz.lgS lg d P n c3 c4 x).ok w):rowOk w x.gh 28 6 (x.R.length / P) x.ch ((hdsB P n x.R (x.R.length / P)).flatMap hdC):=h.2 (Seg.row x.gh 28 6 (x.R.length / P) x.ch ((hdsB P n x.R (x.R.length / P)).flatMap hdC)) (by simp [Tryz.lgHp])
theorem Tryz.lgS_d {r k lg d P n:Nat}{c3 c4:Int}{x:LgQ r k}{w:World}(h:(Tryz.lgS lg d P n c3 c4 x).ok w):(Tryz.dkS d x.q).ok w:=h.2 _ (by simp [Tryz.lgHp])
theorem rowOk_none {w:World}{a:Option Nat}{t:TypeId}{sz n cap:Nat}{xs:List Value}(h:rowOk w a t sz n cap xs):svA a=none→n=0:=fun e=>by
  cases a with
  | none => have h1:=h.nil rfl; have h2:=h.le; omega
  | some g => cases e
theorem lg_may {P n:Nat}{c3 c4:Int}{R:List (List UInt8)}(hm:mayCf P n c3 c4=true) (eR:R.length≤1000000) (hx:∀ x,x∈R→x.length≤65536):∀ k,k < R.length / P→mayH (hdK P n R k) n=true:=fun k hk=>by
  have hin:=mayCf_in hm
  exact hdK_may (by omega) (by omega) (by omega) (fun x h=>by have:=hx x h; omega) ((Nat.le_div_iff_mul_le (by omega)).1 hk)
theorem Tryz.lgOpenQ_w {r kq:Nat}(d P n:Nat) (c3 c4:Int) (q:DkQ r kq) (w:World) (hm:mayCf P n c3 c4=true) (hq:q.P=[]) (hKS:q.K=q.S) (hkq:kq≤900000) (hns:∀ p,p∈q.S→p.1.length≤9223372036854775807) (h0:(opnH r P n q.S).1=0) (hT:Tryz.Tabs w) (hTk:∀ x,x∈Tryz.tabG→x ∉ kys [] [Tryz.dkS d q]) (hown:Own [] [Tryz.dkS d q] w) :
    Tri Tryz.prog 16 [.pointer (some ⟨d,0,none⟩),.agg ⟨[.int .i64 P,.int .i64 n,.int .i64 c3,.int .i64 c4]⟩] w (kys [] [Tryz.dkS d q])
      (fun v bx hp=>∃ (lg:Nat) (x:LgQ r 0),v=.tuple #[.pointer (some ⟨lg,0,none⟩),.int .i64 0]∧bx=[]∧hp=[Tryz.lgS lg d P n c3 c4 x]∧x.R=opnR P q.S∧x.q.P=[]∧x.q.K=x.q.S∧x.q.S=(opnH r P n q.S).2.1):=by
  refine (Tryz.lgOpen_w d P n c3 c4 q w hm hq hKS hkq hns hT hTk hown).re ?_
  rintro v bx hp ⟨K,R,S1,e,h⟩
  have e1:(rdLoop P 5000 0 q.S []).1=K:=by rw [e]
  have e2:opnR P q.S=R:=by unfold opnR; rw [e]
  have e3:(rdLoop P 5000 0 q.S []).2.2=S1:=by rw [e]
  have e4:opnH r P n q.S=hdrS r (clrS K R.length S1 S1) (wantH P n R):=by unfold opnH opnC; rw [e1,e2,e3]
  rw [e4] at h0 ⊢
  rw [if_pos h0] at h
  obtain⟨lg,gr,cr,gh,ch,q',rfl,rfl,rfl,f1,f2,f3⟩:=h
  exact⟨[],[Tryz.lgS lg d P n c3 c4 (⟨R,gr,cr,gh,ch,q'⟩:LgQ r 0)],⟨lg,_,rfl,rfl,rfl,e2.symm,f1,f2,f3⟩,fun S w' h=>WOk.pk h⟩
theorem Tryz.lgAppendQ_w {r kq:Nat}(lg d P n:Nat) (c3 c4:Int) (x:LgQ r kq) (row:List UInt8) (M:FL) (ma:Option Addr) (mc:Nat) (w:World) (hm:mayCf P n c3 c4=true) (eR:x.R.length≤90000) (hx:∀ y,y∈x.R→1≤y.length∧y.length≤65536) (hrl:row.length≤9223372036854775807) (eM:M.length≤60) (hMb:∀ p,p∈M→p.2.length≤9000) (hMn:∀ p,p∈M→p.1.length≤9223372036854775807) (hr:SlOk w ma (fl M)) (hkq:kq≤800000)
    (hrm:∀ y,y∈slR ma (fl M)→y ∉ kys [] [Tryz.lgS lg d P n c3 c4 x]) (hT:Tryz.Tabs w) (hTk:∀ y,y∈Tryz.tabG→y ∉ kys [] [Tryz.lgS lg d P n c3 c4 x]) (hown:Own [] [Tryz.lgS lg d P n c3 c4 x] w) :
    Tri Tryz.prog 23 [.pointer (some ⟨lg,0,none⟩),str row,.slice ma M.length mc] w (kys [] [Tryz.lgS lg d P n c3 c4 x])
      (fun v bx hp => v=.int .i64 (appE r P n x.q.S x.R row M)∧bx=[]∧∃ x':LgQ r (kq+62),hp=[Tryz.lgS lg d P n c3 c4 x']∧x'.q.K=x.q.K ∧
        if appE r P n x.q.S x.R row M=0 then x'.R=x.R++[row]∧(x'.q.S,x'.q.P)=wrAll r (x.q.S,x.q.P) (actL P n x.q.S x.R row M) else x'.R=x.R∧x'.q.S=x.q.S∧x'.q.P=x.q.P):=by
  have ek:kys [] [Tryz.lgS lg d P n c3 c4 x]=kys (Tryz.lgBx lg d P n c3 c4 x) (Tryz.lgHp d P n x):=kys_pk ..
  rw [ek] at hrm hTk
  refine Tri.pk (bm:=Tryz.lgBx lg d P n c3 c4 x) (br:=[]) (hm:=Tryz.lgHp d P n x) (hr:=[]) hown (by simp) (by simp) (fun ho=>Tryz.lgAppend_w lg d P n x.cr x.ch c3 c4 x.gr x.gh x.R row x.q M ma mc w hm eR hx hrl eM hMb hMn hr hkq hrm hT hTk ho) ?_
  rintro v b1 h1 ⟨rfl,R',g,c,g2,c2,q',rfl,rfl,hK,hif⟩
  refine⟨[],[Tryz.lgS lg d P n c3 c4 (⟨R',g,c,g2,c2,q'⟩:LgQ r (kq+62))],⟨rfl,rfl,_,rfl,hK,hif⟩,fun S w' h=>WOk.pk (by rw [List.append_nil,List.append_nil] at h; exact h)⟩
theorem Tryz.lgSyncQ_w {r kq:Nat}(lg d P n:Nat) (c3 c4:Int) (x:LgQ r kq) (w:World) (hown:Own [] [Tryz.lgS lg d P n c3 c4 x] w) :
    Tri Tryz.prog 25 [.pointer (some ⟨lg,0,none⟩)] w (kys [] [Tryz.lgS lg d P n c3 c4 x])
      (fun v bx hp=>v=.int .i64 0∧bx=[]∧∃ x':LgQ r 0,hp=[Tryz.lgS lg d P n c3 c4 x']∧x'.R=x.R∧x'.q.P=[]∧x'.q.K=x.q.S∧x'.q.S=x.q.S):=by
  refine Tri.pk (bm:=Tryz.lgBx lg d P n c3 c4 x) (br:=[]) (hm:=Tryz.lgHp d P n x) (hr:=[]) hown (by simp) (by simp) (Q:=fun v bx hp=>v=.int .i64 0∧bx=Tryz.lgBx lg d P n c3 c4 x∧∃ q':DkQ r 0,hp=[Tryz.dkS d q',Seg.row x.gr 9 1 x.R.length x.cr (x.R.map str),Seg.row x.gh 28 6 (x.R.length / P) x.ch ((hdsB P n x.R (x.R.length / P)).flatMap hdC)]∧q'.P=[]∧q'.K=x.q.S∧q'.S=x.q.S) (fun ho=>?_) ?_
  · unfold Tryz.lgBx Tryz.lgHp at ho ⊢
    unfold lgV at ho ⊢
    refine Tri.enter Tryz.func25 rfl (by kernel_rfl) rfl ho ?_
    refine At.go [false] [hB 0] rfl (by and_intros <;> first | (simp; done) | exact oK) ?_
    refine At.step [] rfl rfl rfl rfl rfl trivial (OpOk.callO [false] [false,false,true] rfl rfl (fun w' _ ho=>Tryz.qSync_w d x.q w' ho) ?_)
    rintro _ _ _ ⟨rfl,rfl,q',rfl,f1,f2,f3⟩
    refine At.go [] [] rfl oK ?_
    refine At.rt [true] [true,true,true] [] Tryz.func25 ?_
    exact⟨rfl,rfl,q',rfl,f1,f2,f3⟩
  · rintro v b1 h1 ⟨rfl,rfl,q',rfl,f1,f2,f3⟩
    refine⟨[],[Tryz.lgS lg d P n c3 c4 (⟨x.R,x.gr,x.cr,x.gh,x.ch,q'⟩:LgQ r 0)],⟨rfl,rfl,_,rfl,rfl,f1,f2,f3⟩,fun S w' h=>WOk.pk ?_⟩
    rw [List.append_nil,List.append_nil] at h
    exact h.permB (List.Perm.refl _) (frontsL_perm [2,2] _)
theorem Tryz.lgHeadsQ_w {r k:Nat}(lg d P n:Nat) (c3 c4:Int) (x:LgQ r k) (w:World) (eR:x.R.length≤1000000) (h:(Tryz.lgS lg d P n c3 c4 x).ok w) :
    Tri Tryz.prog 39 [.pointer (some ⟨lg,0,none⟩)] w [] (fun v bx hp=>∃ g c,v=sv g (x.R.length / P) c∧bx=[]∧hp=[Seg.row g 28 6 (x.R.length / P) c ((hdsB P n x.R (x.R.length / P)).flatMap hdC)]):=by
  have hl:=hdsB_len P n x.R (x.R.length / P)
  have hd:=Nat.div_le_self x.R.length P
  have:=Tryz.lgHeads_w lg d P n c3 c4 (hdsB P n x.R (x.R.length / P)) (svA x.gh) x.ch (sv x.gr x.R.length x.cr) w (by omega) (by rw [hl]; exact rowOk_none (Tryz.lgS_h h)) (by rw [hl]; exact Tryz.lgS_b h) (SlOk.row (Tryz.lgS_h h))
  rwa [hl] at this
theorem Tryz.lgRowsQ_w {r k:Nat}(lg d P n:Nat) (c3 c4:Int) (x:LgQ r k) (w:World) (eR:x.R.length≤1000000) (h:(Tryz.lgS lg d P n c3 c4 x).ok w) :
    Tri Tryz.prog 19 [.pointer (some ⟨lg,0,none⟩)] w [] (fun v bx hp=>∃ g c,v=sv g x.R.length c∧bx=[]∧hp=[Seg.row g 9 1 x.R.length c (x.R.map str)]) :=
  Tryz.lgRows_w lg d P n c3 c4 x.R (svA x.gr) x.cr (sv x.gh (x.R.length / P) x.ch) w eR (rowOk_none (Tryz.lgS_r h)) (Tryz.lgS_b h) (SlOk.row (Tryz.lgS_r h))
theorem Tryz.lgLenQ_w {r k:Nat}(lg d P n:Nat) (c3 c4:Int) (x:LgQ r k) (w:World) (h:(Tryz.lgS lg d P n c3 c4 x).ok w):Fun Tryz.prog 28 [.pointer (some ⟨lg,0,none⟩)] w (.int .i64 x.R.length) :=
  Tryz.lgLen_w lg d P n x.R.length c3 c4 (svA x.gr) x.cr (sv x.gh (x.R.length / P) x.ch) w (Tryz.lgS_b h)
theorem Tryz.lgHashQ_w {r k:Nat}(lg d P n:Nat) (c3 c4:Int) (x:LgQ r k) (w:World) (hm:mayCf P n c3 c4=true) (eR:x.R.length≤1000000) (hx:∀ y,y∈x.R→y.length≤65536) (h:(Tryz.lgS lg d P n c3 c4 x).ok w) (hT:Tryz.Tabs w):Fun Tryz.prog 21 [.pointer (some ⟨lg,0,none⟩)] w (str (prevB P n x.R (x.R.length / P))):=by
  have hin:=mayCf_in hm
  have hd:=Nat.div_le_self x.R.length P
  exact Tryz.lgHash_w lg d P n (x.R.length / P) x.ch c3 c4 x.R (sv x.gr x.R.length x.cr) (svA x.gh) w (by omega) (by omega) (lg_may hm eR hx) (Tryz.lgS_b h) (SlOk.row (Tryz.lgS_h h)) hT
theorem row_ne {row:List UInt8}(h:row≠[]):1≤row.length:=List.length_pos_iff.2 h
theorem seal_may {P n:Nat}{R:List (List UInt8)}{row:List UInt8}(hP:1≤P∧P≤64) (hn:n≤32) (eR:R.length≤90000) (hx:∀ x,x∈R→x.length≤65536) (hrow:row.length≤65536) (hs:sealsP P R=true):mayH (hdK P n (R++[row]) (R.length / P)) n=true:=by
  refine hdK_may hP hn (by rw [List.length_append,List.length_singleton]; omega) (fun x h=>?_) ?_
  · rcases List.mem_append.1 h with h | h
    · have:=hx x h; omega
    · rw [List.mem_singleton.1 h]; omega
  · have h1:=of_decide_eq_true hs
    have h2:=Nat.div_add_mod R.length P
    rw [List.length_append,List.length_singleton,Nat.add_mul,Nat.mul_comm]
    omega
theorem grow_ok {r P n:Nat}{R:List (List UInt8)}{S:FL}{row:List UInt8}(W:List (List UInt8 × Nat × List UInt8)) (hP:1≤P∧P≤64) (hn:n≤32) (eR:R.length≤90000) (hI:LInv P n S R) (hr:risN S=true) (hx:∀ x,x∈R→x.length≤65536) (h1:1≤row.length) (hrow:row.length≤65536) (hS:S.length≤4094) (hu:sumB S+row.length+139≤r) :
    appE r P n S R row []=0∧LInv P n (wrAll r (S,W) (actL P n S R row [])).1 (R++[row])∧(wrAll r (S,W) (actL P n S R row [])).1.length≤S.length+2∧sumB (wrAll r (S,W) (actL P n S R row [])).1≤sumB S+row.length+139:=by
  have hmx:=seal_may (row:=row) hP hn eR hx hrow
  have h0:=app_fits h1 hrow hn hmx hS hu
  obtain⟨-,w2,-,w4,w5,-⟩:=app_ok W hP.1 (by omega) hI hr h0
  obtain⟨a1,-⟩:=actL_one (S:=S) hrow hn hmx
  exact⟨h0,w2,by simpa using w5,by omega⟩
theorem nm1:nmB 115 1=[115,49]:=by
  unfold nmB Lib.itoa
  rw [if_pos (by decide),if_neg (by decide),Lib.decDigits,dif_pos (by decide)]; rfl
theorem Tryz.alive19_w (w:World) (hT:Tryz.Tabs w):Fun Tryz.prog 7 [] w (.bool true):=by
  have htl:=Tryz.tabs_lt hT
  have hm:mayCf 2 4 0 1000=true:=by decide
  refine Tri.enter (bx:=[]) (hp:=[]) Tryz.func7 rfl (by kernel_rfl) rfl (Own.nil w) ?_
  refine At.go [] [] rfl oK ?_
  refine At.step [] rfl rfl rfl rfl rfl trivial (OpOk.call rfl (fun w' _=>Tryz.qNew_w 1000 w') ?_)
  intro v bx' hp' hQ
  unfold Tryz.OfQ at hQ
  rw [if_neg (by decide),if_neg (by decide)] at hQ
  replace hQ:∃ (d:Nat) (q:DkQ 1000 0),v=.tuple #[.pointer (some ⟨d,0,none⟩),.int .i64 0]∧bx'=[]∧hp'=[Tryz.dkS d q]∧q.S=[]∧q.K=[]∧q.P=[]:=hQ
  obtain⟨d,q,rfl,rfl,rfl,q1,q2,q3⟩:=hQ
  have hR0:=opnH_none 1000 2 4 (by omega)
  refine At.go [false] [] rfl (by and_intros <;> first | (simp; done) | exact oK) ?_
  refine At.step [] rfl rfl rfl rfl rfl trivial (OpOk.callO [] [true] rfl rfl (fun w' hw' ho=>Tryz.lgOpenQ_w d 2 4 0 1000 q w' hm q3 (q2.trans q1.symm) (by omega) (fun p hp=>by rw [q1] at hp; cases hp) (by rw [q1,hR0.2]) (Tryz.tabs_ext0 hT hw'.ext) (WOk.apartT hw' htl (by simp [kys]) [] [true]) ho) ?_)
  rintro _ _ _ ⟨lg,x,rfl,rfl,rfl,x1,x2,x3,x4⟩
  rw [q1,hR0.1] at x1
  rw [q1,hR0.2] at x4
  have l0:LInv 2 4 x.q.S x.R:=by rw [x1,x4]; exact LInv.nil 2 4
  have g1:=grow_ok (r:=1000) (row:=[97]) x.q.P (by omega) (by omega) (by rw [x1]; decide) l0 x.q.ris (by rw [x1]; intro y hy; cases hy) (by decide) (by decide) (by rw [x4]; decide) (by rw [x4]; decide)
  have hM0:SlOk w none (fl []):=.inl rfl
  refine At.go [false,false] [] rfl (by and_intros <;> first | (simp; done) | exact oK) ?_
  refine At.step [] rfl rfl rfl rfl rfl trivial (OpOk.callO [] [true] rfl rfl (fun w' hw' ho=>Tryz.lgAppendQ_w lg d 2 4 0 1000 x [97] [] none 0 w' hm (by rw [x1]; decide) (by rw [x1]; intro y hy; cases hy) (by decide) (by decide) (fun p hp=>by cases hp) (fun p hp=>by cases hp) (.inl rfl) (by omega) (fun y hy=>by cases hy) (Tryz.tabs_ext0 hT hw'.ext) (WOk.apartT hw' htl (by simp [kys]) [] [true]) ho) ?_)
  rintro _ _ _ ⟨rfl,rfl,y,rfl,y1,y2⟩
  rw [if_pos g1.1] at y2
  obtain⟨y3,y4⟩:=y2
  have y5:y.q.S=(wrAll 1000 (x.q.S,x.q.P) (actL 2 4 x.q.S x.R [97] [])).1:=congrArg Prod.fst y4
  rw [← y5,← y3] at g1
  rw [g1.1]
  have hS0:x.q.S.length=0∧sumB x.q.S=0:=by rw [x4]; exact⟨rfl,rfl⟩
  have hy1:y.R=[[97]]:=by rw [y3,x1]; rfl
  have g2:=grow_ok (r:=1000) (row:=[98]) y.q.P (by omega) (by omega) (by rw [hy1]; decide) g1.2.1 y.q.ris (by rw [hy1]; decide) (by decide) (by decide) (by omega) (by simp only [List.length_singleton] at g1 ⊢; omega)
  refine At.go [] [] rfl (by and_intros <;> first | (simp; done) | exact oK) ?_
  refine At.step [] rfl rfl rfl rfl rfl trivial (OpOk.callO [] [true] rfl rfl (fun w' hw' ho=>Tryz.lgAppendQ_w lg d 2 4 0 1000 y [98] [] none 0 w' hm (by rw [hy1]; decide) (by rw [hy1]; decide) (by decide) (by decide) (fun p hp=>by cases hp) (fun p hp=>by cases hp) (.inl rfl) (by omega) (fun y hy=>by cases hy) (Tryz.tabs_ext0 hT hw'.ext) (WOk.apartT hw' htl (by simp [kys]) [] [true]) ho) ?_)
  rintro _ _ _ ⟨rfl,rfl,z,rfl,z1,z2⟩
  rw [if_pos g2.1] at z2
  obtain⟨z3,z4⟩:=z2
  have z5:z.q.S=(wrAll 1000 (y.q.S,y.q.P) (actL 2 4 y.q.S y.R [98] [])).1:=congrArg Prod.fst z4
  rw [← z5,← z3] at g2
  rw [g2.1]
  have hz1:z.R=[[97],[98]]:=by rw [z3,hy1]; rfl
  have g3:=grow_ok (r:=1000) (row:=[99]) z.q.P (by omega) (by omega) (by rw [hz1]; decide) g2.2.1 z.q.ris (by rw [hz1]; decide) (by decide) (by decide) (by omega) (by simp only [List.length_singleton] at g1 g2 ⊢; omega)
  refine At.go [] [] rfl (by and_intros <;> first | (simp; done) | exact oK) ?_
  refine At.step [] rfl rfl rfl rfl rfl trivial (OpOk.callO [] [true] rfl rfl (fun w' hw' ho=>Tryz.lgAppendQ_w lg d 2 4 0 1000 z [99] [] none 0 w' hm (by rw [hz1]; decide) (by rw [hz1]; decide) (by decide) (by decide) (fun p hp=>by cases hp) (fun p hp=>by cases hp) (.inl rfl) (by omega) (fun y hy=>by cases hy) (Tryz.tabs_ext0 hT hw'.ext) (WOk.apartT hw' htl (by simp [kys]) [] [true]) ho) ?_)
  rintro _ _ _ ⟨rfl,rfl,u,rfl,u1,u2⟩
  rw [if_pos g3.1] at u2
  obtain⟨u3,u4⟩:=u2
  have u5:u.q.S=(wrAll 1000 (z.q.S,z.q.P) (actL 2 4 z.q.S z.R [99] [])).1:=congrArg Prod.fst u4
  rw [← u5,← u3] at g3
  rw [g3.1]
  have hu1:u.R=[[97],[98],[99]]:=by rw [u3,hz1]; rfl
  have wl:∀ b:UInt8,wrapL [b]=[1,b,165]:=fun b=>by unfold wrapL rowL; rw [List.length_singleton,numL_small (by omega)]; rfl
  have hs0:readN u.q.S [115,48]=[1,97,165,1,98,165]:=by
    have:=g3.2.1.sg 0 (by omega)
    rw [show nmB 115 ((0:Nat):Int)=[115,48] from nm0] at this
    rw [this,hu1]
    simp [segK,wl]
  have hs1:readN u.q.S [115,49]=[1,99,165]:=by
    have:=g3.2.1.sg 1 (by omega)
    rw [show nmB 115 ((1:Nat):Int)=[115,49] from nm1] at this
    rw [this,hu1]
    simp [segK,wl]
  have fR0:∀ {bx:Bx}{hp:List Seg},nth hp 0=some (Tryz.lgS lg d 2 4 0 1000 u)→CallOb Tryz.prog ⟨w,kys [] []⟩ bx hp 24 [.pointer (some ⟨d,0,none⟩),.string ⟨#[115,48]⟩] (str [1,97,165,1,98,165]):=fun {_ _} h w' hw'=>by
    have:=Tryz.qRead_w d u.q [115,48] w' (Tryz.lgS_d (hw'.hp _ (nth_mem h)))
    rwa [hs0] at this
  have fR1:∀ {bx:Bx}{hp:List Seg},nth hp 0=some (Tryz.lgS lg d 2 4 0 1000 u)→CallOb Tryz.prog ⟨w,kys [] []⟩ bx hp 24 [.pointer (some ⟨d,0,none⟩),.string ⟨#[115,49]⟩] (str [1,99,165]):=fun {_ _} h w' hw'=>by
    have:=Tryz.qRead_w d u.q [115,49] w' (Tryz.lgS_d (hw'.hp _ (nth_mem h)))
    rwa [hs1] at this
  refine At.go [true,true,true,true,true] [hC (.string { data:=#[1,97,165,1,98,165] }),hC (.string { data:=#[1,99,165] })] rfl (by and_intros <;> first | (simp; done) | exact fR0 rfl | exact fR1 rfl | exact oK) ?_
  refine At.step [true] rfl rfl rfl rfl rfl (by simp) (OpOk.call rfl (fun w' hw'=>Tryz.lgHeadsQ_w lg d 2 4 0 1000 u w' (by rw [hu1]; decide) (hw'.hp _ (nth_mem (i:=0) rfl))) ?_)
  rintro _ _ _ ⟨g,c,rfl,rfl,rfl⟩
  have fL:∀ {bx:Bx}{hp:List Seg},nth hp 1=some (Tryz.lgS lg d 2 4 0 1000 u)→CallOb Tryz.prog ⟨w,kys [] []⟩ bx hp 28 [.pointer (some ⟨lg,0,none⟩)] (.int .i64 3):=fun {_ _} h w' hw'=>by
    have:=Tryz.lgLenQ_w lg d 2 4 0 1000 u w' (hw'.hp _ (nth_mem h))
    rwa [hu1] at this
  rw [hu1]
  refine At.go [true,true] [hC (.int .i64 3)] rfl (by and_intros <;> first | (simp; done) | exact fL rfl | exact oK) ?_
  refine At.rt [] [] [] Tryz.func7 ?_
  exact⟨rfl,rfl,rfl⟩
theorem keep_log {S:Base}{bx:Bx}{hp0 hp:List Seg}{bl:Bx}{w:World}(h:WOk S bx (Seg.pack bl hp0 :: hp) w):WOk S (bx++bl) (hp0++hp) w:=h.unpackG
theorem blk_apart {S:Base}{e:Nat × TypeId × List Value}{bx:Bx}{s:Seg}{hp:List Seg}{w:World}(h:WOk S (e :: bx) (s :: hp) w):e.1 ∉ kys [] [s]:=by
  have h1:=h.nd
  simp only [kys,List.map_cons,List.flatMap_cons,List.cons_append,List.nodup_cons,List.mem_append,not_or] at h1
  simpa [kys] using h1.1.2.1
theorem seg_in {bx:Bx}{s:Seg}{hp:List Seg}{k:Nat}(h:k∈kys [] [s]):k∈kys bx (s :: hp):=by
  simp only [kys,List.map_nil,List.nil_append,List.flatMap_cons,List.flatMap_nil,List.append_nil] at h
  simp only [kys,List.flatMap_cons,List.mem_append]
  exact .inr (.inl h)
end Go.Proofs
namespace Go.Proofs
open Go Go.Eng
set_option maxRecDepth 100000
set_option maxHeartbeats 1500000
attribute [local irreducible] Tri
structure AlE where
  k:Int
  row:List UInt8
  ma:Option Addr
  mc:Nat
  M:FL
  ka:Option Addr
  kc:Nat
  ks:List Int
def alC (e:AlE):List Value:=[.int .u8 e.k,str e.row,.slice e.ma e.M.length e.mc,.slice e.ka e.ks.length e.kc]
structure AlOk (w:World) (e:AlE):Prop where
  k:0≤e.k∧e.k≤255
  n:e.row.length≤9223372036854775807
  ml:e.M.length≤9223372036854775807
  ms:SlOk w e.ma (fl e.M)
  mn:∀ p,p∈e.M→p.1.length≤9223372036854775807∧p.2.length≤9223372036854775807
  sl:SlOk w e.ka (i64s e.ks)
  kl:e.ks.length≤9223372036854775807
  ki:∀ x,x∈e.ks→inK .i64 x
theorem al_cell {L:List AlE}{i:Nat}{e:AlE}{S0:Base}{bx:Bx}{hp:List Seg}{g o off:Nat}(hc:∀ j u,(L.flatMap alC)[j]?=some u→S0.w0.cell? ⟨g,o+j,none⟩=some u) (hm:g ∉ S0.mods) (h:L[i]?=some e) (f:Nat) {v:Value}(hv:(alC e)[f]?=some v) (ho:off=o+i * 4+f):RdW S0 bx hp g off [v] :=
  RdW.sl hc hm (i * 4+f) (by omega) (fun j u hu=>by
    match j,hu with
    | 0,hu =>
      simp only [List.getElem?_cons_zero,Option.some.injEq] at hu
      subst hu
      exact flat_get (f:=alC) (sz:=4) (fun _ _=>rfl) h f _ hv)
def greatA (e:AlE):Bool:=decide (300 < e.row.length) || greatS e.M || decide (100 < e.ks.length)
def greatL (L:List AlE):Bool:=decide (30 < L.length) || L.any greatA
theorem greatL_no {L:List AlE}(h:greatL L=false):L.length≤30∧∀ e,e∈L→e.row.length≤300∧greatS e.M=false∧e.ks.length≤100:=by
  unfold greatL at h
  rw [Bool.or_eq_false_iff,List.any_eq_false] at h
  refine⟨by have:=of_decide_eq_false h.1; omega,fun e he=>?_⟩
  have:=h.2 e he
  unfold greatA at this
  simp only [Bool.or_eq_true,decide_eq_true_eq,not_or,Bool.not_eq_true] at this
  exact⟨by omega,this.1.2,by omega⟩
theorem Tryz.great19_w (L:List AlE) (a:Option Addr) (ca:Nat) (w:World) (hl:L.length≤9223372036854775807) (hr:SlOk w a (L.flatMap alC)) (hok:∀ e,e∈L→AlOk w e) :
    Fun Tryz.prog 32 [.slice a L.length ca] w (.bool (greatL L)):=by
  by_cases h30:30 < L.length
  · have e:greatL L=true:=by unfold greatL; rw [decide_eq_true h30]; rfl
    rw [e]
    refine Tri.enter (bx:=[]) (hp:=[]) Tryz.func32 rfl (by kernel_rfl) rfl (Own.nil w) ?_
    refine At.go [true] [] rfl (by and_intros <;> first | exact decide_eq_true (by omega) | exact oK) ?_
    refine At.rt [] [] [] Tryz.func32 ?_
    exact⟨rfl,rfl,rfl⟩
  obtain⟨G,hG⟩:∃ G,greatL L=G:=⟨_,rfl⟩
  rw [hG]
  have e0:L.any greatA=G:=by rw [← hG]; unfold greatL; rw [decide_eq_false h30]; rfl
  refine Tri.enter (bx:=[]) (hp:=[]) Tryz.func32 rfl (by kernel_rfl) rfl (Own.nil w) ?_
  refine At.go [false] [] rfl (by and_intros <;> first | exact decide_eq_false (by omega) | exact oK) ?_
  refine At.loop (env0:=[(0,.slice a L.length ca),(3,.int .i64 0)]) (fun m_ env bx hp => ∃ (i:Nat),m_=L.length - i∧(i≤L.length)∧((L.drop i).any greatA=G)∧env=[(0,.slice a L.length ca),(3,.int .i64 (i:Int))]∧bx=[]∧hp=[]) rfl
    ⟨0,rfl,(Nat.zero_le _),(e0),rfl,rfl,rfl⟩ sB ?_
  rintro m_ env bx hp ⟨i,rfl,hi,hA,rfl,rfl,rfl⟩ ih
  by_cases hlt:i < L.length
  · obtain⟨e,he⟩:∃ e,L[i]?=some e:=⟨_,List.getElem?_eq_getElem hlt⟩
    have hek:=hok e (List.mem_of_getElem? he)
    have hen:=hek.n
    obtain⟨g0,o,rfl,hc⟩:=hr.get (by intro h; have:=flat_get (f:=alC) (sz:=4) (fun _ _=>rfl) he 0 _ rfl; rw [h] at this; simp at this)
    have r1:∀ {bx:Bx}{hp:List Seg},RdW ⟨w,kys [] []⟩ bx hp g0 (o+(i:Int).toNat * 4+1) [str e.row]:=fun {_ _}=>al_cell hc (by simp [kys]) he 1 rfl (by omega)
    have r2:∀ {bx:Bx}{hp:List Seg},RdW ⟨w,kys [] []⟩ bx hp g0 (o+(i:Int).toNat * 4+2) [.slice e.ma e.M.length e.mc]:=fun {_ _}=>al_cell hc (by simp [kys]) he 2 rfl (by omega)
    have r3:∀ {bx:Bx}{hp:List Seg},RdW ⟨w,kys [] []⟩ bx hp g0 (o+(i:Int).toNat * 4+3) [.slice e.ka e.ks.length e.kc]:=fun {_ _}=>al_cell hc (by simp [kys]) he 3 rfl (by omega)
    have fG:∀ {bx:Bx}{hp:List Seg},CallOb Tryz.prog ⟨w,kys [] []⟩ bx hp 13 [.slice e.ma e.M.length e.mc] (.bool (greatS e.M)):=fun {_ _} w' hw'=>Tryz.great9_w e.M e.ma e.mc w' hek.ml (hek.ms.ext hw'.ext (by simp [kys])) hek.mn
    obtain⟨h1,h2⟩:=List.getElem?_eq_some_iff.1 he
    rw [List.drop_eq_getElem_cons h1,h2,List.any_cons] at hA
    by_cases d1:300 < e.row.length
    · have eG:G=true:=by rw [← hA]; unfold greatA; rw [decide_eq_true d1]; rfl
      rw [eG]
      refine At.go [true,true,true,true] [hR [.string { data:=e.row.toArray }]] rfl (by and_intros <;> first | exact decide_eq_true (by omega) | exact r1 | exact r2 | exact r3 | exact fG | (rw [bl_of]; exact decide_eq_true (by omega)) | (rw [bl_of]; omega) | (simp; done) | exact oK) ?_
      refine At.rt [] [] [] Tryz.func32 ?_
      exact⟨rfl,rfl,rfl⟩
    cases d2:greatS e.M with
    | true =>
      rw [d2] at fG
      have eG:G=true:=by rw [← hA]; unfold greatA; rw [d2]; simp
      rw [eG]
      refine At.go [true,false,true,true] [hR [.string { data:=e.row.toArray }],hR [.slice e.ma (List.length e.M) e.mc],hC (.bool true)] rfl (by and_intros <;> first | exact decide_eq_true (by omega) | exact r1 | exact r2 | exact r3 | exact fG | (rw [bl_of]; exact decide_eq_false (by omega)) | (rw [bl_of]; omega) | (simp; done) | exact oK) ?_
      refine At.rt [] [] [] Tryz.func32 ?_
      exact⟨rfl,rfl,rfl⟩
    | false =>
      rw [d2] at fG
      by_cases d3:100 < e.ks.length
      · have eG:G=true:=by rw [← hA]; unfold greatA; rw [decide_eq_true d3]; simp
        rw [eG]
        refine At.go [true,false,false,true] [hR [.string { data:=e.row.toArray }],hR [.slice e.ma (List.length e.M) e.mc],hC (.bool false),hR [.slice e.ka e.ks.length e.kc]] rfl (by and_intros <;> first | exact decide_eq_true (by omega) | exact r1 | exact r2 | exact r3 | exact fG | (rw [bl_of]; exact decide_eq_false (by omega)) | (rw [bl_of]; omega) | (simp; done) | exact oK) ?_
        refine At.rt [] [] [] Tryz.func32 ?_
        exact⟨rfl,rfl,rfl⟩
      · have eG:greatA e=false:=by unfold greatA; rw [decide_eq_false d1,d2,decide_eq_false d3]; rfl
        rw [eG,Bool.false_or] at hA
        refine At.go [true,false,false,false] [hR [.string { data:=e.row.toArray }],hR [.slice e.ma (List.length e.M) e.mc],hC (.bool false),hR [.slice e.ka e.ks.length e.kc]] rfl (by and_intros <;> first | exact decide_eq_true (by omega) | exact r1 | exact r2 | exact r3 | exact fG | (rw [bl_of]; exact decide_eq_false (by omega)) | exact decide_eq_false (by omega) | (rw [bl_of]; omega) | (simp; done) | exact oK) ?_
        exact At.weak (ih _ _ _ _ (by omega) ⟨i+1,rfl,by omega,hA,rfl,rfl,rfl⟩) sB
  · obtain rfl:i=L.length:=by omega
    rw [List.drop_length] at hA
    rw [show G=false from hA.symm]
    refine At.go [false] [] rfl (by and_intros <;> first | exact decide_eq_false (by omega) | exact oK) ?_
    refine At.rt [] [] [] Tryz.func32 ?_
    exact⟨rfl,rfl,rfl⟩
theorem Tryz.heads19_w (H:List HdB) (a b:Option Addr) (ca cb:Nat) (w:World) (hl:H.length≤1000000) (ha:SlOk w a (H.flatMap hdC)) (hb:SlOk w b (H.flatMap hdC)) :
    Fun Tryz.prog 72 [.slice a H.length ca,.slice b H.length cb] w (.bool true):=by
  refine Tri.enter (bx:=[]) (hp:=[]) Tryz.func72 rfl (by kernel_rfl) rfl (Own.nil w) ?_
  refine At.go [false] [] rfl (by and_intros <;> first | (simp; done) | exact oK) ?_
  refine At.loop (env0:=[(0,.slice a H.length ca),(1,.slice b H.length cb),(5,.int .i64 0)]) (fun m_ env bx hp => ∃ (i:Nat),m_=H.length - i∧(i≤H.length)∧env=[(0,.slice a H.length ca),(1,.slice b H.length cb),(5,.int .i64 (i:Int))]∧bx=[]∧hp=[]) rfl
    ⟨0,rfl,(Nat.zero_le _),rfl,rfl,rfl⟩ sB ?_
  rintro m_ env bx hp ⟨i,rfl,hi,rfl,rfl,rfl⟩ ih
  by_cases hlt:i < H.length
  · obtain⟨x,hx⟩:∃ x,H[i]?=some x:=⟨_,List.getElem?_eq_getElem hlt⟩
    have hne:H.flatMap hdC≠[]:=by intro e; have:=flat_get (f:=hdC) (sz:=6) (fun _ _=>rfl) hx 0 _ rfl; rw [e] at this; simp at this
    obtain⟨g1,o1,rfl,k1⟩:=ha.get hne
    obtain⟨g2,o2,rfl,k2⟩:=hb.get hne
    have rX:∀ {bx:Bx}{hp:List Seg},RdW ⟨w,kys [] []⟩ bx hp g1 (o1+(i:Int).toNat * 6) (hdC x):=fun {_ _}=>RdW.base (by simp [kys]) fun j u hu=>by
      rw [Int.toNat_natCast,Nat.add_assoc]; exact k1 _ u (flat_get (f:=hdC) (sz:=6) (fun _ _=>rfl) hx j u hu)
    have rY:∀ {bx:Bx}{hp:List Seg},RdW ⟨w,kys [] []⟩ bx hp g2 (o2+(i:Int).toNat * 6) (hdC x):=fun {_ _}=>RdW.base (by simp [kys]) fun j u hu=>by
      rw [Int.toNat_natCast,Nat.add_assoc]; exact k2 _ u (flat_get (f:=hdC) (sz:=6) (fun _ _=>rfl) hx j u hu)
    refine At.go [true] [] rfl (by and_intros <;> first | exact decide_eq_true (by omega) | exact rX | exact rY | (simp; done) | exact oK) ?_
    refine At.qt [] [hR [.int .i64 x.i,.int .i64 x.f,.int .i64 x.c,.int .i64 x.b,.string { data:=x.p.toArray },.string { data:=x.r.toArray }],hR [.int .i64 x.i,.int .i64 x.f,.int .i64 x.c,.int .i64 x.b,.string { data:=x.p.toArray },.string { data:=x.r.toArray }]] rfl rfl (by and_intros <;> first | exact decide_eq_true (by omega) | exact rX | exact rY | (simp; done) | exact oK) ?_
    refine At.go [false] [] rfl (by and_intros <;> first | exact decide_eq_true (by omega) | exact rX | exact rY | (simp; done) | exact oK) ?_
    exact At.weak (ih _ _ _ _ (by omega) ⟨i+1,rfl,by omega,rfl,rfl,rfl⟩) sB
  · obtain rfl:i=H.length:=by omega
    refine At.go [false] [] rfl (by and_intros <;> first | exact decide_eq_false (by omega) | exact oK) ?_
    refine At.rt [] [] [] Tryz.func72 ?_
    exact⟨rfl,rfl,rfl⟩
theorem Tryz.same19_w {r k:Nat}(lg d P n:Nat) (c3 c4:Int) (x:LgQ r k) (aR:Option Addr) (cR:Nat) (w:World) (hm:mayCf P n c3 c4=true) (eR:x.R.length≤40) (hcR:x.R.length≤cR) (hx:∀ y,y∈x.R→y.length≤300) (hok:(Tryz.lgS lg d P n c3 c4 x).ok w) (hd:∀ y,y∈kys [] [Tryz.lgS lg d P n c3 c4 x]→y < w.heap.size) (sR:SlOk w aR (x.R.map str)) (hT:Tryz.Tabs w) :
    Fun Tryz.prog 37 [.agg ⟨keyC⟩,.agg ⟨[.int .i64 P,.int .i64 n,.int .i64 c3,.int .i64 c4]⟩,.pointer (some ⟨lg,0,none⟩),.slice aR x.R.length cR] w (.bool true):=by
  have hin:=mayCf_in hm
  have hdv:=Nat.div_le_self x.R.length P
  have hok2:∀ {bx:Bx}{hp:List Seg}{w':World},WOk ⟨w,kys [] []⟩ bx hp w'→(Tryz.lgS lg d P n c3 c4 x).ok w':=fun {_ _ w'} hw'=>(Tryz.lgS lg d P n c3 c4 x).loc w w' (fun y hy=>hw'.ext.block y (hd y (mem_kys_hp (List.mem_singleton.2 rfl) hy)) (by simp [kys])) hok
  have hmx:=lg_may (n:=n) (R:=x.R) hm (by omega) (fun z hz=>by have:=hx z hz; omega)
  have fL:∀ {bx:Bx}{hp:List Seg},CallOb Tryz.prog ⟨w,kys [] []⟩ bx hp 28 [.pointer (some ⟨lg,0,none⟩)] (.int .i64 x.R.length):=fun {_ _} w' hw'=>Tryz.lgLenQ_w lg d P n c3 c4 x w' (hok2 hw')
  have fHs:∀ {bx:Bx}{hp:List Seg},CallOb Tryz.prog ⟨w,kys [] []⟩ bx hp 21 [.pointer (some ⟨lg,0,none⟩)] (str (prevB P n x.R (x.R.length / P))):=fun {_ _} w' hw'=>Tryz.lgHashQ_w lg d P n c3 c4 x w' hm (by omega) (fun z hz=>by have:=hx z hz; omega) (hok2 hw') (Tryz.tabs_ext0 hT hw'.ext)
  have fS3:∀ {bx:Bx}{hp:List Seg}{g:Option Nat}{c:Nat},nth hp 0=some (Seg.row g 9 1 x.R.length c (x.R.map str))→CallOb Tryz.prog ⟨w,kys [] []⟩ bx hp 18 [.slice (svA g) x.R.length c,.slice aR x.R.length cR] (.bool true):=fun {_ _ g c} h w' hw'=>by
    have:=Tryz.same03_w x.R x.R (svA g) aR c cR w' (by omega) (by omega) (SlOk.row (hw'.hp _ (nth_mem h))) (sR.ext hw'.ext (by simp [kys]))
    rwa [decide_eq_true rfl] at this
  have hlen:=hdsB_len P n x.R (x.R.length / P)
  have hHr:=fun (w':World) (h:(Tryz.lgS lg d P n c3 c4 x).ok w')=>Tryz.lgHeadsQ_w lg d P n c3 c4 x w' (by omega) h
  have hRr:=fun (w':World) (h:(Tryz.lgS lg d P n c3 c4 x).ok w')=>Tryz.lgRowsQ_w lg d P n c3 c4 x w' (by omega) h
  have hHd:=fun (w':World) (h:SlOk w' aR (x.R.map str))=>Tryz.rHeads_w P n x.R c3 c4 aR cR w' (by omega) (by omega) (by omega) hcR hx h
  have hHh:=fun (w':World) (g:Option Nat) (c:Nat) (h:SlOk w' (svA g) ((hdsB P n x.R (x.R.length / P)).flatMap hdC))=>Tryz.rHash19_w P n (x.R.length / P) x.R c3 c4 (svA g) c w' (by omega) (by omega) hmx h
  have h19:=fun (w':World) (g1 g2:Option Nat) (u1 u2:Nat) (h1:SlOk w' (svA g1) ((hdsB P n x.R (x.R.length / P)).flatMap hdC)) (h2:SlOk w' (svA g2) ((hdsB P n x.R (x.R.length / P)).flatMap hdC))=>Tryz.heads19_w (hdsB P n x.R (x.R.length / P)) (svA g1) (svA g2) u1 u2 w' (by omega) h1 h2
  rw [hlen] at h19
  generalize prevB P n x.R (x.R.length / P)=z at fHs hHh
  generalize (hdsB P n x.R (x.R.length / P)).flatMap hdC=HC at hHr hHd hHh h19
  generalize x.R.length / P=K at *
  refine Tri.enter (bx:=[]) (hp:=[]) Tryz.func37 rfl (by kernel_rfl) rfl (Own.nil w) ?_
  refine At.go [] [] rfl (by and_intros <;> first | exact Tryz.key_ld (i:=1) rfl | exact oK) ?_
  refine At.bo fun b4 hb4=>?_
  refine At.bo fun b5 hb5=>?_
  refine At.go [] [hK (.agg { toList:=keyC }),hB 0] rfl (by and_intros <;> first | exact Tryz.key_ld (i:=1) rfl | exact oK) ?_
  refine At.step [] rfl rfl rfl rfl rfl trivial (OpOk.call rfl (fun w' hw'=>hHd w' (sR.ext hw'.ext (by simp [kys]))) ?_)
  rintro _ _ _ ⟨gh,kh,rfl,rfl,rfl⟩
  have fHh:∀ {bx:Bx}{hp:List Seg}{j:Nat},nth hp j=some (Seg.row gh 28 6 K kh HC)→CallOb Tryz.prog ⟨w,kys [] []⟩ bx hp 73 [.agg ⟨keyC⟩,.agg ⟨[.int .i64 P,.int .i64 n,.int .i64 c3,.int .i64 c4]⟩,.slice (svA gh) K kh] (str z):=fun {_ _ _} h w' hw'=>hHh w' gh kh (SlOk.row (hw'.hp _ (nth_mem h)))
  refine At.gn 3 [] [] rfl (by and_intros <;> first | exact Tryz.key_ld (i:=1) rfl | exact oK) ?_
  refine At.dr 27 ?_
  refine AtD.lx [0,1,2,3,4,5] 21 [] [hC (.int .i64 x.R.length)] rfl (by and_intros <;> first | exact fL | (simp; done) | exact oK) ?_
  refine AtD.pureG (fuel:=20) (i:=8) true [true] (by kernel_rfl) (by kernel_rfl) rfl rfl rfl rfl (by simp) rfl trivial ?_
  refine AtD.pureG (fuel:=19) (i:=6) true [true] (by kernel_rfl) (by kernel_rfl) rfl rfl rfl rfl (by simp) rfl trivial ?_
  refine AtD.fork1 7 (by kernel_rfl) (StepD.by [true] rfl rfl rfl rfl (by simp) (OpOk.call rfl (fun w' hw'=>hRr w' (hok2 hw')) ?_))
  rintro _ _ _ ⟨g1,k1,rfl,rfl,rfl⟩
  refine AtD.lx [9,10,11] 15 [true] [hC (.bool true)] rfl (by and_intros <;> first | exact fS3 rfl | (simp; done) | exact oK) ?_
  refine AtD.pureG (fuel:=14) (i:=14) true [true] (by kernel_rfl) (by kernel_rfl) rfl rfl rfl rfl (by simp) rfl trivial ?_
  refine AtD.pureG (fuel:=13) (i:=12) true [true] (by kernel_rfl) (by kernel_rfl) rfl rfl rfl rfl (by simp) rfl trivial ?_
  refine AtD.fork1 13 (by kernel_rfl) (StepD.by [true] rfl rfl rfl rfl (by simp) (OpOk.call rfl (fun w' hw'=>hHr w' (hok2 hw')) ?_))
  rintro _ _ _ ⟨g2,k2,rfl,rfl,rfl⟩
  have f19:∀ {bx:Bx}{hp:List Seg},nth hp 0=some (Seg.row g2 28 6 K k2 HC)→nth hp 2=some (Seg.row gh 28 6 K kh HC)→CallOb Tryz.prog ⟨w,kys [] []⟩ bx hp 72 [.slice (svA g2) K k2,.slice (svA gh) K kh] (.bool true):=fun {_ _} h1 h2 w' hw'=>h19 w' g2 gh k2 kh (SlOk.row (hw'.hp _ (nth_mem h1))) (SlOk.row (hw'.hp _ (nth_mem h2)))
  refine AtD.lx [15,16,17,18,19,20,21,22,23,24,25,26] 0 [true,true] [hC (.bool true),hC (str z),hK (.agg ⟨keyC⟩),hB 0,hC (str z)] rfl (by and_intros <;> first | exact f19 rfl rfl | exact fHs | exact fHh (j:=2) rfl | exact Tryz.key_ld (i:=1) rfl | (simp; done) | exact oK) ?_
  refine AtD.dn ?_
  refine At.go [] [] rfl (by and_intros <;> first | (simp; done) | exact oK) ?_
  refine At.rt [] [] [] Tryz.func37 ?_
  exact⟨by first | rfl | simp [tupV],rfl,rfl⟩
theorem Tryz.lgNilApp_w (row:List UInt8) (w:World):Fun Tryz.prog 23 [.pointer none,str row,.slice none 0 0] w (.int .i64 1):=by
  refine Tri.enter (bx:=[]) (hp:=[]) Tryz.func23 rfl (by kernel_rfl) rfl (Own.nil w) ?_
  refine At.go [true,true,true] [] rfl (by and_intros <;> first | (simp; done) | exact oK) ?_
  refine At.rt [] [] [] Tryz.func23 ?_
  exact⟨rfl,rfl,rfl⟩
theorem Tryz.lgNilSync_w (w:World):Fun Tryz.prog 25 [.pointer none] w (.int .i64 1):=by
  refine Tri.enter (bx:=[]) (hp:=[]) Tryz.func25 rfl (by kernel_rfl) rfl (Own.nil w) ?_
  refine At.go [true] [] rfl (by and_intros <;> first | (simp; done) | exact oK) ?_
  refine At.rt [] [] [] Tryz.func25 ?_
  exact⟨rfl,rfl,rfl⟩
theorem Tryz.lgNilRows_w (w:World):Fun Tryz.prog 19 [.pointer none] w (.slice none 0 0):=by
  refine Tri.enter (bx:=[]) (hp:=[]) Tryz.func19 rfl (by kernel_rfl) rfl (Own.nil w) ?_
  refine At.go [true] [] rfl (by and_intros <;> first | (simp; done) | exact oK) ?_
  refine At.rt [] [] [] Tryz.func19 ?_
  exact⟨rfl,rfl,rfl⟩
theorem Tryz.lgNilLen_w (w:World):Fun Tryz.prog 28 [.pointer none] w (.int .i64 0):=by
  refine Tri.enter (bx:=[]) (hp:=[]) Tryz.func28 rfl (by kernel_rfl) rfl (Own.nil w) ?_
  refine At.go [true] [] rfl (by and_intros <;> first | (simp; done) | exact oK) ?_
  refine At.rt [] [] [] Tryz.func28 ?_
  exact⟨rfl,rfl,rfl⟩
theorem Tryz.lgNilHeads_w (w:World):Fun Tryz.prog 39 [.pointer none] w (.slice none 0 0):=by
  refine Tri.enter (bx:=[]) (hp:=[]) Tryz.func39 rfl (by kernel_rfl) rfl (Own.nil w) ?_
  refine At.go [true] [] rfl (by and_intros <;> first | (simp; done) | exact oK) ?_
  refine At.rt [] [] [] Tryz.func39 ?_
  exact⟨rfl,rfl,rfl⟩
theorem Tryz.lgNilHash_w (w:World):Fun Tryz.prog 21 [.pointer none] w (.string ⟨#[]⟩):=by
  refine Tri.enter (bx:=[]) (hp:=[]) Tryz.func21 rfl (by kernel_rfl) rfl (Own.nil w) ?_
  refine At.go [true] [] rfl (by and_intros <;> first | (simp; done) | exact oK) ?_
  refine At.rt [] [] [] Tryz.func21 ?_
  exact⟨rfl,rfl,rfl⟩
end Go.Proofs
namespace Go.Proofs
open Go Go.Eng
set_option maxRecDepth 100000
set_option maxHeartbeats 4000000
attribute [local irreducible] Tri
theorem wrAll_snoc (r:Nat) (x:FL × List (List UInt8 × Nat × List UInt8)) (L:List (List UInt8 × Nat × List UInt8)) (e:List UInt8 × Nat × List UInt8):wrAll r x (L++[e])=wrStep r (wrAll r x L) e:=by unfold wrAll; rw [List.foldl_append]; rfl
theorem cnt0_snoc (L:List (List UInt8 × Nat × List UInt8)) (e:List UInt8 × Nat × List UInt8):cnt0 (L++[e])=cnt0 L+if e.2.1=0 then 1 else 0:=by simp [cnt0]
theorem sumS_snoc (L:List (List UInt8 × Nat × List UInt8)) (e:List UInt8 × Nat × List UInt8):sumS (L++[e])=sumS L+e.2.2.length:=by simp [sumS]
theorem cnt0_take (L:List (List UInt8 × Nat × List UInt8)) (i:Nat):cnt0 (L.take i)≤cnt0 L:=by
  conv=>rhs; rw [← List.take_append_drop i L]
  unfold cnt0
  rw [List.map_append,List.sum_append]; omega
theorem sumS_take (L:List (List UInt8 × Nat × List UInt8)) (i:Nat):sumS (L.take i)≤sumS L:=by
  conv=>rhs; rw [← List.take_append_drop i L]
  unfold sumS
  rw [List.map_append,List.sum_append]; omega
theorem apd_none {L:List (List UInt8 × Nat × List UInt8)}{m:List UInt8}(h:m ∉ L.map (·.1)):apd L m=[]:=by
  unfold apd
  rw [List.flatMap_eq_nil_iff]
  intro e he
  rw [if_neg (fun e2=>h (List.mem_map.2 ⟨e,he,e2⟩))]
theorem wr_ok {r:Nat}{A W:List (List UInt8 × Nat × List UInt8)}{S:FL}(hris:risN S=true) (hd:(A.map (·.1)).Nodup) (ha:∀ e,e∈A→e.2.1=(readN S e.1).length∧namedB e.1=true∧e.2.2≠[]) (hc:S.length+cnt0 A≤4096) (hu:sumB S+sumS A≤r) :
    ∀ i,i≤A.length→(wrAll r (S,W) (A.take i)).1.length≤S.length+cnt0 (A.take i)∧sumB (wrAll r (S,W) (A.take i)).1≤r∧((wrAll r (S,W) (A.take i)).2=W++A.take i)∧∀ e,A[i]?=some e→wrR r (wrAll r (S,W) (A.take i)).1 e.1 e.2.1 e.2.2=0
  | i,hi => by
    have hct:=cnt0_take A i
    have hst:=sumS_take A i
    obtain⟨w1,w2,w3,w4,w5⟩:=wrAll_ok (r:=r) (A.take i) W S hris ((List.take_sublist i A).map (·.1) |>.nodup hd) (fun e he=>ha e (List.mem_of_mem_take he)) (by omega) (by omega)
    have hlen:(wrAll r (S,W) (A.take i)).1.length≤S.length+cnt0 (A.take i):=by
      cases i with
      | zero => rw [List.take_zero]; exact Nat.le_add_right ..
      | succ j =>
        obtain⟨l1,-,-,l4⟩:=wr_ok hris hd ha hc hu j (by omega)
        obtain⟨e,he⟩:∃ e,A[j]?=some e:=⟨_,List.getElem?_eq_getElem (by omega:j < A.length)⟩
        have ht:A.take (j+1)=A.take j++[e]:=by rw [List.take_add_one,he]; rfl
        have h0:=l4 e he
        have hcj:=cnt0_take A j
        have hsj:=sumS_take A j
        obtain⟨v1,v2,v3,v4,v5⟩:=wrAll_ok (r:=r) (A.take j) W S hris ((List.take_sublist j A).map (·.1) |>.nodup hd) (fun e he=>ha e (List.mem_of_mem_take he)) (by omega) (by omega)
        rw [ht,wrAll_snoc,cnt0_snoc]
        unfold wrStep
        rw [if_pos h0]
        simp only
        obtain⟨b1,b2,b3⟩:=ha e (List.mem_of_getElem? he)
        by_cases hz:e.2.1=0
        · rw [if_pos hz]
          have:=setN_few e.1 (wrB (readN (wrAll r (S,W) (A.take j)).1 e.1) e.2.1 e.2.2) (wrAll r (S,W) (A.take j)).1
          omega
        · rw [if_neg hz,setN_hit v5 (wrB_ne b3) (fun e2=>by
            rw [v2] at e2
            have:=(List.append_eq_nil_iff.1 e2).1
            rw [this,List.length_nil] at b1
            exact hz b1)]
          omega
    refine⟨hlen,by omega,w1,fun e he=>?_⟩
    obtain⟨b1,b2,b3⟩:=ha e (List.mem_of_getElem? he)
    obtain⟨hlt,hge⟩:=List.getElem?_eq_some_iff.1 he
    have hnot:e.1 ∉ (A.take i).map (·.1):=fun hm=>by
      have hs:(A.take (i+1)).map (·.1)=(A.take i).map (·.1)++[e.1]:=by rw [List.take_add_one,he,List.map_append]; rfl
      have hn:=(List.take_sublist (i+1) A).map (·.1) |>.nodup hd
      rw [hs,List.nodup_append] at hn
      exact hn.2.2 _ hm _ (List.mem_singleton.2 rfl) rfl
    have hrd:readN (wrAll r (S,W) (A.take i)).1 e.1=readN S e.1:=by rw [w2,apd_none hnot,List.append_nil]
    have ht:A.take (i+1)=A.take i++[e]:=by rw [List.take_add_one,he]; rfl
    have hc1:=cnt0_take A (i+1)
    have hs1:=sumS_take A (i+1)
    rw [ht,cnt0_snoc] at hc1
    rw [ht,sumS_snoc] at hs1
    unfold wrR
    rw [hrd]
    rw [if_neg (by simp [b2,b3]),if_neg (by omega),if_neg (by
      rintro⟨e1,e2⟩
      rw [e1,List.length_nil] at b1
      rw [if_pos b1] at hc1
      omega),if_neg]
    rw [Int.toNat_natCast,b1,wrB_end]
    have:=sumB_set w5 (n:=e.1) (s:=readN S e.1++e.2.2) (by simp [b3])
    rw [hrd,List.length_append] at this
    omega
def Tryz.rApQ (P n r:Nat) (R:List (List UInt8)) (S:FL) (W:List (List UInt8 × Nat × List UInt8)) (row:List UInt8) (M:FL) (aR:Option Addr) (cR:Nat) (aS:Option Addr) (cS:Nat) (aK:Option Addr) (nK cK:Nat) (aP:Option Addr) (cP:Nat) (v:Value) (bx:Bx) (hp:List Seg):Prop :=
  bx=[] ∧
      if appE r P n S R row M=0 then ∃ (g:Option Nat) (c:Nat) (a1:Option Nat) (k1:Nat) (a2:Option Nat) (k2:Nat),v=.tuple #[sv g (R++[row]).length c,.agg ⟨rdV (sv a1 (wrAll r (S,W) (actL P n S R row M)).1.length k1) (.slice aK nK cK) (sv a2 (wrAll r (S,W) (actL P n S R row M)).2.length k2) r⟩,.int .i64 0] ∧
          hp=[Seg.row a2 118 3 (wrAll r (S,W) (actL P n S R row M)).2.length k2 ((wrAll r (S,W) (actL P n S R row M)).2.flatMap wrL),Seg.row a1 57 2 (wrAll r (S,W) (actL P n S R row M)).1.length k1 (fl (wrAll r (S,W) (actL P n S R row M)).1),Seg.row g 9 1 (R++[row]).length c ((R++[row]).map str)]
      else v=.tuple #[.slice aR R.length cR,.agg ⟨rdV (.slice aS S.length cS) (.slice aK nK cK) (.slice aP W.length cP) r⟩,.int .i64 (appE r P n S R row M)]∧hp=[]
theorem Tryz.rAppend2_w (P n r:Nat) (c3 c4:Int) (R:List (List UInt8)) (S:FL) (W:List (List UInt8 × Nat × List UInt8)) (row:List UInt8) (M:FL) (aR aS aK aP aM:Option Addr) (cR nK cK cS cP cM:Nat) (w:World) (hP:1≤P∧P≤64) (hn:n≤32) (eR:R.length≤39) (hx:∀ x,x∈R→x.length≤300) (hrow:row.length≤300) (gS:S.length≤4096) (hu:sumB S≤r) (gr:r≤1048576) (gW:W.length≤900000) (eM:M.length≤60) (hMb:∀ p,p∈M→p.2.length≤6000) (hMn:∀ p,p∈M→p.1.length≤9223372036854775807)
    (sR:SlOk w aR (R.map str)) (sS:SlOk w aS (fl S)) (sP:SlOk w aP (W.flatMap wrL)) (sM:SlOk w aM (fl M)) (hI:readN S headsB=wantH P n R) (hris:risN S=true) (b6 b7 b9 b13:Nat) (hsn:snapOk S [] M=true) (h0:row≠[])
    (hno:∀ e:Int,e≠0→appE r P n S R row M=e→∀ (v:Value) (bx:Bx) (hp:List Seg),v=.tuple #[.slice aR R.length cR,.agg ⟨rdV (.slice aS S.length cS) (.slice aK nK cK) (.slice aP W.length cP) r⟩,.int .i64 e]→bx=[]→hp=[]→Tryz.rApQ P n r R S W row M aR cR aS cS aK nK cK aP cP v bx hp) :
    At (triCtx Tryz.prog 36 Tryz.f36 w (kys [] []) (Tryz.rApQ P n r R S W row M aR cR aS cS aK nK cK aP cP)) ⟨0,[0,1,1,1,1],[]⟩ [] [(2,.slice aR R.length cR),(4,str row),(5,.slice aM M.length cM),(6,.pointer (some ⟨b6,0,none⟩)),(7,.pointer (some ⟨b7,0,none⟩)),(9,.pointer (some ⟨b9,0,none⟩)),(13,.pointer (some ⟨b13,0,none⟩))]
      [(b13,71,[.slice none 0 0,.slice none 0 0,.slice none 0 0,.int .i64 0]),(b9,71,rdV (.slice aS S.length cS) (.slice aK nK cK) (.slice aP W.length cP) r),(b7,23,[.int .i64 P,.int .i64 n,.int .i64 c3,.int .i64 c4]),(b6,36,keyC)] [] ⟨w,kys [] []⟩:=by
  obtain⟨K,hKe⟩:∃ K,R.length / P=K:=⟨_,rfl⟩
  have hKl:=Nat.div_le_self R.length P
  rw [hKe] at hKl
  have hq0:Int.tdiv ((R.length:Nat):Int) (P:Int)=(K:Int):=by rw [← hKe]; exact (Int.ofNat_tdiv _ _).symm
  have hq1:((R.length:Nat):Int) / (P:Int)=(K:Int):=by rw [← hKe]; exact (Int.natCast_ediv _ _).symm
  have fRd:∀ (m:List UInt8) {bx:Bx}{hp:List Seg},CallOb Tryz.prog ⟨w,kys [] []⟩ bx hp 63 [.slice aS S.length cS,str m] (str (readN S m)):=fun m {_ _} w' hw'=>Tryz.r9Read_w S m aS cS w' (by omega) (sS.ext hw'.ext (by simp [kys]))
  have fN:∀ {S:Base}{bx:Bx}{hp:List Seg},CallOb Tryz.prog S bx hp 61 [.int .i64 (K:Int)] (str (nmB 115 (K:Int))):=fun {_ _ _} w' _=>Tryz.rSegment_w _ w'
  have fW:∀ {S:Base}{bx:Bx}{hp:List Seg},CallOb Tryz.prog S bx hp 64 [str row] (str (wrapL row)):=fun {_ _ _} w2 _=>Tryz.rWrap_w row w2 (by omega)
  have hrs:∀ m,(readN S m).length≤1048576:=fun m=>by
    rcases @readN_mem S m with h | h
    · rw [h]; simp
    · have:=sumB_mem h
      simp only at this
      omega
  obtain⟨A,hAe⟩:∃ A,actL P n S R row M=A:=⟨_,rfl⟩
  have happ:appE r P n S R row M=if 4096 < S.length+cnt0 A then 4 else if r < sumB S+sumS A then 6 else 0:=by unfold appE; rw [if_neg (by simp [h0,hsn]),if_neg (by omega),hAe]
  unfold rdV
  refine At.go [] [] rfl oK ?_
  refine At.step [] rfl rfl rfl rfl rfl trivial (OpOk.buildNil rfl rfl rfl fun g95 hg95=>?_)
  refine At.go [] [] rfl oK ?_
  refine At.step [] rfl rfl rfl rfl rfl trivial (OpOk.appendS (m:=R.length) 0 1 16 (R.map str) rfl rfl rfl rfl rfl rfl rfl rfl (fun w' hw'=>sR.ext hw'.ext (by simp [kys])) (by simp) (fun v hv=>by obtain⟨y,-,rfl⟩:=List.mem_map.1 hv; rfl) (by omega) (by omega) fun a2 k2=>?_)
  rw [List.nil_append,Nat.zero_add]
  refine At.go [] [] rfl (by and_intros <;> first | omega | (simp only; rw [hq0]; omega) | exact oK) ?_
  refine At.a1 0 1 16 fun b99 a100 c100=>?_
  refine At.go [] [hB 2] rfl (by and_intros <;> first | omega | (simp only; rw [hq0]; omega) | exact oK) ?_
  first | rw [hq0] | rw [hq1]
  have hl1:(R++[row]).length=R.length+1:=by simp
  rw [show R.map str++[str row]=(R++[row]).map str by simp,← hl1]
  refine At.go [] [hC (.string { data:=(nmB 115 ↑K).toArray }),hB 1,hC (.string { data:=(readN S (nmB 115 ↑K)).toArray }),hC (.string { data:=(wrapL row).toArray })] rfl (by and_intros <;> first | exact fN | exact fRd _ | exact fW | exact oK) ?_
  rw [bl_of]
  refine At.step [] rfl rfl rfl rfl rfl trivial (OpOk.buildSlice rfl rfl rfl rfl rfl rfl rfl (fun bs hbs=>?_))
  refine At.boxRowN 3 rfl (by decide) ?_
  refine At.go [] [] rfl oK ?_
  refine At.loop (env0:=[(2,.slice aR R.length cR),(5,.slice aM (List.length M) cM),(6,.pointer (some ⟨b6,0,none⟩)),(7,.pointer (some ⟨b7,0,none⟩)),(9,.pointer (some ⟨b9,0,none⟩)),(13,.pointer (some ⟨b13,0,none⟩)),(20,.slice (svA a100) (R++[row]).length c100),(22,.slice (some ⟨bs,0,none⟩) 1 1),(23,.int .i64 0)]) (fun m_ env bx hp => ∃ (i:Nat) (g:Option Nat) (k:Nat) (L:List (List UInt8 × Nat × List UInt8)),m_=M.length - i∧(i≤M.length)∧(L=actF S K row :: (M.take i).map (fun p => (p.1,0,p.2)))∧env=[(2,.slice aR R.length cR),(5,.slice aM (List.length M) cM),(6,.pointer (some ⟨b6,0,none⟩)),(7,.pointer (some ⟨b7,0,none⟩)),(9,.pointer (some ⟨b9,0,none⟩)),(13,.pointer (some ⟨b13,0,none⟩)),(20,.slice (svA a100) (R++[row]).length c100),(22,sv g L.length k),(23,.int .i64 (i:Int))]∧bx=[(b13,71,[.slice none 0 0,.slice none 0 0,.slice none 0 0,.int .i64 0]),(b9,71,[.slice aS (List.length S) cS,.slice aK nK cK,.slice aP W.length cP,.int .i64 ↑r]),(b7,23,[.int .i64 ↑P,.int .i64 ↑n,.int .i64 c3,.int .i64 c4]),(b6,36,keyC)]∧hp=[Seg.row g 118 3 L.length k (L.flatMap wrL),Seg.row a100 9 1 (R++[row]).length c100 (List.map str (R++[row]))]) rfl
    ⟨0,some bs,1,[actF S K row],rfl,(Nat.zero_le _),(by simp),rfl,rfl,rfl⟩ sB ?_
  rintro m_ env bx hp ⟨i,g,k,L,rfl,hi,eL,rfl,rfl,rfl⟩ ih
  by_cases hlt:i < M.length
  · obtain⟨p,hp⟩:∃ p,M[i]?=some p:=⟨_,List.getElem?_eq_getElem hlt⟩
    have hne:M≠[]:=by intro h; rw [h] at hlt; simp at hlt
    obtain⟨g0,o,rfl,hc⟩:=sM.get (fl_ne hne)
    have rN:∀ {bx:Bx}{hp:List Seg},RdW ⟨w,kys [] []⟩ bx hp g0 (o+(i:Int).toNat * 2+0) [str p.1]:=fun {_ _}=>RdW.fileN hc (by simp [kys]) hp (by omega)
    have rB:∀ {bx:Bx}{hp:List Seg},RdW ⟨w,kys [] []⟩ bx hp g0 (o+(i:Int).toNat * 2+1) [str p.2]:=fun {_ _}=>RdW.fileB hc (by simp [kys]) hp (by omega)
    have hLl:L.length=i+1:=by rw [eL,List.length_cons,List.length_map,List.length_take]; omega
    have e1:(L++[(p.1,0,p.2)]).length=L.length+1:=by simp
    have e2:(L++[(p.1,0,p.2)]).flatMap wrL=L.flatMap wrL++[.string ⟨p.1.toArray⟩,.int .i64 0,.string ⟨p.2.toArray⟩]:=by rw [List.flatMap_append]; rfl
    have e3:L++[(p.1,0,p.2)]=actF S K row :: (M.take (i+1)).map (fun p=>(p.1,0,p.2)):=by rw [eL,List.take_add_one,hp,List.map_append]; rfl
    refine At.gn 12 [true] [] rfl (by and_intros <;> first | exact decide_eq_true (by omega) | exact oK) ?_
    refine At.dr 15 ?_
    refine AtH.readsK [] [false,false] [0,1,2,3,4,5,6,7,8,9,10,11] [hR [.string ⟨p.1.toArray⟩],hR [.string ⟨p.2.toArray⟩]] rfl rfl (by and_intros <;> first | exact rN | exact rB | (simp; done) | exact oK) rfl rfl (fuel:=3) ?_
    refine AtH.f1 12 rfl (OpOk.buildSlice rfl rfl rfl rfl rfl rfl rfl fun b135 hb135 =>⟨fun w hw=>hw.selK [] [false,false],?_⟩)
    refine AtH.f1 13 rfl (OpOk.appendS (m:=1) 0 3 40 [.string ⟨p.1.toArray⟩,.int .i64 0,.string ⟨p.2.toArray⟩] rfl rfl rfl rfl rfl rfl rfl rfl (fun w' hw'=>SlOk.blk (hw'.bx _ (nth_mem (i:=0) rfl))) rfl (by simp [Value.oneCell']) (by omega) (by omega) fun a136 k136 =>⟨fun w hw=>hw.selK [] [false,false],?_⟩)
    refine AtH.f1 14 rfl (OpOk.one true [] [] rfl oK ⟨fun w hw=>hw.selK [] [false,false],?_⟩)
    refine AtH.dn ?_
    refine At.keep [false,true,true,true,true] [true,true] rfl ?_
    rw [← e1,← e2]
    refine At.go [] [] rfl oK ?_
    exact At.weak (ih _ _ _ _ (by omega) ⟨i+1,a136,k136,L++[(p.1,0,p.2)],rfl,by omega,e3,rfl,rfl,rfl⟩) sB
  · obtain rfl:i=M.length:=by omega
    rw [List.take_length] at eL
    have hLl:L.length=M.length+1:=by rw [eL,List.length_cons,List.length_map]
    have eA:A=L++if sealsP P R=true then [(headsB,(readN S headsB).length,wrapL (putH (hdK P n (R++[row]) K)))] else []:=by rw [← hAe]; unfold actL; rw [hKe,eL]; rfl
    have hd1:=Nat.div_add_mod R.length P
    have hd2:=Nat.mod_lt R.length (show 0 < P by omega)
    rw [hKe] at hd1
    have hmz:(R++[row]).length % P=if sealsP P R=true then 0 else R.length % P+1:=by
      rw [hl1]
      by_cases hs:R.length % P+1=P
      · rw [if_pos (show sealsP P R=true from decide_eq_true hs),show R.length+1=P * (K+1) by rw [Nat.mul_add]; omega,Nat.mul_mod_right]
      · rw [if_neg (by simpa [sealsP] using hs),show R.length+1=P * K+(R.length % P+1) by omega,Nat.mul_add_mod,Nat.mod_eq_of_lt (by omega)]
    have hm0:Int.tmod (((R++[row]).length:Nat):Int) (P:Int)=(((R++[row]).length % P:Nat):Int):=(Int.ofNat_tmod _ _).symm
    have hm1:(((R++[row]).length:Nat):Int) % (P:Int)=(((R++[row]).length % P:Nat):Int):=(Int.natCast_emod _ _).symm
    refine At.gn 11 [false] [hB 2] rfl (by and_intros <;> first | exact decide_eq_false (by omega) | exact oK) ?_
    refine At.rowCap 1 rfl fun hca=>?_
    refine At.cutS (ι:=Option Nat × Nat) ⟨0,[0,1,1,1,1,1,1,1,1,1],[]⟩ (fun e => [(2,.slice aR R.length cR),(6,.pointer (some ⟨b6,0,none⟩)),(7,.pointer (some ⟨b7,0,none⟩)),(9,.pointer (some ⟨b9,0,none⟩)),(13,.pointer (some ⟨b13,0,none⟩)),(20,.slice (svA a100) (R++[row]).length c100),(22,sv e.1 A.length e.2)])
      (fun _=>[(b13,71,[.slice none 0 0,.slice none 0 0,.slice none 0 0,.int .i64 0]),(b9,71,[.slice aS S.length cS,.slice aK nK cK,.slice aP W.length cP,.int .i64 r]),(b7,23,[.int .i64 P,.int .i64 n,.int .i64 c3,.int .i64 c4]),(b6,36,keyC)])
      (fun e=>[Seg.row e.1 118 3 A.length e.2 (A.flatMap wrL),Seg.row a100 9 1 (R++[row]).length c100 ((R++[row]).map str)]) ?_ fun hz=>?_
    rotate_left
    · by_cases hse:sealsP P R=true
      · rw [if_pos hse] at eA hmz
        have hRx:∀ x,x∈R++[row]→x.length≤300:=fun x h=>by
          rcases List.mem_append.1 h with h | h
          · exact hx x h
          · rw [List.mem_singleton.1 h]; exact hrow
        have hwr:=wantH_row (n:=n) (row:=row) (R:=R) hP.1
        rw [if_pos hse,hKe] at hwr
        have fHd:∀ {bx:Bx}{hp:List Seg},CallOb Tryz.prog ⟨w,kys [] []⟩ bx hp 63 [.slice aS S.length cS,.string ⟨#[104,101,97,100,115]⟩] (str (wantH P n R)):=fun {_ _}=>hI ▸ fRd headsB
        refine At.go [true] [hB 2,hB 1,hC (.string { data:=(wantH P n R).toArray }),hK (.agg { toList:=keyC }),hB 2] rfl (by and_intros <;> first | (rw [hm0]; exact decide_eq_true (by omega)) | (rw [hm1]; exact decide_eq_true (by omega)) | exact fHd | exact Tryz.key_ld (i:=3) rfl | omega | exact oK) ?_
        refine At.step [] rfl rfl rfl rfl rfl trivial (OpOk.call rfl (fun w' hw'=>Tryz.rHeads_w P n (R++[row]) c3 c4 (svA a100) c100 w' hP hn (by omega) hca hRx (SlOk.row (hw'.hp _ (nth_mem (i:=1) rfl)))) ?_)
        rintro _ _ _ ⟨gh,kh,rfl,rfl,rfl⟩
        have hdl:=Nat.div_le_self (R++[row]).length P
        have fHs:∀ {bx:Bx}{hp:List Seg},nth hp 0=some (Seg.row gh 28 6 ((R++[row]).length / P) kh ((hdsB P n (R++[row]) ((R++[row]).length / P)).flatMap hdC))→CallOb Tryz.prog ⟨w,kys [] []⟩ bx hp 65 [.slice (svA gh) ((R++[row]).length / P) kh] (str (wantH P n (R++[row]))):=fun {_ _} h w' hw'=>by
          have:=Tryz.rheaders_w (hdsB P n (R++[row]) ((R++[row]).length / P)) n (svA gh) kh w' hn (fun x hx'=>by
            unfold hdsB at hx'
            obtain⟨k,hk,rfl⟩:=List.mem_map.1 hx'
            exact hdK_may hP hn (by omega) (fun x h=>by have:=hRx x h; omega) ((Nat.le_div_iff_mul_le (by omega)).1 (List.mem_range.1 hk))) (by rw [hdsB_len]; omega) (SlOk.row (hw'.hp _ (nth_mem h)))
          rwa [hdsB_len] at this
        have hwl:(wantH P n R).length≤(wantH P n (R++[row])).length:=by rw [hwr,List.length_append]; omega
        refine At.go [] [hC (.string { data:=(wantH P n (R++[row])).toArray })] rfl (by and_intros <;> first | exact fHs rfl | (simp only [bl_of]; omega) | omega | exact oK) ?_
        refine At.a1 1 3 40 fun b158 a159 c159=>?_
        refine At.gn 6 [] [hB 1] rfl (by and_intros <;> first | exact fHs rfl | (simp only; omega) | omega | exact oK) ?_
        simp only [bl_of]
        rw [Int.toNat_natCast,hwr,List.drop_left]
        have e4:L.flatMap wrL++[Value.string ⟨#[104,101,97,100,115]⟩,.int .i64 ((wantH P n R).length:Nat),str (wrapL (putH (hdK P n (R++[row]) K)))]=A.flatMap wrL:=by rw [eA,List.flatMap_append,hI]; rfl
        have e5:L.length+1=A.length:=by rw [eA]; simp
        rw [e4,e5]
        refine At.keep [true,true,true,true] [false,true,true] rfl ?_
        exact At.weak (hz (a159,c159)) sB
      · rw [if_neg hse] at eA hmz
        rw [List.append_nil] at eA
        subst eA
        refine At.gn 9 [false] [hB 2,hB 1] rfl (by and_intros <;> first | (rw [hm0]; exact decide_eq_false (by omega)) | (rw [hm1]; exact decide_eq_false (by omega)) | omega | exact oK) ?_
        exact At.weak (hz (g,k)) sB
    rintro⟨gA,kA⟩
    dsimp only
    have hmx:sealsP P R=true→mayH (hdK P n (R++[row]) (R.length / P)) n=true:=fun hs=>by
      have hd:=div_full (row:=row) (R:=R) (P:=P) (by omega)
      rw [if_pos hs] at hd
      refine hdK_may (by omega) (by omega) (by rw [List.length_append,List.length_singleton]; omega) (fun x h=>?_) ((Nat.le_div_iff_mul_le (by omega)).1 (by omega))
      rcases List.mem_append.1 h with h | h
      · have:=hx x h; omega
      · simp only [List.mem_singleton] at h; subst h; omega
    obtain⟨hAl,hAi⟩:=actL_in (P:=P) (n:=n) (S:=S) (R:=R) (row:=row) (M:=M) (m:=9223372036854775807) hrs (by omega) (fun p hp=>by have:=hMb p hp; omega) hMn (by omega) hmx (by omega) (by omega)
    rw [hAe] at hAl hAi
    have hst:∀ i,sumS (A.take i)≤62 * 70000:=fun i=>by
      have h1:=sumS_le (L:=A.take i) fun e he=>(hAi e (List.mem_of_mem_take he)).1
      have h2:(A.take i).length * 70000≤62 * 70000:=Nat.mul_le_mul_right _ (by rw [List.length_take]; omega)
      exact Nat.le_trans h1 h2
    have hct:∀ i,cnt0 (A.take i)≤62:=fun i=>Nat.le_trans (cnt0_le _) (by rw [List.length_take]; omega)
    refine At.go [] [hB 1] rfl oK ?_
    refine At.loop (env0:=[(2,.slice aR R.length cR),(9,.pointer (some ⟨b9,0,none⟩)),(13,.pointer (some ⟨b13,0,none⟩)),(20,.slice (svA a100) (R++[row]).length c100),(22,.slice (svA gA) A.length kA),(25,.int .i64 ↑(List.length S)),(26,.int .i64 0),(27,.int .i64 0)]) (fun m_ env bx hp => ∃ (i:Nat),m_=A.length - i∧(i≤A.length)∧env=[(2,.slice aR R.length cR),(9,.pointer (some ⟨b9,0,none⟩)),(13,.pointer (some ⟨b13,0,none⟩)),(20,.slice (svA a100) (R++[row]).length c100),(22,.slice (svA gA) A.length kA),(25,.int .i64 ((S.length+cnt0 (A.take i):Nat):Int)),(26,.int .i64 ((sumS (A.take i):Nat):Int)),(27,.int .i64 (i:Int))]∧bx=[(b13,71,[.slice none 0 0,.slice none 0 0,.slice none 0 0,.int .i64 0]),(b9,71,[.slice aS (List.length S) cS,.slice aK nK cK,.slice aP W.length cP,.int .i64 ↑r]),(b7,23,[.int .i64 ↑P,.int .i64 ↑n,.int .i64 c3,.int .i64 c4]),(b6,36,keyC)]∧hp=[Seg.row gA 118 3 A.length kA (List.flatMap wrL A),Seg.row a100 9 1 (R++[row]).length c100 (List.map str (R++[row]))]) rfl
      ⟨0,rfl,(Nat.zero_le _),rfl,rfl,rfl⟩ sB ?_
    rintro m_ env bx hp ⟨i,rfl,hi,rfl,rfl,rfl⟩ ihz
    by_cases hlt:i < A.length
    · obtain⟨e,he⟩:∃ e,A[i]?=some e:=⟨_,List.getElem?_eq_getElem hlt⟩
      have hee:=hAi e (List.mem_of_getElem? he)
      refine At.rowSome 0 rfl (by omega) (fun g hg=>?_)
      subst hg
      have rS:∀ {S:Base}{bx:Bx}{hp:List Seg},nth hp 0=some (Seg.row (some g) 118 3 A.length kA (A.flatMap wrL))→RdW S bx hp g (0+(i:Int).toNat * 3+2) [str e.2.2]:=fun {_ _ _} h=>RdW.row h fun k u hu=>by
        match k,hu with
        | 0,hu => rw [show 0+(i:Int).toNat * 3+2+0=i * 3+2 by omega]; exact flat_get (f:=wrL) (sz:=3) (fun _ _ => rfl) he 2 u hu
      have rT:∀ {S:Base}{bx:Bx}{hp:List Seg},nth hp 0=some (Seg.row (some g) 118 3 A.length kA (A.flatMap wrL))→RdW S bx hp g (0+(i:Int).toNat * 3+1) [.int .i64 e.2.1]:=fun {_ _ _} h=>RdW.row h fun k u hu=>by
        match k,hu with
        | 0,hu => rw [show 0+(i:Int).toNat * 3+1+0=i * 3+1 by omega]; exact flat_get (f:=wrL) (sz:=3) (fun _ _ => rfl) he 1 u hu
      have hs1:sumS (A.take (i+1))=sumS (A.take i)+e.2.2.length:=by rw [List.take_add_one,he]; exact sumS_snoc _ _
      have hc1:cnt0 (A.take (i+1))=cnt0 (A.take i)+if e.2.1=0 then 1 else 0:=by rw [List.take_add_one,he]; exact cnt0_snoc _ _
      have hs2:=hst (i+1)
      have hc2:=hct (i+1)
      by_cases hz:e.2.1=0
      · rw [if_pos hz] at hc1
        refine At.go [true,true] [hR [.string { data:=e.snd.snd.toArray }],hR [.int .i64 ↑e.snd.fst]] rfl (by and_intros <;> first | exact rS rfl | exact rT rfl | exact decide_eq_true (by omega) | (simp only [bl_of]; omega) | (simp; done) | exact oK) ?_
        rw [show ((sumS (A.take i):Nat):Int)+((bl ⟨e.2.2.toArray⟩).length:Int)=((sumS (A.take (i+1)):Nat):Int) by rw [bl_of,hs1]; omega]
        rw [show ((S.length+cnt0 (A.take i):Nat):Int)+1=((S.length+cnt0 (A.take (i+1)):Nat):Int) by omega]
        exact At.weak (ihz _ _ _ _ (by omega) ⟨i+1,rfl,by omega,rfl,rfl,rfl⟩) sB
      · rw [if_neg hz] at hc1
        refine At.go [true,false] [hR [.string { data:=e.snd.snd.toArray }],hR [.int .i64 ↑e.snd.fst]] rfl (by and_intros <;> first | exact rS rfl | exact rT rfl | exact decide_eq_true (by omega) | exact decide_eq_false (by omega) | (simp only [bl_of]; omega) | (simp; done) | exact oK) ?_
        rw [show ((sumS (A.take i):Nat):Int)+((bl ⟨e.2.2.toArray⟩).length:Int)=((sumS (A.take (i+1)):Nat):Int) by rw [bl_of,hs1]; omega]
        rw [show ((S.length+cnt0 (A.take i):Nat):Int)=((S.length+cnt0 (A.take (i+1)):Nat):Int) by omega]
        exact At.weak (ihz _ _ _ _ (by omega) ⟨i+1,rfl,by omega,rfl,rfl,rfl⟩) sB
    · obtain rfl:i=A.length:=by omega
      rw [List.take_length]
      have hsA:=hst A.length
      have hcA:=hct A.length
      rw [List.take_length] at hsA hcA
      have fUs:∀ {bx:Bx}{hp:List Seg},CallOb Tryz.prog ⟨w,kys [] []⟩ bx hp 71 [.slice aS S.length cS] (.int .i64 (sumB S)):=fun {_ _} w' hw'=>Tryz.rUsed_w S aS cS w' (by omega) (sS.ext hw'.ext (by simp [kys])) (by omega)
      by_cases hm1:4096 < S.length+cnt0 A
      · rw [if_pos hm1] at happ
        refine At.go [false,true] [] rfl (by and_intros <;> first | exact decide_eq_false (by omega) | exact decide_eq_true (by omega) | exact one_of rfl | exact oK) ?_
        refine At.qT 3 2 [] [hB 1] rfl rfl (by and_intros <;> first | exact decide_eq_false (by omega) | exact decide_eq_true (by omega) | exact one_of rfl | exact oK) ?_
        refine AtD.f1 3 [] [] [hB 0] rfl rfl rfl (by first | exact decide_eq_false (by omega) | exact decide_eq_true (by omega) | exact one_of rfl | exact oK) (by first | exact decide_eq_false (by omega) | exact decide_eq_true (by omega) | exact one_of rfl | exact oK) ?_
        refine AtD.pu [4] 0 rfl (by and_intros <;> first | exact decide_eq_false (by omega) | exact decide_eq_true (by omega) | exact one_of rfl | exact oK) ?_
        refine AtD.dn ?_
        refine At.go [] [] rfl (by and_intros <;> first | exact decide_eq_false (by omega) | exact decide_eq_true (by omega) | exact one_of rfl | exact oK) ?_
        refine At.rt [] [] [hB 0] Tryz.func36 ?_
        exact hno 4 (by decide) happ _ _ _ rfl rfl rfl
      rw [if_neg hm1] at happ
      by_cases hm2:r < sumB S+sumS A
      · rw [if_pos hm2] at happ
        refine At.go [false,false] [] rfl (by and_intros <;> first | exact fUs | exact decide_eq_false (by omega) | exact decide_eq_true (by omega) | exact one_of rfl | exact oK) ?_
        refine At.qt [] [hB 1,hB 1,hC (.int .i64 ↑(sumB S))] rfl rfl (by and_intros <;> first | exact fUs | exact decide_eq_false (by omega) | exact decide_eq_true (by omega) | exact one_of rfl | exact oK) ?_
        refine At.go [true] [] rfl (by and_intros <;> first | exact fUs | exact decide_eq_false (by omega) | exact decide_eq_true (by omega) | exact one_of rfl | exact oK) ?_
        refine At.qT 3 2 [] [hB 1] rfl rfl (by and_intros <;> first | exact fUs | exact decide_eq_false (by omega) | exact decide_eq_true (by omega) | exact one_of rfl | exact oK) ?_
        refine AtD.f1 3 [] [] [hB 0] rfl rfl rfl (by first | exact fUs | exact decide_eq_false (by omega) | exact decide_eq_true (by omega) | exact one_of rfl | exact oK) (by first | exact fUs | exact decide_eq_false (by omega) | exact decide_eq_true (by omega) | exact one_of rfl | exact oK) ?_
        refine AtD.pu [4] 0 rfl (by and_intros <;> first | exact fUs | exact decide_eq_false (by omega) | exact decide_eq_true (by omega) | exact one_of rfl | exact oK) ?_
        refine AtD.dn ?_
        refine At.go [] [] rfl (by and_intros <;> first | exact fUs | exact decide_eq_false (by omega) | exact decide_eq_true (by omega) | exact one_of rfl | exact oK) ?_
        refine At.rt [] [] [hB 0] Tryz.func36 ?_
        exact hno 6 (by decide) happ _ _ _ rfl rfl rfl
      rw [if_neg hm2] at happ
      refine At.go [false,false] [] rfl (by and_intros <;> first | exact fUs | exact decide_eq_false (by omega) | exact oK) ?_
      refine At.qt [] [hB 1,hB 1,hC (.int .i64 ↑(sumB S))] rfl rfl (by and_intros <;> first | exact fUs | exact decide_eq_false (by omega) | exact oK) ?_
      refine At.go [false] [] rfl (by and_intros <;> first | exact fUs | exact decide_eq_false (by omega) | exact oK) ?_
      obtain⟨n1,n2,-⟩:=actL_ok (P:=P) (n:=n) (row:=row) (R:=R) (by omega) hsn
      rw [hAe] at n1 n2
      have hwk:=wr_ok (r:=r) (A:=A) (W:=W) (S:=S) hris n1 n2 (by omega) (by omega)
      have hA1:0 < A.length:=by rw [← hAe]; unfold actL; simp
      refine At.reshape (fun w' hw'=>WOk.freeze0 hw') ?_
      refine At.loop (env0:=[(9,.pointer (some ⟨b9,0,none⟩)),(13,.pointer (some ⟨b13,0,none⟩)),(20,.slice (svA a100) (R++[row]).length c100),(22,.slice (svA gA) A.length kA),(28,.int .i64 0)]) (fun m_ env bx hp => ∃ (i:Nat) (ex:List Seg) (a1 a2:Option Addr) (k1 k2:Nat) (S1:FL) (W1:List (List UInt8 × Nat × List UInt8)),m_=A.length - i∧(i≤A.length)∧((S1,W1)=wrAll r (S,W) (A.take i))∧(Fz ⟨w,kys [] []⟩ ex a1 (fl S1))∧(Fz ⟨w,kys [] []⟩ ex a2 (W1.flatMap wrL))∧((0 < i→∃ d1 d2:Option Nat,ex=[Seg.row d2 118 3 W1.length k2 (W1.flatMap wrL),Seg.row d1 57 2 S1.length k1 (fl S1)]∧a1=svA d1∧a2=svA d2))∧env=[(9,.pointer (some ⟨b9,0,none⟩)),(13,.pointer (some ⟨b13,0,none⟩)),(20,.slice (svA a100) (R++[row]).length c100),(22,.slice (svA gA) A.length kA),(28,.int .i64 (i:Int))]∧bx=[(b13,71,[.slice none 0 0,.slice none 0 0,.slice none 0 0,.int .i64 0]),(b9,71,[.slice a1 S1.length k1,.slice aK nK cK,.slice a2 W1.length k2,.int .i64 r]),(b7,23,[.int .i64 ↑P,.int .i64 ↑n,.int .i64 c3,.int .i64 c4]),(b6,36,keyC)]∧hp=[Seg.pack [] ex,Seg.row gA 118 3 A.length kA (List.flatMap wrL A),Seg.row a100 9 1 (R++[row]).length c100 (List.map str (R++[row]))]) rfl
        ⟨0,[],aS,aP,cS,cP,S,W,rfl,(Nat.zero_le _),(rfl),(Fz.base rfl sS),(Fz.base rfl sP),(fun h=>absurd h (Nat.lt_irrefl 0)),rfl,rfl,rfl⟩ sB ?_
      rintro m_ env bx hp ⟨i,ex,a1,a2,k1,k2,S1,W1,rfl,hi,hS,f1,f2,hx1,rfl,rfl,rfl⟩ ihy
      obtain⟨h1,h2,h3,h4⟩:=hwk i hi
      rw [← hS] at h1 h2 h3 h4
      simp only at h1 h2 h3 h4
      have hci:=cnt0_take A i
      by_cases hlt:i < A.length
      · obtain⟨e,he⟩:∃ e,A[i]?=some e:=⟨_,List.getElem?_eq_getElem hlt⟩
        have hee:=hAi e (List.mem_of_getElem? he)
        have hwr:=h4 e he
        refine At.rowSome 1 rfl (by omega) (fun g hg=>?_)
        subst hg
        have rE:∀ {S:Base}{bx:Bx}{hp:List Seg},nth hp 1=some (Seg.row (some g) 118 3 A.length kA (A.flatMap wrL))→RdW S bx hp g (0+(i:Int).toNat * 3) [str e.1,.int .i64 e.2.1,str e.2.2]:=fun {_ _ _} h=>RdW.row h fun k u hu=>by
          rw [Nat.zero_add,Int.toNat_natCast]; exact flat_get (f:=wrL) (sz:=3) (fun _ _=>rfl) he k u hu
        have hWl:W1.length≤900062:=by rw [h3,List.length_append,List.length_take]; omega
        have hWr:=fun (w':World) (g1:SlOk w' a1 (fl S1)) (g2:SlOk w' a2 (W1.flatMap wrL))=>Tryz.rWrites_w S1 W1 e.1 e.2.2 (e.2.1:Nat) a1 aK a2 k1 nK cK k2 r w' (by omega) g1 g2 (by omega) (by omega) (by omega) (by simp only [inK]; omega) (by omega) (by omega)
        simp only [hwr,↓reduceIte,Int.toNat_natCast] at hWr
        have hS2:(setN e.1 (wrB (readN S1 e.1) e.2.1 e.2.2) S1,W1++[(e.1,e.2.1,e.2.2)])=wrAll r (S,W) (A.take (i+1)):=by
          rw [List.take_add_one,he]
          show _=wrAll r (S,W) (A.take i++[e])
          rw [wrAll_snoc,← hS]
          unfold wrStep
          rw [if_pos hwr]
        obtain⟨W2,hW2⟩:∃ W2,W1++[(e.1,e.2.1,e.2.2)]=W2:=⟨_,rfl⟩
        have hW2l:W1.length+1=W2.length:=by rw [← hW2]; simp
        rw [hW2] at hWr hS2
        rw [hW2l] at hWr
        generalize setN e.1 (wrB (readN S1 e.1) e.2.1 e.2.2) S1=S2 at hWr hS2
        refine At.gn 12 [true] [] rfl (by and_intros <;> first | exact decide_eq_true (by omega) | exact oK) ?_
        refine At.dr 10 ?_
        refine AtD.lx [0,1,2,3,4] 5 [] [hB 1,hR [.string ⟨e.1.toArray⟩,.int .i64 e.2.1,.string ⟨e.2.2.toArray⟩]] rfl (by and_intros <;> first | exact rE rfl | (simp; done) | exact oK) ?_
        refine AtD.fork1 5 (by kernel_rfl) (StepD.by [] rfl rfl rfl rfl trivial (OpOk.call rfl (fun w' hw'=>hWr w' (f1.at hw' (by simp)) (f2.at hw' (by simp))) ?_))
        rintro _ _ _ ⟨rfl,d1,m1,d2,m2,rfl,rfl⟩
        refine AtD.pu [6,7,8] 1 rfl oK ?_
        refine AtD.f1 9 [] [] [hB 1] rfl rfl rfl (by first | trivial | (simp [rdV,sv,Value.oneCell']; done) | exact oK) (by first | trivial | (simp [rdV,sv,Value.oneCell']; done) | exact oK) ?_
        refine AtD.dn ?_
        refine At.keep [true,true,true,true] [true,true,false,true,true] rfl ?_
        refine At.reshape (fun w' hw'=>WOk.freeze0 hw') ?_
        refine At.order [] [2] rfl rfl ?_
        refine At.reshape (fun w' hw'=>WOk.freeze hw') ?_
        refine At.order [] [1] rfl rfl ?_
        refine At.reshape (fun w' hw'=>WOk.freeze hw') ?_
        refine At.go [] [] rfl oK ?_
        exact At.weak (ihy _ _ _ _ (by omega) ⟨i+1,[Seg.row d2 118 3 W2.length m2 (W2.flatMap wrL),Seg.row d1 57 2 S2.length m1 (fl S2)],svA d1,svA d2,m1,m2,S2,W2,rfl,by omega,hS2,Fz.cons Fz.row,Fz.row,fun _ =>⟨d1,d2,rfl,rfl,rfl⟩,rfl,rfl,rfl⟩) sB
      · obtain rfl:i=A.length:=by omega
        rw [List.take_length] at hS
        obtain⟨d1,d2,rfl,rfl,rfl⟩:=hx1 hA1
        refine At.reshape (fun w' hw'=>hw'.unpackG) ?_
        refine At.go [false] [] rfl (by and_intros <;> first | exact decide_eq_false (by omega) | exact one_of rfl | exact oK) ?_
        refine At.qT 3 2 [] [hB 1] rfl rfl (by and_intros <;> first | exact decide_eq_false (by omega) | exact one_of rfl | exact oK) ?_
        refine AtD.f1 3 [] [] [hB 0] rfl rfl rfl (by first | exact decide_eq_false (by omega) | exact one_of rfl | exact oK) (by first | exact decide_eq_false (by omega) | exact one_of rfl | exact oK) ?_
        refine AtD.pu [4] 0 rfl (by and_intros <;> first | exact decide_eq_false (by omega) | exact one_of rfl | exact oK) ?_
        refine AtD.dn ?_
        refine At.go [] [] rfl (by and_intros <;> first | exact decide_eq_false (by omega) | exact one_of rfl | exact oK) ?_
        refine At.rt [] [true,true,false,true] [hB 0] Tryz.func36 ?_
        exact⟨rfl,by rw [happ,if_pos rfl,hAe,← hS]; exact⟨_,_,_,_,_,_,rfl,rfl⟩⟩
theorem Tryz.rAppend_w (P n r:Nat) (c3 c4:Int) (R:List (List UInt8)) (S:FL) (W:List (List UInt8 × Nat × List UInt8)) (row:List UInt8) (M:FL) (aR aS aK aP aM:Option Addr) (cR nK cK cS cP cM:Nat) (w:World) (hP:1≤P∧P≤64) (hn:n≤32) (eR:R.length≤39) (hx:∀ x,x∈R→x.length≤300) (hrow:row.length≤300) (gS:S.length≤4096) (hu:sumB S≤r) (gr:r≤1048576) (gW:W.length≤900000) (eM:M.length≤60) (hMb:∀ p,p∈M→p.2.length≤6000) (hMn:∀ p,p∈M→p.1.length≤9223372036854775807)
    (sR:SlOk w aR (R.map str)) (sS:SlOk w aS (fl S)) (sP:SlOk w aP (W.flatMap wrL)) (sM:SlOk w aM (fl M)) (hI:readN S headsB=wantH P n R) (hris:risN S=true) :
    Tri Tryz.prog 36 [.agg ⟨keyC⟩,.agg ⟨[.int .i64 P,.int .i64 n,.int .i64 c3,.int .i64 c4]⟩,.slice aR R.length cR,.agg ⟨rdV (.slice aS S.length cS) (.slice aK nK cK) (.slice aP W.length cP) r⟩,str row,.slice aM M.length cM] w [] (Tryz.rApQ P n r R S W row M aR cR aS cS aK nK cK aP cP):=by
  have fKd:∀ (m:List UInt8) {S0:Base}{bx:Bx}{hp:List Seg},m.length≤9223372036854775807→CallOb Tryz.prog S0 bx hp 69 [str m] (.tuple #[.int .i64 (kindB m).1,.int .i64 (kindB m).2.1,.bool (kindB m).2.2]):=fun m {_ _ _} hm w' _=>Tryz.rKind_w m w' hm
  have fRd:∀ (m:List UInt8) {bx:Bx}{hp:List Seg},CallOb Tryz.prog ⟨w,kys [] []⟩ bx hp 63 [.slice aS S.length cS,str m] (str (readN S m)):=fun m {_ _} w' hw'=>Tryz.r9Read_w S m aS cS w' (by omega) (sS.ext hw'.ext (by simp [kys]))
  have hno:∀ e:Int,e≠0→appE r P n S R row M=e→∀ (v:Value) (bx:Bx) (hp:List Seg),v=.tuple #[.slice aR R.length cR,.agg ⟨rdV (.slice aS S.length cS) (.slice aK nK cK) (.slice aP W.length cP) r⟩,.int .i64 e]→bx=[]→hp=[]→Tryz.rApQ P n r R S W row M aR cR aS cS aK nK cK aP cP v bx hp :=
    fun e h0 he v bx hp hv hb hh =>⟨hb,by rw [he,if_neg h0]; exact⟨hv,hh⟩⟩
  refine Tri.enter (bx:=[]) (hp:=[]) Tryz.func36 rfl (by kernel_rfl) rfl (Own.nil w) ?_
  refine At.go [] [] rfl (by and_intros <;> first | exact trivial | exact oK) ?_
  refine At.bo fun b6 hb6=>?_
  refine At.bo fun b7 hb7=>?_
  refine At.bo fun b9 hb9=>?_
  refine At.go [] [] rfl (by and_intros <;> first | exact trivial | exact oK) ?_
  refine At.al fun b13 hb13=>?_
  refine At.go [] [] rfl (by and_intros <;> first | exact trivial | exact oK) ?_
  by_cases h0:row=[]
  · have he:appE r P n S R row M=1:=by unfold appE; rw [if_pos (.inl h0)]
    refine At.go [true] [] rfl (by and_intros <;> first | (simp only [bl_of]; simp [h0]; done) | exact one_of rfl | exact oK) ?_
    refine At.qT 3 2 [] [hB 1] rfl rfl (by and_intros <;> first | (simp only; simp [h0,bl]; done) | exact one_of rfl | exact oK) ?_
    refine AtD.f1 3 [] [] [hB 0] rfl rfl rfl (by first | (simp only; simp; done) | exact one_of rfl | exact oK) (by first | (simp only; simp [h0,bl]; done) | exact one_of rfl | exact oK) ?_
    refine AtD.pu [4] 0 rfl (by and_intros <;> first | (simp only; simp [h0,bl]; done) | exact one_of rfl | exact oK) ?_
    refine AtD.dn ?_
    refine At.go [] [] rfl (by and_intros <;> first | (simp only; simp [h0,bl]; done) | exact one_of rfl | exact oK) ?_
    refine At.rt [] [] [hB 0] Tryz.func36 ?_
    exact hno 1 (by decide) he _ _ _ rfl rfl rfl
  refine At.go [false] [] rfl (by and_intros <;> first | (simp only [bl_of]; simp [h0]; done) | exact oK) ?_
  obtain⟨B,hBe⟩:∃ B,snapOk S [] M=B:=⟨_,rfl⟩
  refine At.loop (env0:=[(2,.slice aR R.length cR),(4,.string { data:=row.toArray }),(5,.slice aM (List.length M) cM),(6,.pointer (some ⟨b6,0,none⟩)),(7,.pointer (some ⟨b7,0,none⟩)),(9,.pointer (some ⟨b9,0,none⟩)),(13,.pointer (some ⟨b13,0,none⟩)),(15,.int .i64 0)]) (fun m_ env bx hp => ∃ (i:Nat),m_=M.length - i∧(i≤M.length)∧(snapOk S ((M.take i).map (·.1)) (M.drop i)=B)∧env=[(2,.slice aR R.length cR),(4,.string { data:=row.toArray }),(5,.slice aM (List.length M) cM),(6,.pointer (some ⟨b6,0,none⟩)),(7,.pointer (some ⟨b7,0,none⟩)),(9,.pointer (some ⟨b9,0,none⟩)),(13,.pointer (some ⟨b13,0,none⟩)),(15,.int .i64 (i:Int))]∧bx=[(b13,71,[.slice none 0 0,.slice none 0 0,.slice none 0 0,.int .i64 0]),(b9,71,[.slice aS (List.length S) cS,.slice aK nK cK,.slice aP W.length cP,.int .i64 ↑r]),(b7,23,[.int .i64 ↑P,.int .i64 ↑n,.int .i64 c3,.int .i64 c4]),(b6,36,keyC)]∧hp=[]) rfl
    ⟨0,rfl,(Nat.zero_le _),(hBe),rfl,rfl,rfl⟩ sB ?_
  rintro m_ env bx hp ⟨i,rfl,hi,hsn,rfl,rfl,rfl⟩ ihz
  by_cases hlt:i < M.length
  · obtain⟨p,hp⟩:∃ p,M[i]?=some p:=⟨_,List.getElem?_eq_getElem hlt⟩
    have hne:M≠[]:=by intro h; rw [h] at hlt; simp at hlt
    obtain⟨g0,o,rfl,hc⟩:=sM.get (fl_ne hne)
    have rN:∀ {bx:Bx}{hp:List Seg},RdW ⟨w,kys [] []⟩ bx hp g0 (o+(i:Int).toNat * 2+0) [str p.1]:=fun {_ _}=>RdW.fileN hc (by simp [kys]) hp (by omega)
    have rB:∀ {bx:Bx}{hp:List Seg},RdW ⟨w,kys [] []⟩ bx hp g0 (o+(i:Int).toNat * 2+1) [str p.2]:=fun {_ _}=>RdW.fileB hc (by simp [kys]) hp (by omega)
    have hpn:=hMn p (List.mem_of_getElem? hp)
    rw [snapOk_drop hp] at hsn
    have fK1:∀ {S0:Base}{bx:Bx}{hp:List Seg},CallOb Tryz.prog S0 bx hp 69 [str p.1] (.tuple #[.int .i64 (kindB p.1).1,.int .i64 (kindB p.1).2.1,.bool (kindB p.1).2.2]):=fun {_ _ _}=>fKd p.1 hpn
    obtain⟨kd,kn,ko,hKd⟩:∃ kd kn ko,kindB p.1=(kd,kn,ko):=⟨_,_,_,rfl⟩
    rw [hKd] at hsn
    rw [hKd] at fK1
    simp only at hsn fK1
    have hbad:snapOk S [] M=false→appE r P n S R row M=1:=fun h=>by unfold appE; rw [if_pos (.inr h)]
    by_cases d1:kd=2
    rotate_left
    · rw [if_pos (.inl d1)] at hsn
      have he:=hbad (hBe.trans hsn.symm)
      refine At.go [true] [hR [.string { data:=p.fst.toArray }],hC (.tuple ⟨[.int .i64 kd,.int .i64 kn,.bool ko]⟩)] rfl (by and_intros <;> first | exact decide_eq_true (by omega) | exact rN | exact fK1 | exact one_of rfl | (simp; done) | exact oK) ?_
      refine At.qt [true,true] [] rfl rfl (by and_intros <;> first | exact decide_eq_true (by omega) | exact rN | exact fK1 | exact one_of rfl | (simp [d1]; done) | exact oK) ?_
      refine At.go [true] [] rfl (by and_intros <;> first | exact decide_eq_true (by omega) | exact rN | exact fK1 | exact one_of rfl | (simp; done) | exact oK) ?_
      refine At.qT 3 2 [] [hB 1] rfl rfl (by and_intros <;> first | exact decide_eq_true (by omega) | exact rN | exact fK1 | exact one_of rfl | (simp; done) | exact oK) ?_
      refine AtD.f1 3 [] [] [hB 0] rfl rfl rfl (by first | exact decide_eq_true (by omega) | exact rN | exact fK1 | exact one_of rfl | (simp; done) | exact oK) (by first | exact decide_eq_true (by omega) | exact rN | exact fK1 | exact one_of rfl | (simp; done) | exact oK) ?_
      refine AtD.pu [4] 0 rfl (by and_intros <;> first | exact decide_eq_true (by omega) | exact rN | exact fK1 | exact one_of rfl | (simp; done) | exact oK) ?_
      refine AtD.dn ?_
      refine At.go [] [] rfl (by and_intros <;> first | exact decide_eq_true (by omega) | exact rN | exact fK1 | exact one_of rfl | (simp; done) | exact oK) ?_
      refine At.rt [] [] [hB 0] Tryz.func36 ?_
      exact hno 1 (by decide) he _ _ _ rfl rfl rfl
    by_cases d2:p.2=[]
    · rw [if_pos (.inr (.inl d2))] at hsn
      have he:=hbad (hBe.trans hsn.symm)
      refine At.gn 18 [true] [hR [.string { data:=p.fst.toArray }],hC (.tuple ⟨[.int .i64 kd,.int .i64 kn,.bool ko]⟩)] rfl (by and_intros <;> first | exact decide_eq_true (by omega) | exact rN | exact fK1 | exact oK) ?_
      refine At.dr 21 ?_
      refine AtD.lx [0,1,2,3,4,5,6,7,8,9,10,11,12,13,14,15,16,17,18,19,20] 0 [false,true] [hR [.string ⟨p.2.toArray⟩]] rfl (by and_intros <;> first | exact rB | (simp only [bl_of]; simp [d2]; done) | (simp [d1]; done) | exact oK) ?_
      refine AtD.dn ?_
      refine At.go [true] [] rfl (by and_intros <;> first | exact one_of rfl | (simp; done) | exact oK) ?_
      refine At.qT 3 2 [] [hB 1] rfl rfl (by and_intros <;> first | exact one_of rfl | (simp; done) | exact oK) ?_
      refine AtD.f1 3 [] [] [hB 0] rfl rfl rfl (by first | exact one_of rfl | (simp; done) | exact oK) (by first | exact one_of rfl | (simp; done) | exact oK) ?_
      refine AtD.pu [4] 0 rfl (by and_intros <;> first | exact one_of rfl | (simp; done) | exact oK) ?_
      refine AtD.dn ?_
      refine At.go [] [] rfl (by and_intros <;> first | exact one_of rfl | (simp; done) | exact oK) ?_
      refine At.rt [] [] [hB 0] Tryz.func36 ?_
      exact hno 1 (by decide) he _ _ _ rfl rfl rfl
    have d2d:decide (bl ⟨p.2.toArray⟩=bl ⟨#[]⟩)=false:=by rw [bl_of]; simp [d2,bl]
    by_cases d3:readN S p.1=[]
    rotate_left
    · rw [if_pos (.inr (.inr (.inr d3)))] at hsn
      have he:=hbad (hBe.trans hsn.symm)
      obtain⟨T,hTe⟩:∃ T,readN S p.1=T:=⟨_,rfl⟩
      have fR1:∀ {bx:Bx}{hp:List Seg},CallOb Tryz.prog ⟨w,kys [] []⟩ bx hp 63 [.slice aS S.length cS,str p.1] (str T):=fun {_ _}=>hTe ▸ fRd p.1
      rw [hTe] at d3
      refine At.gn 18 [true] [hR [.string { data:=p.fst.toArray }],hC (.tuple ⟨[.int .i64 kd,.int .i64 kn,.bool ko]⟩)] rfl (by and_intros <;> first | exact decide_eq_true (by omega) | exact rN | exact fK1 | exact oK) ?_
      refine At.dr 21 ?_
      refine AtD.lx [0,1,2,3,4,5,6,7,8,9,10,11,12,13,14,15,16,17,18,19,20] 0 [false,false] [hR [.string ⟨p.2.toArray⟩],hB 1,hR [.string ⟨p.1.toArray⟩],hC (.string ⟨T.toArray⟩)] rfl (by and_intros <;> first | exact rB | exact rN | exact fR1 | exact d2d | (simp [d1]; done) | exact oK) ?_
      refine AtD.dn ?_
      refine At.go [true] [] rfl (by and_intros <;> first | exact one_of rfl | (simp only [bl_of]; simp [d3]; done) | exact oK) ?_
      refine At.qT 3 2 [] [hB 1] rfl rfl (by and_intros <;> first | exact one_of rfl | (simp only; simp [d3,bl]; done) | exact oK) ?_
      refine AtD.f1 3 [] [] [hB 0] rfl rfl rfl (by first | exact one_of rfl | (simp only; simp; done) | exact oK) (by first | exact one_of rfl | (simp only; simp [d3,bl]; done) | exact oK) ?_
      refine AtD.pu [4] 0 rfl (by and_intros <;> first | exact one_of rfl | (simp only; simp [d3,bl]; done) | exact oK) ?_
      refine AtD.dn ?_
      refine At.go [] [] rfl (by and_intros <;> first | exact one_of rfl | (simp only; simp [d3,bl]; done) | exact oK) ?_
      refine At.rt [] [] [hB 0] Tryz.func36 ?_
      exact hno 1 (by decide) he _ _ _ rfl rfl rfl
    have fR1:∀ {bx:Bx}{hp:List Seg},CallOb Tryz.prog ⟨w,kys [] []⟩ bx hp 63 [.slice aS S.length cS,str p.1] (.string ⟨#[]⟩):=fun {_ _}=>by
      have:=@fRd p.1
      rw [d3] at this; exact this
    refine At.gn 18 [true] [hR [.string { data:=p.fst.toArray }],hC (.tuple ⟨[.int .i64 kd,.int .i64 kn,.bool ko]⟩)] rfl (by and_intros <;> first | exact decide_eq_true (by omega) | exact rN | exact fK1 | exact oK) ?_
    refine At.dr 21 ?_
    refine AtD.lx [0,1,2,3,4,5,6,7,8,9,10,11,12,13,14,15,16,17,18,19,20] 0 [false,false] [hR [.string ⟨p.2.toArray⟩],hB 1,hR [.string ⟨p.1.toArray⟩],hC (.string ⟨#[]⟩)] rfl (by and_intros <;> first | exact rB | exact rN | exact fR1 | exact d2d | (simp [d1]; done) | exact oK) ?_
    refine AtD.dn ?_
    refine At.go [false] [] rfl (by and_intros <;> first | (simp; done) | exact oK) ?_
    refine At.loop (env0:=[(2,.slice aR R.length cR),(4,.string { data:=row.toArray }),(5,.slice (some ⟨g0,o,none⟩) (List.length M) cM),(6,.pointer (some ⟨b6,0,none⟩)),(7,.pointer (some ⟨b7,0,none⟩)),(9,.pointer (some ⟨b9,0,none⟩)),(13,.pointer (some ⟨b13,0,none⟩)),(15,.int .i64 ↑i),(19,.int .i64 0)]) (fun m_ env bx hp => ∃ (k:Nat),m_=i - k∧(k≤i)∧(p.1 ∉ (M.take k).map (·.1))∧env=[(2,.slice aR R.length cR),(4,.string { data:=row.toArray }),(5,.slice (some ⟨g0,o,none⟩) (List.length M) cM),(6,.pointer (some ⟨b6,0,none⟩)),(7,.pointer (some ⟨b7,0,none⟩)),(9,.pointer (some ⟨b9,0,none⟩)),(13,.pointer (some ⟨b13,0,none⟩)),(15,.int .i64 ↑i),(19,.int .i64 (k:Int))]∧bx=[(b13,71,[.slice none 0 0,.slice none 0 0,.slice none 0 0,.int .i64 0]),(b9,71,[.slice aS (List.length S) cS,.slice aK nK cK,.slice aP W.length cP,.int .i64 ↑r]),(b7,23,[.int .i64 ↑P,.int .i64 ↑n,.int .i64 c3,.int .i64 c4]),(b6,36,keyC)]∧hp=[]) rfl
      ⟨0,rfl,(Nat.zero_le _),(by simp),rfl,rfl,rfl⟩ sB ?_
    rintro m_ env bx hp ⟨k,rfl,hk,hnk,rfl,rfl,rfl⟩ ihy
    by_cases hki:k < i
    · obtain⟨p2,hp2⟩:∃ p,M[k]?=some p:=⟨_,List.getElem?_eq_getElem (by omega)⟩
      have rN2:∀ {bx:Bx}{hp:List Seg},RdW ⟨w,kys [] []⟩ bx hp g0 (o+(k:Int).toNat * 2+0) [str p2.1]:=fun {_ _}=>RdW.fileN hc (by simp [kys]) hp2 (by omega)
      by_cases d4:p2.1=p.1
      · have hm:p.1∈(M.take i).map (·.1):=List.mem_map.2 ⟨p2,List.mem_of_getElem? (i:=k) (by rw [List.getElem?_take_of_lt hki]; exact hp2),d4⟩
        rw [if_pos (.inr (.inr (.inl hm)))] at hsn
        have he:=hbad (hBe.trans hsn.symm)
        refine At.go [true] [] rfl (by and_intros <;> first | exact decide_eq_true (by omega) | exact rN2 | exact rN | (rw [bl_of,bl_of]; exact decide_eq_true d4) | exact one_of rfl | exact oK) ?_
        refine At.qt [] [hR [.string { data:=p2.fst.toArray }],hR [.string { data:=p.fst.toArray }]] rfl rfl (by and_intros <;> first | exact decide_eq_true (by omega) | exact rN2 | exact rN | (rw [bl_of,bl_of]; exact decide_eq_true d4) | exact one_of rfl | exact oK) ?_
        refine At.go [true] [] rfl (by and_intros <;> first | exact decide_eq_true (by omega) | exact rN2 | exact rN | (rw [bl_of,bl_of]; exact decide_eq_true d4) | exact one_of rfl | exact oK) ?_
        refine At.qT 3 2 [] [hB 1] rfl rfl (by and_intros <;> first | exact decide_eq_true (by omega) | exact rN2 | exact rN | (rw [bl_of,bl_of]; exact decide_eq_true d4) | exact one_of rfl | exact oK) ?_
        refine AtD.f1 3 [] [] [hB 0] rfl rfl rfl (by first | exact decide_eq_true (by omega) | exact rN2 | exact rN | (rw [bl_of,bl_of]; exact decide_eq_true d4) | exact one_of rfl | exact oK) (by first | exact decide_eq_true (by omega) | exact rN2 | exact rN | (rw [bl_of,bl_of]; exact decide_eq_true d4) | exact one_of rfl | exact oK) ?_
        refine AtD.pu [4] 0 rfl (by and_intros <;> first | exact decide_eq_true (by omega) | exact rN2 | exact rN | (rw [bl_of,bl_of]; exact decide_eq_true d4) | exact one_of rfl | exact oK) ?_
        refine AtD.dn ?_
        refine At.go [] [] rfl (by and_intros <;> first | exact decide_eq_true (by omega) | exact rN2 | exact rN | (rw [bl_of,bl_of]; exact decide_eq_true d4) | exact one_of rfl | exact oK) ?_
        refine At.rt [] [] [hB 0] Tryz.func36 ?_
        exact hno 1 (by decide) he _ _ _ rfl rfl rfl
      · refine At.go [true] [] rfl (by and_intros <;> first | exact decide_eq_true (by omega) | exact rN2 | exact rN | (rw [bl_of,bl_of]; exact decide_eq_false d4) | exact oK) ?_
        refine At.qt [] [hR [.string { data:=p2.fst.toArray }],hR [.string { data:=p.fst.toArray }]] rfl rfl (by and_intros <;> first | exact decide_eq_true (by omega) | exact rN2 | exact rN | (rw [bl_of,bl_of]; exact decide_eq_false d4) | exact oK) ?_
        refine At.go [false] [] rfl (by and_intros <;> first | exact decide_eq_true (by omega) | exact rN2 | exact rN | (rw [bl_of,bl_of]; exact decide_eq_false d4) | exact oK) ?_
        exact At.weak (ihy _ _ _ _ (by omega) ⟨k+1,rfl,by omega,by rw [List.take_add_one,hp2,List.map_append,List.mem_append,not_or]; exact⟨hnk,by simpa using fun e=>d4 e.symm⟩,rfl,rfl,rfl⟩) sB
    · obtain rfl:k=i:=by omega
      rw [if_neg (by rintro (h | h | h | h); exact h d1; exact d2 h; exact hnk h; exact h d3)] at hsn
      refine At.go [false] [] rfl (by and_intros <;> first | exact decide_eq_false (by omega) | exact oK) ?_
      exact At.weak (ihz _ _ _ _ (by omega) ⟨k+1,rfl,by omega,by rw [List.take_add_one,hp,List.map_append]; exact hsn,rfl,rfl,rfl⟩) sB
  · obtain rfl:i=M.length:=by omega
    rw [List.drop_length] at hsn
    have hB1:B=true:=hsn.symm
    rw [hB1] at hBe
    refine At.gn 20 [false,false] [] rfl (by and_intros <;> first | exact decide_eq_false (by omega) | (rw [bl_of]; exact decide_eq_false (by omega)) | (rw [bl_of]; omega) | exact oK) ?_
    exact At.weak (Tryz.rAppend2_w P n r c3 c4 R S W row M aR aS aK aP aM cR nK cK cS cP cM w hP hn eR hx hrow gS hu gr gW eM hMb hMn sR sS sP sM hI hris b6 b7 b9 b13 hBe h0 hno) sB
theorem hdr_len {r:Nat}{S2:FL}{want:List UInt8}(hF:Fil S2):(hdrS r S2 want).2.1.length≤S2.length+1:=by
  unfold hdrS
  split
  · have:=cutS_len hF headsB (comL (readN S2 headsB) want)
    simp only; omega
  · split
    · have h1:=cutS_len hF headsB (comL (readN S2 headsB) want)
      have h2:=setN_few headsB (wrB (readN (cutS S2 headsB (comL (readN S2 headsB) want)) headsB) (comL (readN S2 headsB) want) (List.drop (comL (readN S2 headsB) want) want)) (cutS S2 headsB (comL (readN S2 headsB) want))
      simp only; omega
    · have:=cutS_len hF headsB (comL (readN S2 headsB) want)
      simp only; omega
end Go.Proofs

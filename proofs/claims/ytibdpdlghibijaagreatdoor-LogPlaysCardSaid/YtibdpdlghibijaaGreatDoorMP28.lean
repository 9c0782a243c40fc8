/-
  Walks of layer 7: a frame.
-/
import Derived.Test.YtibdpdlghibijaaGreatDoorMP16
import Derived.Test.YtibdpdlghibijaaGreatDoorMP7
import Derived.Test.YtibdpdlghibijaaGreatDoorMP27
import Derived.Test.YtibdpdlghibijaaGreatDoorMP12
import Derived.Test.YtibdpdlghibijaaGreatDoorMP17
import Derived.Test.YtibdpdlghibijaaGreatDoorMP2
namespace Go.Proofs
open Go Go.Eng
set_option maxRecDepth 100000
set_option maxHeartbeats 4000000
attribute [local irreducible] Tri
theorem take1 {l:List UInt8}{a:Nat}(h:a < l.length):∃ c,l[a]?=some c∧(l.drop a).take 1=[c]:=by
  refine⟨l[a],List.getElem?_eq_getElem h,?_⟩
  rw [List.drop_eq_getElem_cons h,List.take_succ_cons,List.take_zero]
theorem Tryz.frNext_w (l:List UInt8) (w:World) (hl:l.length≤9223372036854775807):Fun Tryz.prog 137 [str l] w (.tuple #[str (frB l).1,.int .i64 (frB l).2.1,.int .i64 (frB l).2.2]):=by
  have hbl:bl ⟨l.toArray⟩=l:=bl_of l
  refine Tri.enter (bx:=[]) (hp:=[]) Tryz.func137 rfl (by kernel_rfl) rfl (Own.nil w) ?_
  by_cases h0:l=[]
  · subst h0
    refine At.go [true] [] rfl (by and_intros <;> first | (simp [bl]; done) | exact oK) ?_
    refine At.rt [] [] [] Tryz.func137 ?_
    exact⟨rfl,rfl,rfl⟩
  refine At.go [false] [] rfl (by and_intros <;> first | (simp [bl,h0]; done) | exact oK) ?_
  refine At.step [] rfl rfl rfl rfl rfl trivial (OpOk.call rfl (fun w' hw'=>Tryz.Read_w ⟨l.toArray⟩ w') ?_)
  rintro _ _ _ ⟨b,rfl,rfl,rfl⟩
  obtain⟨n,a,f,hD⟩:∃ n a f,rdN l 0 0 65536=(n,a,f):=⟨_,_,_,rfl⟩
  have ha:=rdN_a (l:=l) (a:=0) (f:=0) (most:=65536) (by omega)
  have hn:=rdN_lt l 0 0 65536
  have hk0:=rdN_k0 (l:=l) (a:=0) (f:=0) (most:=65536)
  have hN:∀ {bx:Bx}{hp:List Seg},nth bx 0=some (b,219,rdr ⟨l.toArray⟩ 0 0)→CallU Tryz.prog ⟨w,kys [] []⟩ bx hp 152 [.pointer (some ⟨b,0,none⟩),.int .u64 65536] (.int .u64 n) (b,219,rdr ⟨l.toArray⟩ a f):=fun {_ _} h w' hw'=>by
    have:=Tryz.Num_w ⟨l.toArray⟩ 0 0 b 65536 w' (by omega) (by rw [hbl]; exact hl) (hw'.own1 0 h)
    rw [hbl,hD] at this; exact this
  have hF:∀ {bx:Bx}{hp:List Seg}(a0:Nat),nth bx 0=some (b,219,rdr ⟨l.toArray⟩ a0 0)→CallU Tryz.prog ⟨w,kys [] []⟩ bx hp 153 [.pointer (some ⟨b,0,none⟩),.int .i64 3] (.tuple #[]) (b,219,rdr ⟨l.toArray⟩ a0 3):=fun {_ _} a0 h w' hw'=>Tryz.Fail_w ⟨l.toArray⟩ a0 0 3 b w' (hw'.own1 0 h)
  have hFx:∀ {bx:Bx}{hp:List Seg}(a0:Nat) (f0:Int),f0≠0→nth bx 0=some (b,219,rdr ⟨l.toArray⟩ a0 f0)→CallU Tryz.prog ⟨w,kys [] []⟩ bx hp 153 [.pointer (some ⟨b,0,none⟩),.int .i64 3] (.tuple #[]) (b,219,rdr ⟨l.toArray⟩ a0 f0):=fun {_ _} a0 f0 h0 h w' hw'=>by
    have:=Tryz.Fail_w ⟨l.toArray⟩ a0 f0 3 b w' (hw'.own1 0 h)
    rw [if_neg h0] at this; exact this
  have hT:∀ {bx:Bx}{hp:List Seg}(a0:Nat) (m:Int),a0≤l.length→inK .i64 m→nth bx 0=some (b,219,rdr ⟨l.toArray⟩ a0 0)→CallU Tryz.prog ⟨w,kys [] []⟩ bx hp 154 [.pointer (some ⟨b,0,none⟩),.int .i64 m] (str (rdT l a0 0 m).1) (b,219,rdr ⟨l.toArray⟩ (rdT l a0 0 m).2.1 (rdT l a0 0 m).2.2):=fun {_ _} a0 m h1 h2 h w' hw'=>by
    have:=Tryz.Take_w ⟨l.toArray⟩ a0 0 m b w' (by rw [hbl]; exact h1) (by rw [hbl]; exact hl) h2 (hw'.own1 0 h)
    rw [hbl] at this; exact this
  have hTx:∀ {bx:Bx}{hp:List Seg}(a0:Nat) (f0 m:Int),f0≠0→a0≤l.length→inK .i64 m→nth bx 0=some (b,219,rdr ⟨l.toArray⟩ a0 f0)→CallU Tryz.prog ⟨w,kys [] []⟩ bx hp 154 [.pointer (some ⟨b,0,none⟩),.int .i64 m] (str []) (b,219,rdr ⟨l.toArray⟩ a0 f0):=fun {_ _} a0 f0 m h0 h1 h2 h w' hw'=>by
    have:=Tryz.Take_w ⟨l.toArray⟩ a0 f0 m b w' (by rw [hbl]; exact h1) (by rw [hbl]; exact hl) h2 (hw'.own1 0 h)
    have e:rdT (bl ⟨l.toArray⟩) a0 f0 m=([],a0,f0):=by unfold rdT; rw [if_pos h0]
    rw [e] at this; exact this
  have hFa:∀ {bx:Bx}{hp:List Seg}(a0:Nat) (f0:Int),nth bx 0=some (b,219,rdr ⟨l.toArray⟩ a0 f0)→CallOb Tryz.prog ⟨w,kys [] []⟩ bx hp 155 [.pointer (some ⟨b,0,none⟩)] (.int .i64 f0):=fun {_ _} a0 f0 h w' hw'=>Tryz.Fault_w ⟨l.toArray⟩ a0 f0 b w' (hw'.bx _ (nth_mem h))
  have hLe:∀ {bx:Bx}{hp:List Seg}(a0:Nat) (f0:Int),a0≤l.length→nth bx 0=some (b,219,rdr ⟨l.toArray⟩ a0 f0)→CallOb Tryz.prog ⟨w,kys [] []⟩ bx hp 156 [.pointer (some ⟨b,0,none⟩)] (.int .i64 (l.length - a0:Nat)):=fun {_ _} a0 f0 h1 h w' hw'=>by
    have:=Tryz.Left_w ⟨l.toArray⟩ a0 f0 b w' (by rw [hbl]; exact h1) (by rw [hbl]; exact hl) (hw'.bx _ (nth_mem h))
    rw [hbl] at this; exact this
  unfold frB
  rw [if_neg h0]
  rw [hD] at ha hn hk0 ⊢
  simp only at ha hn hk0 ⊢
  by_cases hf:f=0
  · subst hf
    simp only [ne_eq,not_true_eq_false,if_false]
    have i1:inK .i64 1:=by simp only [inK]; omega
    have iN:inK .i64 (n:Int):=by simp only [inK]; omega
    by_cases hn0:n=0
    · subst hn0
      simp only [if_true]
      have h3:(3:Int)≠0:=by decide
      refine At.go [true,true,true] [hU (.int .u64 ↑0) 0 (rdr { data:=l.toArray } a 0),hU (.tuple ⟨[]⟩) 0 (rdr { data:=l.toArray } a 3),hU (.string { data:=#[] }) 0 (rdr { data:=l.toArray } a 3),hU (.string { data:=#[] }) 0 (rdr { data:=l.toArray } a 3),hU (.tuple ⟨[]⟩) 0 (rdr { data:=l.toArray } a 3),hC (.int .i64 3)] rfl (by and_intros <;> first | exact hN rfl | exact hF _ rfl | exact hTx _ _ _ h3 ha.2 iN rfl | exact hTx _ _ _ h3 ha.2 i1 rfl | exact hFx _ _ h3 rfl | exact hFa _ _ rfl | (simp; done) | exact oK) ?_
      refine At.rt [] [] [] Tryz.func137 ?_
      exact⟨rfl,rfl,rfl⟩
    · rw [if_neg hn0]
      have hx0:¬ ((n:Int) < 0):=by omega
      by_cases h2:l.length < a+n+1
      · rw [if_pos h2]
        have h2':(2:Int)≠0:=by decide
        by_cases h3:l.length < a+n
        · have e2:rdT l a 0 n=([],a,2):=by unfold rdT; rw [if_neg (by simp),if_neg hx0,if_pos (by omega)]
          have hT1:=fun {bx:Bx}{hp:List Seg}=>hT (bx:=bx) (hp:=hp) a n ha.2 iN
          simp only [e2] at hT1
          refine At.go [false,true,true] [hU (.int .u64 ↑n) 0 (rdr { data:=l.toArray } a 0),hU (.string { data:=#[] }) 0 (rdr { data:=l.toArray } a 2),hU (.string { data:=#[] }) 0 (rdr { data:=l.toArray } a 2),hU (.tuple ⟨[]⟩) 0 (rdr { data:=l.toArray } a 2),hC (.int .i64 2)] rfl (by and_intros <;> first | exact hN rfl | exact hT1 rfl | exact hTx _ _ _ h2' ha.2 i1 rfl | exact hFx _ _ h2' rfl | exact hFa _ _ rfl | (simp [hn0]; done) | (simp; done) | exact oK) ?_
          refine At.rt [] [] [] Tryz.func137 ?_
          exact⟨rfl,rfl,rfl⟩
        · have e2:rdT l a 0 n=((l.drop a).take n,a+n,0):=by unfold rdT; rw [if_neg (by simp),if_neg hx0,if_neg (by omega),Int.toNat_natCast]
          have e3:rdT l (a+n) 0 1=([],a+n,2):=by unfold rdT; rw [if_neg (by simp),if_neg (by decide),if_pos (by omega)]
          have hT1:=fun {bx:Bx}{hp:List Seg}=>hT (bx:=bx) (hp:=hp) a n ha.2 iN
          simp only [e2] at hT1
          have hT2:=fun {bx:Bx}{hp:List Seg}=>hT (bx:=bx) (hp:=hp) (a+n) 1 (by omega) i1
          simp only [e3] at hT2
          refine At.go [false,true,true] [hU (.int .u64 ↑n) 0 (rdr { data:=l.toArray } a 0),hU (.string { data:=(List.take n (List.drop a l)).toArray }) 0 (rdr { data:=l.toArray } (a+n) 0),hU (.string { data:=#[] }) 0 (rdr { data:=l.toArray } (a+n) 2),hU (.tuple ⟨[]⟩) 0 (rdr { data:=l.toArray } (a+n) 2),hC (.int .i64 2)] rfl (by and_intros <;> first | exact hN rfl | exact hT1 rfl | exact hT2 rfl | exact hFx _ _ h2' rfl | exact hFa _ _ rfl | (simp [hn0]; done) | (simp [bl]; done) | (simp; done) | exact oK) ?_
          refine At.rt [] [] [] Tryz.func137 ?_
          exact⟨rfl,rfl,rfl⟩
      · rw [if_neg h2]
        obtain⟨c,hc,ht⟩:=take1 (l:=l) (a:=a+n) (by omega)
        have e2:rdT l a 0 n=((l.drop a).take n,a+n,0):=by unfold rdT; rw [if_neg (by simp),if_neg hx0,if_neg (by omega),Int.toNat_natCast]
        have e3:rdT l (a+n) 0 1=([c],a+n+1,0):=by unfold rdT; rw [if_neg (by simp),if_neg (by decide),if_neg (by omega)]; simp [ht]
        have hT1:=fun {bx:Bx}{hp:List Seg}=>hT (bx:=bx) (hp:=hp) a n ha.2 iN
        simp only [e2] at hT1
        have hT2:=fun {bx:Bx}{hp:List Seg}=>hT (bx:=bx) (hp:=hp) (a+n) 1 (by omega) i1
        simp only [e3] at hT2
        rw [hc]
        by_cases h165:c=165
        · subst h165
          simp only [not_true_eq_false,if_false]
          obtain⟨q,hq⟩:∃ q:Nat,l.length - (a+n+1)=q:=⟨_,rfl⟩
          have hL:=fun {bx:Bx}{hp:List Seg}=>hLe (bx:=bx) (hp:=hp) (a+n+1) 0 (by omega)
          rw [hq] at hL
          refine At.go [false,false,false] [hU (.int .u64 ↑n) 0 (rdr { data:=l.toArray } a 0),hU (.string { data:=(List.take n (List.drop a l)).toArray }) 0 (rdr { data:=l.toArray } (a+n) 0),hU (.string { data:=#[165] }) 0 (rdr { data:=l.toArray } (a+n+1) 0),hC (.int .i64 0),hC (.int .i64 ↑q)] rfl (by and_intros <;> first | exact hN rfl | exact hT1 rfl | exact hT2 rfl | exact hFa _ _ rfl | exact hL rfl | (simp [hn0]; done) | (simp [bl]; done) | (simp; done) | (simp only [inK]; rw [hbl]; omega) | (rw [hbl]; omega) | exact oK) ?_
          refine At.rt [] [] [] Tryz.func137 ?_
          exact⟨by rw [hbl,show ((l.length:Int) - (q:Int))=((a+n+1:Nat):Int) by omega]; rfl,rfl,rfl⟩
        · rw [if_pos (by simpa using h165)]
          have h3:(3:Int)≠0:=by decide
          refine At.go [false,true,true] [hU (.int .u64 ↑n) 0 (rdr { data:=l.toArray } a 0),hU (.string { data:=(List.take n (List.drop a l)).toArray }) 0 (rdr { data:=l.toArray } (a+n) 0),hU (.string { data:=#[c] }) 0 (rdr { data:=l.toArray } (a+n+1) 0),hU (.tuple ⟨[]⟩) 0 (rdr { data:=l.toArray } (a+n+1) 3),hC (.int .i64 3)] rfl (by and_intros <;> first | exact hN rfl | exact hT1 rfl | exact hT2 rfl | exact hF _ rfl | exact hFa _ _ rfl | (simp [hn0]; done) | (simp [bl,h165]; done) | (simp; done) | exact oK) ?_
          refine At.rt [] [] [] Tryz.func137 ?_
          exact⟨rfl,rfl,rfl⟩
  · have hn0:n=0:=hk0 hf
    subst hn0
    rw [if_pos hf]
    have i1:inK .i64 1:=by simp only [inK]; omega
    have iN:inK .i64 ((0:Nat):Int):=by simp only [inK]; omega
    refine At.go [true,true,true] [hU (.int .u64 ↑0) 0 (rdr { data:=l.toArray } a f),hU (.tuple ⟨[]⟩) 0 (rdr { data:=l.toArray } a f),hU (.string { data:=#[] }) 0 (rdr { data:=l.toArray } a f),hU (.string { data:=#[] }) 0 (rdr { data:=l.toArray } a f),hU (.tuple ⟨[]⟩) 0 (rdr { data:=l.toArray } a f),hC (.int .i64 f)] rfl (by and_intros <;> first | exact hN rfl | exact hFx _ _ hf rfl | exact hTx _ _ _ hf ha.2 iN rfl | exact hTx _ _ _ hf ha.2 i1 rfl | exact hFa _ _ rfl | (simp [bl]; done) | (simp [hf]; done) | (simp; done) | exact oK) ?_
    refine At.rt [] [] [] Tryz.func137 ?_
    exact⟨rfl,rfl,rfl⟩
theorem Tryz.rLeft_w (s:ByteArray) (a0:Nat) (f:Int) (b:Nat) (w:World) (ha:a0≤(bl s).length) (hlen:(bl s).length≤9223372036854775807) (hb:w.heap[b]?=some (.cells (rdr s a0 f).toArray 196 (0,0))) :
    Fun Tryz.prog 148 [.pointer (some ⟨b,0,none⟩)] w (.int .i64 ((bl s).length - a0:Nat)):=by
  refine Tri.enter (bx:=[]) (hp:=[]) Tryz.func148 rfl (by kernel_rfl) rfl (Own.nil w) ?_
  have r0:∀ {bx:Bx}{hp:List Seg},RdW ⟨w,kys [] []⟩ bx hp b 0 [.string s]:=fun {_ _}=>RdW.blkB1 (by simp [kys]) hb rfl
  have r1:∀ {bx:Bx}{hp:List Seg},RdW ⟨w,kys [] []⟩ bx hp b 1 [.int .i64 a0]:=fun {_ _}=>RdW.blkB1 (by simp [kys]) hb rfl
  refine At.go [] [] rfl (by and_intros <;> first | exact r0 | exact r1 | exact oK) ?_
  refine At.qt [] [hR [.string s],hR [.int .i64 ↑a0]] rfl rfl (by and_intros <;> first | exact r0 | exact r1 | exact oK) ?_
  refine At.go [] [] rfl (by and_intros <;> first | exact r0 | exact r1 | exact oK) ?_
  refine At.rt [] [] [] Tryz.func148 ?_
  exact⟨by rw [show (((bl s).length:Int) - (a0:Int))=(((bl s).length - a0:Nat):Int) by omega]; rfl,rfl,rfl⟩
theorem Tryz.rfrNext_w (l:List UInt8) (w:World) (hl:l.length≤9223372036854775807):Fun Tryz.prog 130 [str l] w (.tuple #[str (frB l).1,.int .i64 (frB l).2.1,.int .i64 (frB l).2.2]):=by
  have hbl:bl ⟨l.toArray⟩=l:=bl_of l
  refine Tri.enter (bx:=[]) (hp:=[]) Tryz.func130 rfl (by kernel_rfl) rfl (Own.nil w) ?_
  by_cases h0:l=[]
  · subst h0
    refine At.go [true] [] rfl (by and_intros <;> first | (simp [bl]; done) | exact oK) ?_
    refine At.rt [] [] [] Tryz.func130 ?_
    exact⟨rfl,rfl,rfl⟩
  have hp0:=List.length_pos_iff.2 h0
  refine At.go [false] [] rfl (by and_intros <;> first | (rw [hbl]; exact decide_eq_false (by omega)) | exact oK) ?_
  refine At.step [] rfl rfl rfl rfl rfl trivial (OpOk.call rfl (fun w' hw'=>Tryz.rOf_w ⟨l.toArray⟩ w') ?_)
  rintro _ _ _ ⟨b,rfl,rfl,rfl⟩
  obtain⟨n,a,f,hD⟩:∃ n a f,rdN l 0 0 65536=(n,a,f):=⟨_,_,_,rfl⟩
  have ha:=rdN_a (l:=l) (a:=0) (f:=0) (most:=65536) (by omega)
  have hn:=rdN_lt l 0 0 65536
  have hk0:=rdN_k0 (l:=l) (a:=0) (f:=0) (most:=65536)
  have hN:∀ {bx:Bx}{hp:List Seg},nth bx 0=some (b,196,rdr ⟨l.toArray⟩ 0 0)→CallU Tryz.prog ⟨w,kys [] []⟩ bx hp 147 [.pointer (some ⟨b,0,none⟩),.int .u64 65536] (.int .u64 n) (b,196,rdr ⟨l.toArray⟩ a f):=fun {_ _} h w' hw'=>by
    have:=Tryz.rNum_w ⟨l.toArray⟩ 0 0 b 65536 w' (by omega) (by rw [hbl]; exact hl) (hw'.own1 0 h)
    rw [hbl,hD] at this; exact this
  rw [hD] at ha hn hk0
  simp only at ha hn hk0
  obtain⟨q,hq⟩:∃ q:Nat,l.length - a=q:=⟨_,rfl⟩
  have hL:∀ {bx:Bx}{hp:List Seg},nth bx 0=some (b,196,rdr ⟨l.toArray⟩ a f)→CallOb Tryz.prog ⟨w,kys [] []⟩ bx hp 148 [.pointer (some ⟨b,0,none⟩)] (.int .i64 q):=fun {_ _} h w' hw'=>by
    have:=Tryz.rLeft_w ⟨l.toArray⟩ a f b w' (by rw [hbl]; exact ha.2) (by rw [hbl]; exact hl) (hw'.bx _ (nth_mem h))
    rw [hbl,hq] at this; exact this
  unfold frB
  rw [if_neg h0,hD]
  simp only
  by_cases hf:f=0
  · subst hf
    simp only [ne_eq,not_true_eq_false,if_false]
    by_cases hn0:n=0
    · subst hn0
      simp only [if_true]
      refine At.go [false,true] [hU (.int .u64 ↑0) 0 (rdr { data:=l.toArray } a 0),hB 0] rfl (by and_intros <;> first | exact hN rfl | (simp; done) | exact oK) ?_
      refine At.rt [] [] [] Tryz.func130 ?_
      exact⟨rfl,rfl,rfl⟩
    · rw [if_neg hn0]
      by_cases h2:l.length < a+n+1
      · rw [if_pos h2]
        refine At.go [false,false,true] [hU (.int .u64 ↑n) 0 (rdr { data:=l.toArray } a 0),hB 0,hC (.int .i64 ↑q)] rfl (by and_intros <;> first | exact hN rfl | exact hL rfl | exact decide_eq_true (by omega) | (simp [hn0]; done) | (simp; done) | exact oK) ?_
        refine At.rt [] [] [] Tryz.func130 ?_
        exact⟨rfl,rfl,rfl⟩
      · rw [if_neg h2]
        obtain⟨c,hc,-⟩:=take1 (l:=l) (a:=a+n) (by omega)
        have hgc:(bl ⟨l.toArray⟩)[((a:Int)+n).toNat]?.getD 0=c:=by rw [hbl,show ((a:Int)+n).toNat=a+n by omega,hc]; rfl
        rw [hc]
        by_cases h165:c=165
        · subst h165
          simp only [not_true_eq_false,if_false]
          refine At.go [false,false,false,false] [hU (.int .u64 ↑n) 0 (rdr { data:=l.toArray } a 0),hB 0,hC (.int .i64 ↑q),hB 0] rfl (by and_intros <;> first | exact hN rfl | exact hL rfl | exact decide_eq_false (by omega) | (simp; done) | (rw [hgc]; rfl) | (rw [hbl]; omega) | exact oK) ?_
          refine At.qt [] [hB 0,hB 0,hB 0] rfl rfl (by and_intros <;> first | exact hN rfl | exact hL rfl | exact decide_eq_false (by omega) | (simp; done) | (rw [hgc]; rfl) | (rw [hbl]; omega) | exact oK) ?_
          refine At.go [] [] rfl (by and_intros <;> first | exact hN rfl | exact hL rfl | exact decide_eq_false (by omega) | (simp; done) | (rw [hgc]; rfl) | (rw [hbl]; omega) | exact oK) ?_
          rw [hbl,show ((a:Int)+n).toNat - (a:Int).toNat=n by omega,Int.toNat_natCast]
          refine At.rt [] [] [] Tryz.func130 ?_
          exact⟨rfl,rfl,rfl⟩
        · have h165':¬ ((c.toNat:Int)=165):=fun e => h165 (UInt8.toNat_inj.1 (by have h10:(165:UInt8).toNat=165:=rfl; omega))
          rw [if_pos (by simpa using h165)]
          refine At.go [false,false,false,true] [hU (.int .u64 ↑n) 0 (rdr { data:=l.toArray } a 0),hB 0,hC (.int .i64 ↑q),hB 0] rfl (by and_intros <;> first | exact hN rfl | exact hL rfl | exact decide_eq_false (by omega) | (simp; done) | (rw [hgc]; simp [h165']; done) | (rw [hbl]; omega) | exact oK) ?_
          refine At.rt [] [] [] Tryz.func130 ?_
          exact⟨rfl,rfl,rfl⟩
  · have hn0:n=0:=hk0 hf
    subst hn0
    rw [if_pos hf]
    refine At.go [true] [hU (.int .u64 ↑0) 0 (rdr { data:=l.toArray } a f),hB 0] rfl (by and_intros <;> first | exact hN rfl | (simp [hf]; done) | (simp; done) | exact oK) ?_
    refine At.qt [] [hB 0] rfl rfl (by and_intros <;> first | exact hN rfl | (simp; done) | (simp; done) | exact oK) ?_
    refine At.go [] [] rfl (by and_intros <;> first | exact hN rfl | (simp; done) | (simp; done) | exact oK) ?_
    refine At.rt [] [] [] Tryz.func130 ?_
    exact⟨rfl,rfl,rfl⟩
theorem Own.tailF {e:Nat × TypeId × List Value}{bx:Bx}{hp:List Seg}{w:World}(h:Own (e :: bx) hp w):Own bx hp w :=
  ⟨(List.nodup_cons.1 h.nd).2,fun k hk=>h.lt k (List.mem_cons_of_mem _ hk),fun e he=>h.bx e (List.mem_cons_of_mem _ he),h.hp⟩
theorem sum_pre {pre l:List (List UInt8 × Nat)}(h:pre <+: l):(pre.map (·.2)).sum≤(l.map (·.2)).sum:=by
  obtain⟨t,rfl⟩:=h
  rw [List.map_append,List.sum_append]; omega
def encF (x:List UInt8 × Nat):List Value:=[str x.1,.int .i64 x.2]
theorem Tryz.frames_w (s:List UInt8) (w:World):Tri Tryz.prog 119 [str s] w [] (fun v bx hp=>∃ b,v=.func (.func 136) #[] #[.pointer (some ⟨b,0,none⟩)]∧bx=[(b,9,[str s])]∧hp=[]):=by
  refine Tri.enter (bx:=[]) (hp:=[]) Tryz.func119 rfl (by kernel_rfl) rfl (Own.nil w) ?_
  refine At.go [] [] rfl oK ?_
  refine At.bo fun b1 hb1=>?_
  refine At.go [] [] rfl oK ?_
  refine At.rt [true] [] [] Tryz.func119 ?_
  exact⟨_,rfl,rfl,rfl⟩
theorem Tryz.frames1_w (s:List UInt8) (b:Nat) (w:World) (hl:s.length≤2000000) :
    IterA Tryz.prog 136 [.pointer (some ⟨b,0,none⟩)] [(b,9,[str s])] (fun bx=>∃ r,bx=[(b,9,[str r])]) [] encF (scan s) false w:=by
  intro y s0 J hJ hown hfree hyield
  refine Tri.enter Tryz.func136 rfl (by kernel_rfl) rfl hown ?_
  refine At.go [] [] rfl oK ?_
  refine At.loop (env0:=[(0,.func (Fn.yield y) ⟨[]⟩ ⟨[]⟩),(1,.pointer (some ⟨b,0,none⟩))]) (fun m_ env bx hp => ∃ (r:List UInt8) (pre:List (List UInt8 × Nat)) (s1:Seg),m_=r.length∧(scan s=pre++scan r)∧(r.length≤2000000)∧(J pre s1)∧env=[(0,.func (Fn.yield y) ⟨[]⟩ ⟨[]⟩),(1,.pointer (some ⟨b,0,none⟩))]∧bx=[(b,9,[str r])]∧hp=[s1]) rfl
    ⟨s,[],s0,rfl,(rfl),(hl),(hJ),rfl,rfl,rfl⟩ sB ?_
  rintro m_ env bx hp ⟨r,pre,s1,rfl,hpr,hrl,hJp,rfl,rfl,rfl⟩ ih
  obtain⟨x,k,e,hD⟩:∃ x k e,frB r=(x,k,e):=⟨_,_,_,rfl⟩
  have hN:∀ {S:Base}{bx:Bx}{hp:List Seg},CallOb Tryz.prog S bx hp 137 [str r] (.tuple #[str x,.int .i64 k,.int .i64 e]):=fun {_ _ _} w' _=>by
    have:=Tryz.frNext_w r w' (by omega); rw [hD] at this; exact this
  by_cases he:e=0
  · subst he
    have hn:=scan_next (s:=r) (by rw [hD])
    have hk:=frB_ok (s:=r) (by rw [hD])
    rw [hD] at hn hk
    simp only at hn hk
    refine At.go [false] [hB 0,hC (.tuple { toList:=[.string { data:=x.toArray },.int .i64 ↑k,.int .i64 0] })] rfl (by and_intros <;> first | exact hN | (simp; done) | exact oK) ?_
    refine At.yieldA (a:=true) [false] rfl rfl rfl rfl rfl (by simp) (lp:=y) (args:=encF (x,k)) rfl [] [true] (bm:=[]) (hm:=[s1]) (br:=[(b,9,[str r])]) (hr:=[]) (Q:=fun bx hp => bx=[]∧∃ s',hp=[s']∧J (pre++[(x,k)]) s') rfl
      (fun w' hw'=>hyield pre (x,k) s1 w' ⟨scan (r.drop k),by rw [hpr,hn]; simp⟩ hJp (Own.tailF hw'.toOwn) hw'.ext) ?_
    rintro _ _ ⟨rfl,s',rfl,hJ'⟩
    refine At.go [false,false] [hB 0,hB 0] rfl (by and_intros <;> first | (simp; done) | (rw [bl_of]; omega) | exact oK) ?_
    rw [bl_of,Int.toNat_natCast]
    have hdl:(r.drop k).length=r.length - k:=List.length_drop
    exact At.weak (ih _ _ _ _ (by omega) ⟨r.drop k,pre++[(x,k)],s',rfl,by rw [hpr,hn]; simp,by omega,hJ',rfl,rfl,rfl⟩) sB
  · have hn:=scan_stop (s:=r) (by rw [hD]; exact he)
    rw [hn,List.append_nil] at hpr
    refine At.go [true,true] [hB 0,hC (.tuple { toList:=[.string { data:=x.toArray },.int .i64 ↑k,.int .i64 e] })] rfl (by and_intros <;> first | exact hN | (simp [he]; done) | exact oK) ?_
    refine At.rt [true] [true] [] Tryz.func136 ?_
    exact⟨⟨_,rfl⟩,_,rfl,by rw [hpr]; exact hJp⟩
theorem Tryz.scan1_w (x:List UInt8) (k m:Nat) (b4 b5:Nat) (a:Option Nat) (c:Nat) (xs:List (List UInt8)) (w:World) (hx:xs.length≤2000000) (hm:m+k≤2000000) (hw:Own [(b5,3,[.int .i64 m]),(b4,24,[sv a xs.length c])] [Seg.row a 9 1 xs.length c (xs.map str)] w) :
    Tri Tryz.prog 118 [str x,.int .i64 k,.pointer (some ⟨b4,0,none⟩),.pointer (some ⟨b5,0,none⟩)] w (kys [(b5,3,[.int .i64 m]),(b4,24,[sv a xs.length c])] [Seg.row a 9 1 xs.length c (xs.map str)])
      (fun _ bx hp=>∃ a' c',bx=[(b5,3,[.int .i64 (m+k:Nat)]),(b4,24,[sv a' (xs++[x]).length c'])]∧hp=[Seg.row a' 9 1 (xs++[x]).length c' ((xs++[x]).map str)]):=by
  refine Tri.enter Tryz.func118 rfl (by kernel_rfl) rfl hw ?_
  refine At.go [] [hB 1] rfl oK ?_
  refine At.a1 0 1 16 fun b8 a9 c9=>?_
  refine At.go [] [hB 1,hB 0,hB 0] rfl oK ?_
  rw [show (m:Int)+k=((m+k:Nat):Int) by omega,show xs.map str++[str x]=(xs++[x]).map str by simp,show xs.length+1=(xs++[x]).length by simp]
  refine At.rt [true,true] [true] [] Tryz.func118 ?_
  exact⟨a9,c9,rfl,rfl⟩
theorem Tryz.Scan_w (l:List UInt8) (w:World) (hl:l.length≤2000000):Tri Tryz.prog 89 [str l] w [] (fun v bx hp=>∃ (a:Option Nat) (c:Nat),v=.tuple #[sv a (frowsB l).length c,.int .i64 (sizeB l)]∧bx=[]∧hp=[Seg.row a 9 1 (frowsB l).length c ((frowsB l).map str)]):=by
  obtain⟨hs1,hs2,-⟩:=scan_len l
  refine Tri.enter (bx:=[]) (hp:=[]) Tryz.func89 rfl (by kernel_rfl) rfl (Own.nil w) ?_
  refine At.go [] [] rfl oK ?_
  refine At.al fun b4 hb4=>?_
  refine At.go [] [] rfl oK ?_
  refine At.al fun b5 hb5=>?_
  refine At.go [] [hB 0] rfl oK ?_
  refine At.al fun b6 hb6=>?_
  refine At.go [] [hB 0] rfl oK ?_
  refine At.step [] rfl rfl rfl rfl rfl trivial (OpOk.call rfl (fun w' hw'=>Tryz.frames_w l w') ?_)
  rintro _ _ _ ⟨b,rfl,rfl,rfl⟩
  refine At.go [] [] rfl oK ?_
  refine At.nilRow 9 1 ?_
  refine At.rangeIA (stop:=false) (bi:=[(b,9,[str l])]) (bc:=[(b6,164,[.func (.func 118) ⟨[]⟩ ⟨[.pointer (some ⟨b4,0,none⟩),.pointer (some ⟨b5,0,none⟩)]⟩]),(b5,3,[.int .i64 0]),(b4,24,[sv none 0 0])]) (bo:=fun bx => ∃ r,bx=[(b,9,[str r])]) (hp:=[Seg.row none 9 1 0 0 []]) rfl rfl rfl (rd:=[]) (by simp) (enc:=encF) (ys:=scan l) (fun _ => rfl) rfl
    (fun pre bx hp=>∃ (a1:Option Nat) (c1:Nat),bx=[(b6,164,[.func (.func 118) ⟨[]⟩ ⟨[.pointer (some ⟨b4,0,none⟩),.pointer (some ⟨b5,0,none⟩)]⟩]),(b5,3,[.int .i64 ((pre.map (·.2)).sum:Nat)]),(b4,24,[sv a1 (pre.map (·.1)).length c1])]∧hp=[Seg.row a1 9 1 (pre.map (·.1)).length c1 ((pre.map (·.1)).map str)])
    ⟨none,0,rfl,rfl⟩ (fun h=>by cases h) (fun w' hext=>Tryz.frames1_w l b w' hl) ?_ ?_ (fun h=>by cases h)
  · rintro lp D tm pre x bx hp w' a hpre ⟨a1,c1,rfl,rfl⟩ hext hky rfl
    have hlen:pre.length+1≤(scan l).length:=by have:=hpre.length_le; simpa using this
    have hsum:=sum_pre hpre
    simp only [List.map_append,List.sum_append,List.map_cons,List.map_nil,List.sum_cons,List.sum_nil] at hsum
    refine At.run 100 true [] [] rfl trivial ?_
    refine At.beginA ?_
    refine At.go [] [hB 0] rfl oK ?_
    refine At.step [] rfl rfl rfl rfl rfl trivial (OpOk.callM [false,true,true] [false,true] rfl rfl (fun w2 hw2=>Tryz.scan1_w x.1 x.2 ((pre.map (fun z:List UInt8 × Nat=>z.2)).sum) b4 b5 a1 c1 (pre.map (fun z:List UInt8 × Nat=>z.1)) w2 (by rw [List.length_map]; omega) (by omega) (hw2.toOwn.sel [false,true,true] [false,true] rfl)) ?_)
    rintro _ _ _ ⟨a2,c2,rfl,rfl⟩
    refine At.go [] [] rfl oK ?_
    refine At.order [2] [1] rfl rfl ?_
    have hS:((pre++[x]).map (fun z:List UInt8 × Nat=>z.2)).sum=(pre.map (fun z:List UInt8 × Nat=>z.2)).sum+x.2:=by simp
    have hM:(pre++[x]).map (fun z:List UInt8 × Nat=>z.1)=pre.map (fun z:List UInt8 × Nat=>z.1)++[x.1]:=by simp
    exact At.roundEndA ⟨_,rfl,a2,c2,by rw [hS,hM]; rfl,by rw [hM]; rfl⟩
  · rintro - D bo' bx' hp' ⟨r,rfl⟩ ⟨a1,c1,rfl,rfl⟩
    refine At.go [] [] rfl oK ?_
    refine At.qt [] [hB 3,hB 2] rfl rfl oK ?_
    refine At.go [] [] rfl oK ?_
    exact At.retCK [false,false,false,false] [true] [] Tryz.func89 rfl oK rfl ⟨a1,c1,rfl,rfl,rfl⟩
theorem Tryz.rScan_w (l:List UInt8) (w:World) (hl:l.length≤2000000):Tri Tryz.prog 107 [str l] w [] (fun v bx hp=>∃ (a:Option Nat) (c:Nat) (a2:Option Nat) (c2:Nat),v=.tuple #[sv a (frowsB l).length c,sv a2 (frowsB l).length c2]∧bx=[]∧hp=[Seg.row a2 3 1 (frowsB l).length c2 (i64s ((scan l).map fun x=>(x.2:Int))),Seg.row a 9 1 (frowsB l).length c ((frowsB l).map str)]):=by
  obtain⟨hs1,hs2,-⟩:=scan_len l
  refine Tri.enter (bx:=[]) (hp:=[]) Tryz.func107 rfl (by kernel_rfl) rfl (Own.nil w) ?_
  refine At.go [] [] rfl oK ?_
  refine At.nilRow 9 1 ?_
  refine At.nilRow 3 1 ?_
  refine At.loop (env0:=[(0,.string { data:=l.toArray }),(4,.slice none 0 0),(5,.slice none 0 0)]) (fun m_ env bx hp => ∃ (r:List UInt8) (pre:List (List UInt8 × Nat)) (a:Option Nat) (c:Nat) (a2:Option Nat) (c2:Nat),m_=r.length∧(scan l=pre++scan r)∧(r.length≤2000000)∧env=[(0,str r),(4,sv a pre.length c),(5,sv a2 pre.length c2)]∧bx=[]∧hp=[Seg.row a2 3 1 pre.length c2 (i64s (pre.map fun x => (x.2:Int))),Seg.row a 9 1 pre.length c (pre.map fun x => str x.1)]) rfl
    ⟨l,[],none,0,none,0,rfl,(rfl),(hl),rfl,rfl,rfl⟩ sB ?_
  rintro m_ env bx hp ⟨r,pre,a,c,a2,c2,rfl,hpr,hrl,rfl,rfl,rfl⟩ ih
  have hpl:pre.length≤2000000:=by
    have:=congrArg List.length hpr
    rw [List.length_append] at this; omega
  obtain⟨x,k,e,hD⟩:∃ x k e,frB r=(x,k,e):=⟨_,_,_,rfl⟩
  have hN:∀ {S:Base}{bx:Bx}{hp:List Seg},CallOb Tryz.prog S bx hp 130 [str r] (.tuple #[str x,.int .i64 k,.int .i64 e]):=fun {_ _ _} w' _=>by
    have:=Tryz.rfrNext_w r w' (by omega); rw [hD] at this; exact this
  by_cases he:e=0
  · subst he
    have hn:=scan_next (s:=r) (by rw [hD])
    have hk:=frB_ok (s:=r) (by rw [hD])
    rw [hD] at hn hk
    simp only at hn hk
    have hdl:(r.drop k).length=r.length - k:=List.length_drop
    refine At.go [false] [hC (.tuple { toList:=[.string { data:=x.toArray },.int .i64 ↑k,.int .i64 0] })] rfl (by and_intros <;> first | exact hN | (simp; done) | (rw [bl_of]; omega) | exact oK) ?_
    refine At.a1 1 1 16 fun b21 a22 c22=>?_
    refine At.go [] [] rfl (by and_intros <;> first | exact hN | (simp; done) | (rw [bl_of]; omega) | exact oK) ?_
    refine At.a1 0 1 8 fun b25 a26 c26=>?_
    refine At.go [] [] rfl (by and_intros <;> first | exact hN | (simp; done) | (rw [bl_of]; omega) | exact oK) ?_
    rw [bl_of,Int.toNat_natCast,show i64s (pre.map fun x=>(x.2:Int))++[.int .i64 k]=i64s ((pre++[(x,k)]).map fun x=>(x.2:Int)) by simp [i64s],show (pre.map fun x=>str x.1)++[Value.string ⟨x.toArray⟩]=(pre++[(x,k)]).map fun x=>str x.1 by simp [str],show pre.length+1=(pre++[(x,k)]).length by simp]
    exact At.weak (ih _ _ _ _ (by omega) ⟨r.drop k,pre++[(x,k)],a22,c22,a26,c26,rfl,by rw [hpr,hn]; simp,by omega,rfl,rfl,rfl⟩) sB
  · have hn:=scan_stop (s:=r) (by rw [hD]; exact he)
    rw [hn,List.append_nil] at hpr
    refine At.go [true] [hC (.tuple { toList:=[.string { data:=x.toArray },.int .i64 ↑k,.int .i64 e] })] rfl (by and_intros <;> first | exact hN | (simp [he]; done) | exact oK) ?_
    have hrl2:(frowsB l).length=pre.length:=by unfold frowsB; rw [hpr,List.length_map]
    refine At.rt [] [true,true] [] Tryz.func107 ?_
    exact⟨a,c,a2,c2,by rw [hrl2]; rfl,rfl,by rw [hrl2,hpr]; unfold frowsB; rw [hpr,List.map_map]; rfl⟩
end Go.Proofs

/-
  Walks of layer 2's document: primes, constants.
-/
import Derived.Test.YtibdpdlghibijaaGreatDoorMP21
import Derived.Test.YtibdpdlghibijaaGreatDoorMP16
import Derived.Test.YtibdpdlghibijaaGreatDoorMP7
import Derived.Test.YtibdpdlghibijaaGreatDoorMP18
import Derived.Test.YtibdpdlghibijaaGreatDoorMP11
import Derived.Test.YtibdpdlghibijaaGreatDoorMP2
import Derived.Test.YtibdpdlghibijaaGreatDoorMP17
import Derived.Test.YtibdpdlghibijaaGreatDoorMP1
import Derived.Test.YtibdpdlghibijaaGreatDoorMP20
import Derived.Test.YtibdpdlghibijaaGreatDoorMP12
namespace Go.Proofs
open Go Go.Eng
set_option maxRecDepth 100000
set_option maxHeartbeats 4000000
attribute [local irreducible] Tri
attribute [local irreducible] fillW
def n64s (l:List Nat):List Value:=l.map fun n:Nat=>.int .u64 (n:Int)
theorem Tryz.primes_w (w:World):Tri Tryz.prog 83 [] w [] (fun v bx hp=>∃ (g:Option Nat) (c:Nat),v=sv g P64.length c∧bx=[]∧hp=[Seg.row g 137 1 P64.length c (n64s P64)]):=by
  refine Tri.enter (bx:=[]) (hp:=[]) Tryz.func83 rfl (by kernel_rfl) rfl (Own.nil w) ?_
  refine At.go [] [] rfl (by and_intros <;> first | exact trivial | exact oK) ?_
  refine At.nilRow 137 1 ?_
  refine At.loop (env0:=[(1,.slice none 0 0),(2,.int .u64 2)]) (fun m_ env bx hp => ∃ (p:Nat) (L:List Nat) (g:Option Nat) (c:Nat),m_=312 - p∧(2≤p)∧(p≤312)∧(prL p=L)∧env=[(1,sv g L.length c),(2,.int .u64 p)]∧bx=[]∧hp=[Seg.row g 137 1 L.length c (n64s L)]) rfl
    ⟨2,[],none,0,rfl,(by omega),(by omega),(prL_two),rfl,rfl,rfl⟩ sB ?_
  rintro m_ env bx hp ⟨p,L,g,c,rfl,hp2,hp3,eL,rfl,rfl,rfl⟩ ih1
  by_cases hlt:p < 312
  · have hll:=prL_lt hlt
    rw [eL] at hll
    have hd64:decide ((L.length:Int) < 64)=true:=decide_eq_true (by omega)
    refine At.go [true] [] rfl (by and_intros <;> first | exact hd64 | exact oK) ?_
    refine At.loop (env0:=[(1,.slice (svA g) L.length c),(2,.int .u64 ↑p),(3,.bool true),(4,.int .u64 2)]) (fun m_ env bx hp => ∃ (d:Nat) (b:Bool),m_=p+1 - d∧(2≤d)∧(d≤p+1)∧(accP p d=b)∧((d - 1) * (d - 1)≤p∨d=2)∧env=[(1,.slice (svA g) L.length c),(2,.int .u64 ↑p),(3,.bool b),(4,.int .u64 d)]∧bx=[]∧hp=[Seg.row g 137 1 L.length c (n64s L)]) rfl
      ⟨2,true,rfl,(by omega),(by omega),(accP_two p),(.inr rfl),rfl,rfl,rfl⟩ sB ?_
    rintro m_ env bx hp ⟨d,b,rfl,hd2,hdp,hbb,hm,rfl,rfl,rfl⟩ ih
    have hdd:=prod_le (show d≤313 by omega) (show d≤313 by omega)
    have q1:(0:Int)≤(d:Int) * d:=by omega
    have q2:(d:Int) * d≤18446744073709551615:=by omega
    have hcast:(d:Int) * d=((d * d:Nat):Int):=(Int.natCast_mul d d).symm
    clear hdd
    cases hle:decide ((d:Int) * d≤(p:Int)) with
    | true =>
      have hle2:d * d≤p:=by have:=of_decide_eq_true hle; rw [hcast] at this; omega
      have hdle:d≤p:=by have:=Nat.mul_le_mul_right d (show 2≤d by omega); omega
      have hmod:(p:Int) % (d:Int)=((p % d:Nat):Int):=(Int.natCast_emod p d).symm
      have hst:accP p (d+1)=(b && !decide ((p:Int) % (d:Int)=0)):=by rw [accP_succ p d hd2,hbb,hmod,dec_zero]
      cases b with
      | false =>
        rw [Bool.false_and] at hst
        refine At.go [true,false] [] rfl (by and_intros <;> first | (with_reducible exact q1) | (with_reducible exact q2) | (with_reducible exact hle) | exact oK) ?_
        exact At.weak (ih _ _ _ _ (by omega) ⟨d+1,false,rfl,by omega,by omega,hst,.inl (by rw [Nat.add_sub_cancel]; exact hle2),rfl,rfl,rfl⟩) sB
      | true =>
        rw [Bool.true_and] at hst
        refine At.go [true,true] [] rfl (by and_intros <;> first | (with_reducible exact q1) | (with_reducible exact q2) | (with_reducible exact hle) | exact oK) ?_
        exact At.weak (ih _ _ _ _ (by omega) ⟨d+1,!decide ((p:Int) % (d:Int)=0),rfl,by omega,by omega,hst,.inl (by rw [Nat.add_sub_cancel]; exact hle2),rfl,rfl,rfl⟩) sB
    | false =>
      have hgt:p < d * d:=by have:=of_decide_eq_false hle; rw [hcast] at this; omega
      have his:isPr p=b:=by rw [← accP_is hd2 hgt hm,hbb]
      have hsn:=prL_succ hp2
      rw [eL,his] at hsn
      cases b with
      | false =>
        simp only [Bool.false_eq_true,if_false,List.append_nil] at hsn
        refine At.go [false,false] [] rfl (by and_intros <;> first | (with_reducible exact q1) | (with_reducible exact q2) | (with_reducible exact hle) | exact oK) ?_
        exact At.weak (ih1 _ _ _ _ (by omega) ⟨p+1,L,g,c,rfl,by omega,by omega,hsn,rfl,rfl,rfl⟩) sB
      | true =>
        simp only [if_true] at hsn
        refine At.go [false,true] [] rfl (by and_intros <;> first | (with_reducible exact q1) | (with_reducible exact q2) | (with_reducible exact hle) | exact oK) ?_
        refine At.a1 0 1 8 fun b27 a28 c28=>?_
        refine At.go [] [] rfl (by and_intros <;> first | (with_reducible exact q1) | (with_reducible exact q2) | (with_reducible exact hle) | exact oK) ?_
        rw [show n64s L++[.int .u64 (p:Int)]=n64s (L++[p]) by simp [n64s],show L.length+1=(L++[p]).length by simp]
        exact At.weak (ih1 _ _ _ _ (by omega) ⟨p+1,L++[p],a28,c28,rfl,by omega,by omega,hsn,rfl,rfl,rfl⟩) sB
  · obtain rfl:p=312:=by omega
    rw [prL_all] at eL
    subst eL
    refine At.go [false] [] rfl (by and_intros <;> first | exact decide_eq_false (by decide) | exact oK) ?_
    refine At.rt [] [true] [] Tryz.func83 ?_
    exact⟨g,c,rfl,rfl,rfl⟩
theorem all1 {l:List Value}(h:l.all (fun v=>v.oneCell')=true):∀ v,v∈l→v.oneCell'=true:=fun v hv=>List.all_eq_true.1 h v hv
theorem roots_get {cube:Bool}{L:List (BitVec 32)}{n i:Nat}(hL:(P64.take n).map (fun p=>rt32 p cube)=L) (hi:i < n) (hn:n≤64):∃ p,P64[i]?=some p∧p≤1000∧L[i]?=some (rt32 p cube):=by
  have hl:P64.length=64:=rfl
  obtain⟨p,hp⟩:∃ p,P64[i]?=some p:=⟨_,List.getElem?_eq_getElem (by omega)⟩
  have hmax:∀ q,q∈P64→q≤1000:=by decide +kernel
  refine⟨p,hp,hmax p (List.mem_of_getElem? hp),?_⟩
  rw [← hL,List.getElem?_map,List.getElem?_take_of_lt hi,hp]; rfl
theorem Tryz.consts_w (w:World):Fun Tryz.prog 43 [] w (.tuple #[.agg ⟨w32s K64⟩,.agg ⟨w32s H0.l⟩]):=by
  obtain⟨L,hL⟩:∃ L,(P64.take 64).map (fun p=>rt32 p true)=L:=⟨_,rfl⟩
  obtain⟨J,hJ⟩:∃ J,(P64.take 8).map (fun p=>rt32 p false)=J:=⟨_,rfl⟩
  have eL:L=K64:=by rw [← hL,← roots_K]; rfl
  have eJ:J=H0.l:=by rw [← hJ,roots_H]
  have lL:L.length=64:=by rw [eL]; rfl
  have lJ:J.length=8:=by rw [eJ]; rfl
  refine Tri.enter (bx:=[]) (hp:=[]) Tryz.func43 rfl (by kernel_rfl) rfl (Own.nil w) ?_
  refine At.go [] [] rfl (by and_intros <;> first | exact trivial | exact oK) ?_
  refine At.al fun b0 hb0=>?_
  refine At.al fun b1 hb1=>?_
  refine At.go [] [] rfl (by and_intros <;> first | exact trivial | exact oK) ?_
  refine At.al fun b2 hb2=>?_
  refine At.go [] [] rfl (by and_intros <;> first | exact trivial | exact oK) ?_
  refine At.al fun b3 hb3=>?_
  refine At.go [] [] rfl (by and_intros <;> first | exact trivial | exact oK) ?_
  refine At.step [] rfl rfl rfl rfl rfl trivial (OpOk.call rfl (fun w' hw'=>Tryz.primes_w w') ?_)
  rintro _ _ _ ⟨g,c,rfl,rfl,rfl⟩
  refine At.go [] [] rfl (by and_intros <;> first | exact trivial | exact oK) ?_
  rw [z64_eq,z8_eq,← fillW_zero L 64,← fillW_zero J 8]
  refine At.loop (env0:=[(0,.pointer (some ⟨b0,0,none⟩)),(1,.pointer (some ⟨b1,0,none⟩)),(2,.pointer (some ⟨b2,0,none⟩)),(3,.pointer (some ⟨b3,0,none⟩)),(4,.slice (svA g) P64.length c),(5,.int .i64 0)]) (fun m_ env bx hp => ∃ (i:Nat),m_=64 - i∧(i≤64)∧env=[(0,.pointer (some ⟨b0,0,none⟩)),(1,.pointer (some ⟨b1,0,none⟩)),(2,.pointer (some ⟨b2,0,none⟩)),(3,.pointer (some ⟨b3,0,none⟩)),(4,.slice (svA g) P64.length c),(5,.int .i64 i)]∧bx=[(b3,34,fillW J 8 0),(b2,33,fillW L 64 i),(b1,34,fillW J 8 0),(b0,33,fillW L 64 0)]∧hp=[Seg.row g 137 1 P64.length c (n64s P64)]) rfl
    ⟨0,rfl,(by omega),rfl,rfl,rfl⟩ sB ?_
  rintro m_ env bx hp ⟨i,rfl,hi,rfl,rfl,rfl⟩ ih
  have hlP:P64.length=64:=rfl
  by_cases hlt:i < 64
  · obtain⟨p,hp,hpm,hx⟩:=roots_get hL hlt (by omega)
    refine At.rowSome 0 rfl (by omega) fun q hq=>?_
    subst hq
    have r:∀ {bx:Bx}{hp:List Seg},nth hp 0=some (Seg.row (some q) 137 1 P64.length c (n64s P64))→RdW ⟨w,kys [] []⟩ bx hp q (0+(i:Int).toNat * 1) [.int .u64 (p:Int)]:=fun {_ _} h=>RdW.row1 h (i:=i) (by simp only [n64s,List.getElem?_map,hp]; rfl) (by omega)
    have fR:∀ {S:Base}{bx:Bx}{hp:List Seg},CallOb Tryz.prog S bx hp 84 [.int .u64 (p:Int),.bool true] (v32 (rt32 p true)):=fun {_ _ _} w' _=>Tryz.root_w p true w' hpm
    refine At.go [true] [hR [.int .u64 ↑p],hC (.int .u32 ↑(rt32 p true).toNat)] rfl (by and_intros <;> first | exact r rfl | exact fR | exact decide_eq_true (by omega) | (rw [hlP]; omega) | exact oK) ?_
    have hput:putL (fillW L 64 i) (0+(i:Int).toNat * 1) [.int .u32 ((rt32 p true).toNat:Int)]=fillW L 64 (i+1):=by
      rw [show 0+(i:Int).toNat * 1=i by omega]; exact fillW_put hx (by omega)
    refine At.step0 [] rfl rfl rfl rfl trivial (OpOk.storeBlk 1 rfl rfl rfl rfl rfl rfl (by rw [fillW_len (by omega) (by omega)]; simp; omega) ?_)
    rw [hput]
    refine At.go [] [] rfl (by and_intros <;> first | exact trivial | exact oK) ?_
    refine At.keep [true,true,true,true] [true] rfl ?_
    exact At.weak (ih _ _ _ _ (by omega) ⟨i+1,rfl,by omega,rfl,rfl,rfl⟩) sB
  · obtain rfl:i=64:=by omega
    refine At.go [false] [] rfl (by and_intros <;> first | exact decide_eq_false (by omega) | exact oK) ?_
    refine At.loop (env0:=[(0,.pointer (some ⟨b0,0,none⟩)),(1,.pointer (some ⟨b1,0,none⟩)),(2,.pointer (some ⟨b2,0,none⟩)),(3,.pointer (some ⟨b3,0,none⟩)),(4,.slice (svA g) P64.length c),(6,.int .i64 0)]) (fun m_ env bx hp => ∃ (i:Nat),m_=8 - i∧(i≤8)∧env=[(0,.pointer (some ⟨b0,0,none⟩)),(1,.pointer (some ⟨b1,0,none⟩)),(2,.pointer (some ⟨b2,0,none⟩)),(3,.pointer (some ⟨b3,0,none⟩)),(4,.slice (svA g) P64.length c),(6,.int .i64 i)]∧bx=[(b3,34,fillW J 8 i),(b2,33,fillW L 64 64),(b1,34,fillW J 8 0),(b0,33,fillW L 64 0)]∧hp=[Seg.row g 137 1 P64.length c (n64s P64)]) rfl
      ⟨0,rfl,(by omega),rfl,rfl,rfl⟩ sB ?_
    rintro m_ env bx hp ⟨i,rfl,hi2,rfl,rfl,rfl⟩ ih
    by_cases hlt:i < 8
    · obtain⟨p,hp,hpm,hx⟩:=roots_get hJ hlt (by omega)
      refine At.rowSome 0 rfl (by omega) fun q hq=>?_
      subst hq
      have r:∀ {bx:Bx}{hp:List Seg},nth hp 0=some (Seg.row (some q) 137 1 P64.length c (n64s P64))→RdW ⟨w,kys [] []⟩ bx hp q (0+(i:Int).toNat * 1) [.int .u64 (p:Int)]:=fun {_ _} h=>RdW.row1 h (i:=i) (by simp only [n64s,List.getElem?_map,hp]; rfl) (by omega)
      have fR:∀ {S:Base}{bx:Bx}{hp:List Seg},CallOb Tryz.prog S bx hp 84 [.int .u64 (p:Int),.bool false] (v32 (rt32 p false)):=fun {_ _ _} w' _=>Tryz.root_w p false w' hpm
      refine At.go [true] [hR [.int .u64 ↑p],hC (.int .u32 ↑(rt32 p false).toNat)] rfl (by and_intros <;> first | exact r rfl | exact fR | exact decide_eq_true (by omega) | (rw [hlP]; omega) | exact oK) ?_
      have hput:putL (fillW J 8 i) (0+(i:Int).toNat * 1) [.int .u32 ((rt32 p false).toNat:Int)]=fillW J 8 (i+1):=by
        rw [show 0+(i:Int).toNat * 1=i by omega]; exact fillW_put hx (by omega)
      refine At.step0 [] rfl rfl rfl rfl trivial (OpOk.storeBlk 0 rfl rfl rfl rfl rfl rfl (by rw [fillW_len (by omega) (by omega)]; simp; omega) ?_)
      rw [hput]
      refine At.go [] [] rfl (by and_intros <;> first | exact trivial | exact oK) ?_
      exact At.weak (ih _ _ _ _ (by omega) ⟨i+1,rfl,by omega,rfl,rfl,rfl⟩) sB
    · obtain rfl:i=8:=by omega
      rw [fillW_all lJ,fillW_all lL,fillW_zero,fillW_zero,← z64_eq,← z8_eq]
      rw [eL,eJ]
      refine At.go [false] [] rfl (by and_intros <;> first | exact decide_eq_false (by omega) | exact⟨rfl,all1 rfl⟩ | exact all1 rfl | exact oK) ?_
      refine At.dr 4 ?_
      refine AtH.readsK [true,true,false,false] [false] [0,1] [hB 1,hB 0] rfl rfl (by and_intros <;> first | exact decide_eq_false (by omega) | exact⟨rfl,all1 rfl⟩ | exact all1 rfl | exact oK) rfl rfl (fuel:=2) ?_
      refine AtH.f1 2 rfl (OpOk.one true [] [hB 3] rfl (by first | exact decide_eq_false (by omega) | exact⟨rfl,all1 rfl⟩ | exact all1 rfl | exact oK) ⟨fun w hw=>hw.selK [true,true,false,false] [false],?_⟩)
      refine AtH.f1 3 rfl (OpOk.one true [] [hB 2] rfl (by first | exact decide_eq_false (by omega) | exact⟨rfl,all1 rfl⟩ | exact all1 rfl | exact oK) ⟨fun w hw=>hw.selK [true,true,false,false] [false],?_⟩)
      refine AtH.dn ?_
      refine At.go [] [] rfl (by and_intros <;> first | exact decide_eq_false (by omega) | exact⟨rfl,all1 rfl⟩ | exact all1 rfl | exact oK) ?_
      refine At.rt [] [] [hB 3,hB 2] Tryz.func43 ?_
      exact⟨rfl,rfl,rfl⟩
theorem Tryz.makeKey_w (w:World):Fun Tryz.prog 12 [] w (.agg ⟨w32s K64++w32s H0.l⟩):=by
  refine Tri.enter (bx:=[]) (hp:=[]) Tryz.func12 rfl (by kernel_rfl) rfl (Own.nil w) ?_
  have fC:∀ {S:Base}{bx:Bx}{hp:List Seg},CallOb Tryz.prog S bx hp 43 [] (.tuple #[.agg ⟨w32s K64⟩,.agg ⟨w32s H0.l⟩]):=fun {_ _ _} w' _=>Tryz.consts_w w'
  refine At.go [] [] rfl (by and_intros <;> first | exact fC | exact⟨rfl,all1 rfl⟩ | exact all1 rfl | exact oK) ?_
  refine At.al fun b0 hb0=>?_
  refine At.go [] [hC (.tuple { toList:=[.agg { toList:=.int .u32 ↑(BitVec.toNat 1116352408) :: .int .u32 ↑(BitVec.toNat 1899447441) :: .int .u32 ↑(BitVec.toNat 3049323471) :: .int .u32 ↑(BitVec.toNat 3921009573) :: .int .u32 ↑(BitVec.toNat 961987163) :: .int .u32 ↑(BitVec.toNat 1508970993) :: .int .u32 ↑(BitVec.toNat 2453635748) :: .int .u32 ↑(BitVec.toNat 2870763221) :: .int .u32 ↑(BitVec.toNat 3624381080) :: .int .u32 ↑(BitVec.toNat 310598401) :: .int .u32 ↑(BitVec.toNat 607225278) :: .int .u32 ↑(BitVec.toNat 1426881987) :: .int .u32 ↑(BitVec.toNat 1925078388) :: .int .u32 ↑(BitVec.toNat 2162078206) :: .int .u32 ↑(BitVec.toNat 2614888103) :: .int .u32 ↑(BitVec.toNat 3248222580) :: .int .u32 ↑(BitVec.toNat 3835390401) :: .int .u32 ↑(BitVec.toNat 4022224774) :: .int .u32 ↑(BitVec.toNat 264347078) :: .int .u32 ↑(BitVec.toNat 604807628) :: .int .u32 ↑(BitVec.toNat 770255983) :: .int .u32 ↑(BitVec.toNat 1249150122) :: .int .u32 ↑(BitVec.toNat 1555081692) :: .int .u32 ↑(BitVec.toNat 1996064986) :: .int .u32 ↑(BitVec.toNat 2554220882) :: .int .u32 ↑(BitVec.toNat 2821834349) :: .int .u32 ↑(BitVec.toNat 2952996808) :: .int .u32 ↑(BitVec.toNat 3210313671) :: .int .u32 ↑(BitVec.toNat 3336571891) :: .int .u32 ↑(BitVec.toNat 3584528711) :: .int .u32 ↑(BitVec.toNat 113926993) :: .int .u32 ↑(BitVec.toNat 338241895) :: .int .u32 ↑(BitVec.toNat 666307205) :: .int .u32 ↑(BitVec.toNat 773529912) :: v32 1294757372 :: List.map v32 (1396182291 :: 1695183700 :: 1986661051 :: 2177026350 :: 2456956037 :: have y:=3516065817 :: 3600352804 :: 4094571909 :: 275423344 :: have y:=have y:=[2428436474,2756734187,3204031479,3329325298]; 1955562222 :: 2024104815 :: 2227730452 :: 2361852424 :: y; have y:=958139571 :: 1322822218 :: 1537002063 :: 1747873779 :: y; 430227734 :: 506948616 :: 659060556 :: 883997877 :: y; 2730485921 :: 2820302411 :: 3259730800 :: 3345764771 :: y) },.agg ⟨[.int .u32 ↑H0.a.toNat,.int .u32 ↑H0.b.toNat,.int .u32 ↑H0.c.toNat,.int .u32 ↑H0.d.toNat,.int .u32 ↑H0.e.toNat,.int .u32 ↑H0.f.toNat,.int .u32 ↑H0.g.toNat,.int .u32 ↑H0.h.toNat]⟩] })] rfl (by and_intros <;> first | exact fC | exact⟨rfl,all1 rfl⟩ | exact all1 rfl | exact oK) ?_
  refine At.al fun b1 hb1=>?_
  refine At.al fun b2 hb2=>?_
  refine At.go [] [hB 1,hB 0,hB 1,hB 0,hB 2] rfl (by and_intros <;> first | exact fC | exact⟨rfl,all1 rfl⟩ | exact all1 rfl | exact oK) ?_
  refine At.rt [] [] [hB 2] Tryz.func12 ?_
  exact⟨rfl,rfl,rfl⟩
theorem Tryz.rturn_w (x:BitVec 32) (k:Nat) (w:World) (hk:1≤k∧k≤31):Fun Tryz.prog 132 [v32 x,.int .i64 k] w (v32 (rot x k)):=by
  have e1:IntKind.u64.wrap (k:Int)=(k:Int):=wrap_of_in (by simp only [inK]; omega)
  have e2:IntKind.u64.wrap (IntKind.i64.wrap (32 - (k:Int)))=((32 - k:Nat):Int):=by
    rw [wrap_of_in (show inK .i64 (32 - (k:Int)) by simp only [inK]; omega),wrap_of_in (show inK .u64 (32 - (k:Int)) by simp only [inK]; omega)]; omega
  refine Tri.enter (bx:=[]) (hp:=[]) Tryz.func132 rfl (by kernel_rfl) rfl (Own.nil w) ?_
  refine At.gw [] [] rfl (by and_intros <;> first | (rw [e1]; omega) | (rw [e2]; omega) | exact oK) ?_
  rw [e1,e2,m32 k (by omega),m32 (32 - k) (by omega),w_shr,w_shl,w_or,rot_comm]
  refine At.rt [] [] [] Tryz.func132 ?_
  exact⟨rfl,rfl,rfl⟩
theorem Tryz.rmove_w (x:BitVec 32) (k:Nat) (w:World) (hk:k≤31):Fun Tryz.prog 133 [v32 x,.int .i64 k] w (v32 (x >>> k)):=by
  have e1:IntKind.u64.wrap (k:Int)=(k:Int):=wrap_of_in (by simp only [inK]; omega)
  refine Tri.enter (bx:=[]) (hp:=[]) Tryz.func133 rfl (by kernel_rfl) rfl (Own.nil w) ?_
  refine At.gw [] [] rfl (by and_intros <;> first | (rw [e1]; omega) | exact oK) ?_
  rw [e1,m32 k (by omega),w_shr]
  refine At.rt [] [] [] Tryz.func133 ?_
  exact⟨rfl,rfl,rfl⟩
def fillP (W:List (BitVec 32)) (n i:Nat) (v:Value):List Value:=w32s (W.take i)++v :: List.replicate (n - 1 - i) (v32 0)
theorem fillP_zero {W:List (BitVec 32)}{n i:Nat}(h:i < n):fillW W n i=fillP W n i (v32 0):=by
  unfold fillW fillP
  rw [show n - i=(n - 1 - i)+1 by omega,List.replicate_succ]
theorem fillP_len {W:List (BitVec 32)}{n i:Nat}{v:Value}(h:i≤W.length) (hi:i < n):(fillP W n i v).length=n:=by
  unfold fillP; rw [List.length_append,w32s_len,List.length_take,List.length_cons,List.length_replicate]; omega
theorem fillP_get {W:List (BitVec 32)}{n i:Nat}{v:Value}(h:i≤W.length):(fillP W n i v)[i]?=some v:=by
  unfold fillP
  rw [List.getElem?_append_right (by rw [w32s_len,List.length_take]; omega),w32s_len,List.length_take,show i - min i W.length=0 by omega]; rfl
theorem putL_mid:∀ (a:List Value) (x y:Value) (b:List Value),putL (a++x :: b) a.length [y]=a++y :: b:=by
  intro a x y b
  rw [putL_eq [y] _ _ (by simp)]
  simp
theorem fillP_put {W:List (BitVec 32)}{n i:Nat}{v u:Value}(h:i≤W.length):putL (fillP W n i v) i [u]=fillP W n i u:=by
  unfold fillP
  have e:(w32s (W.take i)).length=i:=by rw [w32s_len,List.length_take]; omega
  have:=putL_mid (w32s (W.take i)) v u (List.replicate (n - 1 - i) (v32 0))
  rwa [e] at this
theorem fillP_next {W:List (BitVec 32)}{n i:Nat}{x:BitVec 32}(h:W[i]?=some x) (hi:i < n):fillP W n i (v32 x)=fillW W n (i+1):=by
  rw [← fillW_put h hi,fillP_zero hi,fillP_put (by have:=(List.getElem?_eq_some_iff.1 h).1; omega)]
attribute [local irreducible] fillP
def partN (p:List UInt8) (i:Nat):Nat→Nat
  | 0 => 0
  | j+1 => partN p i j * 256+(at8 p (4 * i+j)).toNat
theorem partN_lt (p:List UInt8) (i:Nat):∀ j,j < 4→partN p i j * 256+255≤4294967295:=by
  have h:=fun j=>(at8 p (4 * i+j)).toNat_lt
  intro j hj
  have h0:=h 0; have h1:=h 1; have h2:=h 2
  match j,hj with
  | 0,_ => unfold partN; omega
  | 1,_ => unfold partN; unfold partN; omega
  | 2,_ => unfold partN; unfold partN; unfold partN; omega
  | 3,_ => unfold partN; unfold partN; unfold partN; unfold partN; omega
theorem partN_four (p:List UInt8) (i:Nat):(.int .u32 (partN p i 4:Int):Value)=v32 (wordAt p i):=by
  have:=word4_lt (at8 p (4 * i)) (at8 p (4 * i+1)) (at8 p (4 * i+2)) (at8 p (4 * i+3))
  unfold v32 wordAt word4
  rw [BitVec.toNat_ofNat,Nat.mod_eq_of_lt (by omega)]
  show Value.int .u32 (((((0 * 256+(at8 p (4 * i+0)).toNat) * 256+(at8 p (4 * i+1)).toNat) * 256+(at8 p (4 * i+2)).toNat) * 256+(at8 p (4 * i+3)).toNat:Nat):Int)=_
  rw [Nat.zero_mul,Nat.zero_add,Nat.add_zero]
theorem Tryz.digest_w2 (s:List UInt8) (w:World) (hs:s.length≤1000000):Fun Tryz.prog 113 [.agg ⟨w32s K64++w32s H0.l⟩,str s] w (str (shaH s)):=by
  have hbl:(bl ⟨s.toArray⟩).length=s.length:=by rw [bl_of]
  obtain⟨KH,hKH⟩:∃ KH,w32s K64++w32s H0.l=KH:=⟨_,rfl⟩
  have hKl:KH.length=72:=by rw [← hKH]; rfl
  rw [hKH]
  refine Tri.enter (bx:=[]) (hp:=[]) Tryz.func113 rfl (by kernel_rfl) rfl (Own.nil w) ?_
  refine At.go [] [] rfl (by and_intros <;> first | exact trivial | exact oK) ?_
  refine At.bo fun b2 hb2=>?_
  refine At.go [] [] rfl (by and_intros <;> first | exact trivial | exact oK) ?_
  refine At.step [] rfl rfl rfl rfl rfl trivial (OpOk.toBytes rfl rfl rfl rfl rfl (by rw [bl_of]; omega) fun g0 c0=>?_)
  rw [bl_of]
  refine At.go [] [] rfl (by and_intros <;> first | exact trivial | exact oK) ?_
  refine At.a1 0 1 1 fun b33 a34 c34=>?_
  refine At.go [] [] rfl (by and_intros <;> first | exact trivial | exact oK) ?_
  rw [show u8s s++[.int .u8 128]=u8s (s++[128]) by simp [u8s]]
  have hpz:padZ s.length=(119 - s.length % 64) % 64:=rfl
  refine At.loop (env0:=[(1,.string { data:=s.toArray }),(2,.pointer (some ⟨b2,0,none⟩)),(5,.slice (svA a34) (s.length+1) c34)]) (fun m_ env bx hp => ∃ (i:Nat) (T:List UInt8) (g:Option Nat) (c:Nat),m_=padZ s.length - i∧(i≤padZ s.length)∧(T=s++128 :: List.replicate i 0)∧(T.length=s.length+1+i)∧env=[(1,.string { data:=s.toArray }),(2,.pointer (some ⟨b2,0,none⟩)),(5,sv g (s.length+1+i) c)]∧bx=[(b2,36,KH)]∧hp=[Seg.row g 5 1 (s.length+1+i) c (u8s T)]) rfl
    ⟨0,s++[128],a34,c34,rfl,(by omega),(rfl),(by simp),rfl,rfl,rfl⟩ sB ?_
  rintro m_ env bx hp ⟨i,T,g,c,rfl,hi,hT,hTl,rfl,rfl,rfl⟩ ih
  by_cases hlt:i < padZ s.length
  · refine At.go [true] [] rfl (by and_intros <;> first | (rw [Int.tmod_eq_emod_of_nonneg (by omega)]; exact decide_eq_true (by omega)) | exact oK) ?_
    refine At.a1 0 1 1 fun b40 a41 c41=>?_
    refine At.go [] [] rfl (by and_intros <;> first | (rw [Int.tmod_eq_emod_of_nonneg (by omega)]; exact decide_eq_true (by omega)) | exact oK) ?_
    rw [show u8s T++[.int .u8 0]=u8s (T++[0]) from u8s_snoc T 0]
    exact At.weak (ih _ _ _ _ (by omega) ⟨i+1,T++[0],a41,c41,rfl,by omega,by rw [hT,List.replicate_succ']; simp,by rw [List.length_append,hTl]; rfl,rfl,rfl,rfl⟩) sB
  obtain rfl:i=padZ s.length:=by omega
  refine At.go [false] [] rfl (by and_intros <;> first | (rw [Int.tmod_eq_emod_of_nonneg (by omega)]; exact decide_eq_false (by omega)) | exact oK) ?_
  rw [← hTl]
  obtain⟨N,hN⟩:∃ N,8 * s.length=N:=⟨_,rfl⟩
  rw [bl_of,show (s.length:Int) * 8=(N:Int) by omega]
  obtain⟨M,hM⟩:∃ M,T++beB N 8=M:=⟨_,rfl⟩
  have hMp:M=s++padB s.length:=by
    rw [← hM,hT]; unfold padB; rw [Nat.mod_eq_of_lt (by omega),hN]; simp
  refine At.loop (env0:=[(2,.pointer (some ⟨b2,0,none⟩)),(5,.slice (svA g) T.length c),(6,.int .u64 ↑N),(7,.int .i64 0)]) (fun m_ env bx hp => ∃ (k:Nat) (L:List UInt8) (g:Option Nat) (c:Nat),m_=k+1∧(k≤8)∧(L++beB N k=M)∧(L.length≤1000200 - k)∧env=[(2,.pointer (some ⟨b2,0,none⟩)),(5,sv g L.length c),(6,.int .u64 ↑N),(7,.int .i64 (8 - (k:Int)))]∧bx=[(b2,36,KH)]∧hp=[Seg.row g 5 1 L.length c (u8s L)]) rfl
    ⟨8,T,g,c,rfl,(by omega),(hM),(by omega),rfl,rfl,rfl⟩ sB ?_
  rintro m_ env bx hp ⟨k,L,g,c,rfl,hk,hL,hLl,rfl,rfl,rfl⟩ ih1
  cases k with
  | succ k =>
    refine At.go [true] [] rfl (by and_intros <;> first | exact decide_eq_true (by omega) | exact oK) ?_
    refine At.loop (env0:=[(2,.pointer (some ⟨b2,0,none⟩)),(5,.slice (svA g) L.length c),(6,.int .u64 ↑N),(7,.int .i64 (8 - ↑(k+1))),(8,.int .u64 ↑N),(9,.int .i64 (8 - ↑(k+1)))]) (fun m_ env bx hp => ∃ (e:Nat) (D:Nat) (x:Int),m_=k - e∧(e≤k)∧(D=N / 256 ^ e)∧(x=7 - (k:Int)+e)∧(D≤8000000)∧env=[(2,.pointer (some ⟨b2,0,none⟩)),(5,.slice (svA g) L.length c),(6,.int .u64 ↑N),(7,.int .i64 (8 - ↑(k+1))),(8,.int .u64 (D:Int)),(9,.int .i64 x)]∧bx=[(b2,36,KH)]∧hp=[Seg.row g 5 1 L.length c (u8s L)]) rfl
      ⟨0,N,8 - ((k+1:Nat):Int),rfl,(by omega),(by rw [Nat.pow_zero,Nat.div_one]),(by omega),(by omega),rfl,rfl,rfl⟩ sB ?_
    rintro m_ env bx hp ⟨e,D,x,rfl,he,hD,hx,hDb,rfl,rfl,rfl⟩ ih2
    by_cases hlt:e < k
    · refine At.go [true] [] rfl (by and_intros <;> first | exact decide_eq_true (by omega) | omega | exact oK) ?_
      rw [show (D:Int) / 256=((D / 256:Nat):Int) by omega]
      exact At.weak (ih2 _ _ _ _ (by omega) ⟨e+1,D / 256,x+1,rfl,by omega,by rw [hD,Nat.div_div_eq_div_mul,Nat.pow_succ],by omega,by omega,rfl,rfl,rfl⟩) sB
    · obtain rfl:e=k:=by omega
      refine At.go [false] [] rfl (by and_intros <;> first | exact decide_eq_false (by omega) | omega | exact oK) ?_
      refine At.a1 0 1 1 fun b62 a63 c63=>?_
      refine At.go [] [] rfl (by and_intros <;> first | exact decide_eq_false (by omega) | omega | exact oK) ?_
      have hdb:(D:Int) % 256=((UInt8.ofNat (N / 256 ^ e % 256)).toNat:Int):=by
        rw [← hD]; simp
      rw [hdb,u8s_snoc,show L.length+1=(L++[UInt8.ofNat (N / 256 ^ e % 256)]).length by simp,show (8:Int) - ((e+1:Nat):Int)+1=8 - (e:Int) by omega]
      exact At.weak (ih1 _ _ _ _ (by omega) ⟨e,L++[UInt8.ofNat (N / 256 ^ e % 256)],a63,c63,rfl,by omega,by rw [← hL,beB]; simp,by rw [List.length_append,List.length_singleton]; omega,rfl,rfl,rfl⟩) sB
  | zero =>
    have rH:∀ {bx:Bx}{hp:List Seg}{i:Nat},nth bx i=some (b2,36,KH)→RdW ⟨w,kys [] []⟩ bx hp b2 64 [v32 H0.a,v32 H0.b,v32 H0.c,v32 H0.d,v32 H0.e,v32 H0.f,v32 H0.g,v32 H0.h]:=fun {_ _ _} h=>RdW.blk h fun j u hu=>by
      rw [← hKH,List.getElem?_append_right (by rw [w32s_len,K64_len]; omega),w32s_len,K64_len,show 64+j - 64=j by omega]
      exact hu
    refine At.go [false] [hR [v32 H0.a,v32 H0.b,v32 H0.c,v32 H0.d,v32 H0.e,v32 H0.f,v32 H0.g,v32 H0.h]] rfl (by and_intros <;> first | exact decide_eq_false (by omega) | exact rH (i:=0) rfl | exact oK) ?_
    refine At.al fun b10 hb10=>?_
    refine At.go [] [hB 0] rfl (by and_intros <;> first | exact⟨rfl,all1 rfl⟩ | exact all1 rfl | exact oK) ?_
    rw [show beB N 0=[] from rfl,List.append_nil] at hL
    subst hL
    have hpl:=padB_len s.length
    have hMl:L.length=s.length+(padB s.length).length:=by rw [hMp,List.length_append]
    have hH0:(⟨H0.a,H0.b,H0.c,H0.d,H0.e,H0.f,H0.g,H0.h⟩:St8)=H0:=rfl
    have hres:shaH s=outB (blkN K64 (L.length / 64) H0 L):=by unfold shaH shaB; rw [hMl,hMp]
    rw [hres]
    have rK:∀ {bx:Bx}{hp:List Seg}{m i:Nat}(_:i < 64) (off:Nat),off=i→nth bx m=some (b2,36,KH)→RdW ⟨w,kys [] []⟩ bx hp b2 off [v32 (at32 K64 i)]:=fun {_ _ _ _} hi off ho h=>by
      subst ho
      refine RdW.blk1 h ?_
      rw [← hKH,List.getElem?_append_left (by rw [w32s_len,K64_len]; omega)]
      exact w32s_get (at32_get (by rw [K64_len]; omega))
    clear hKH hres
    generalize H0=H at hH0
    refine At.loop (env0:=[(2,.pointer (some ⟨b2,0,none⟩)),(5,.slice (svA g) L.length c),(10,.pointer (some ⟨b10,0,none⟩)),(11,.int .i64 0)]) (fun m_ env bx hp => ∃ (i:Nat) (x1:BitVec 32) (x2:BitVec 32) (x3:BitVec 32) (x4:BitVec 32) (x5:BitVec 32) (x6:BitVec 32) (x7:BitVec 32) (x8:BitVec 32),m_=L.length / 64 - i∧(i≤L.length / 64)∧(blkN K64 i H L=⟨x1,x2,x3,x4,x5,x6,x7,x8⟩)∧env=[(2,.pointer (some ⟨b2,0,none⟩)),(5,.slice (svA g) L.length c),(10,.pointer (some ⟨b10,0,none⟩)),(11,.int .i64 ((64 * i:Nat):Int))]∧bx=[(b10,34,[v32 x1,v32 x2,v32 x3,v32 x4,v32 x5,v32 x6,v32 x7,v32 x8]),(b2,36,KH)]∧hp=[Seg.row g 5 1 L.length c (u8s L)]) rfl
      ⟨0,H.a,H.b,H.c,H.d,H.e,H.f,H.g,H.h,rfl,(by omega),(hH0.symm),rfl,rfl,rfl⟩ sB ?_
    rintro m_ env bx hp ⟨i,x1,x2,x3,x4,x5,x6,x7,x8,rfl,hi2,hb,rfl,rfl,rfl⟩ ih3
    by_cases hlt:i < L.length / 64
    · refine At.rowSome 0 rfl (by omega) fun q hq=>?_
      subst hq
      obtain⟨p,hp⟩:∃ p,(L.drop (64 * i)).take 64=p:=⟨_,rfl⟩
      have hpl:p.length=64:=by rw [← hp,List.length_take,List.length_drop]; omega
      have hat:∀ j,j < 64→L[64 * i+j]?=some (at8 p j):=fun j hj=>by
        rw [← at8_get (show j < p.length by omega),← hp,List.getElem?_take_of_lt hj,List.getElem?_drop]
      have hWl:=wsx_len p 48
      have hlo:=fun i (h:i < 16)=>wsx_lo (p:=p) h
      have hhi:=fun i (h:16≤i) (h2:i < 64)=>wsx_at (p:=p) h h2
      obtain⟨y1,y2,y3,y4,y5,y6,y7,y8,hy⟩:∃ y1 y2 y3 y4 y5 y6 y7 y8,mixS K64 ⟨x1,x2,x3,x4,x5,x6,x7,x8⟩ p=⟨y1,y2,y3,y4,y5,y6,y7,y8⟩:=⟨_,_,_,_,_,_,_,_,rfl⟩
      have hb3:blkN K64 (i+1) H L=⟨y1,y2,y3,y4,y5,y6,y7,y8⟩:=by
        rw [blkN_add,hb,← hy,← hp]; rfl
      have hmx:mixS K64 ⟨x1,x2,x3,x4,x5,x6,x7,x8⟩ p=addS (rnds K64 (wsx p 48) 64 ⟨x1,x2,x3,x4,x5,x6,x7,x8⟩) ⟨x1,x2,x3,x4,x5,x6,x7,x8⟩:=rfl
      rw [hmx] at hy
      clear hmx
      generalize wsx p 48=W at hWl hlo hhi hy
      refine At.go [true] [] rfl (by and_intros <;> first | exact decide_eq_true (by omega) | exact oK) ?_
      refine At.al fun b12 hb12=>?_
      refine At.go [] [] rfl (by and_intros <;> first | exact decide_eq_true (by omega) | exact oK) ?_
      rw [z64_eq,← fillW_zero W 64]
      refine At.loop (env0:=[(2,.pointer (some ⟨b2,0,none⟩)),(5,.slice (some ⟨q,0,none⟩) L.length c),(10,.pointer (some ⟨b10,0,none⟩)),(11,.int .i64 ↑(64 * i)),(12,.pointer (some ⟨b12,0,none⟩)),(13,.int .i64 0)]) (fun m_ env bx hp => ∃ (m:Nat),m_=64 - m∧(m≤64)∧env=[(2,.pointer (some ⟨b2,0,none⟩)),(5,.slice (some ⟨q,0,none⟩) L.length c),(10,.pointer (some ⟨b10,0,none⟩)),(11,.int .i64 ↑(64 * i)),(12,.pointer (some ⟨b12,0,none⟩)),(13,.int .i64 m)]∧bx=[(b12,33,fillW W 64 m),(b10,34,[.int .u32 ↑x1.toNat,.int .u32 ↑x2.toNat,.int .u32 ↑x3.toNat,.int .u32 ↑x4.toNat,.int .u32 ↑x5.toNat,.int .u32 ↑x6.toNat,.int .u32 ↑x7.toNat,.int .u32 ↑x8.toNat]),(b2,36,KH)]∧hp=[Seg.row (some q) 5 1 L.length c (u8s L)]) rfl
        ⟨0,rfl,(by omega),rfl,rfl,rfl⟩ sB ?_
      rintro m_ env bx hp ⟨m,rfl,hm,rfl,rfl,rfl⟩ ih4
      by_cases hm64:m < 64
      · have hx:W[m]?=some (at32 W m):=at32_get (by omega)
        by_cases hm16:m < 16
        · refine At.go [true,true] [] rfl (by and_intros <;> first | exact decide_eq_true (by omega) | exact oK) ?_
          rw [fillP_zero hm64]
          refine At.loop (env0:=[(2,.pointer (some ⟨b2,0,none⟩)),(5,.slice (some ⟨q,0,none⟩) L.length c),(10,.pointer (some ⟨b10,0,none⟩)),(11,.int .i64 ↑(64 * i)),(12,.pointer (some ⟨b12,0,none⟩)),(13,.int .i64 ↑m),(14,.int .i64 0)]) (fun m_ env bx hp => ∃ (j:Nat),m_=4 - j∧(j≤4)∧env=[(2,.pointer (some ⟨b2,0,none⟩)),(5,.slice (some ⟨q,0,none⟩) L.length c),(10,.pointer (some ⟨b10,0,none⟩)),(11,.int .i64 ↑(64 * i)),(12,.pointer (some ⟨b12,0,none⟩)),(13,.int .i64 ↑m),(14,.int .i64 j)]∧bx=[(b12,33,fillP W 64 m (.int .u32 (partN p m j:Int))),(b10,34,[.int .u32 ↑x1.toNat,.int .u32 ↑x2.toNat,.int .u32 ↑x3.toNat,.int .u32 ↑x4.toNat,.int .u32 ↑x5.toNat,.int .u32 ↑x6.toNat,.int .u32 ↑x7.toNat,.int .u32 ↑x8.toNat]),(b2,36,KH)]∧hp=[Seg.row (some q) 5 1 L.length c (u8s L)]) rfl
            ⟨0,rfl,(by omega),rfl,rfl,rfl⟩ sB ?_
          rintro m_ env bx hp ⟨j,rfl,hj,rfl,rfl,rfl⟩ ih5
          by_cases hj4:j < 4
          · have hpn:=partN_lt p m j hj4
            have hby:=(at8 p (4 * m+j)).toNat_lt
            have rP:∀ {bx:Bx}{hp:List Seg},nth bx 0=some (b12,33,fillP W 64 m (.int .u32 (partN p m j:Int)))→RdW ⟨w,kys [] []⟩ bx hp b12 (0+(m:Int).toNat * 1) [.int .u32 (partN p m j:Int)]:=fun {_ _} h=>by
              rw [show 0+(m:Int).toNat * 1=m by omega]; exact RdW.blk1 h (fillP_get (by omega))
            have rB:∀ {bx:Bx}{hp:List Seg},nth hp 0=some (Seg.row (some q) 5 1 L.length c (u8s L))→RdW ⟨w,kys [] []⟩ bx hp q (0+(((64 * i:Nat):Int)+4 * (m:Int)+(j:Int)).toNat * 1) [.int .u8 (at8 p (4 * m+j)).toNat]:=fun {_ _} h=>RdW.row1 h (i:=64 * i+(4 * m+j)) (by rw [u8s,List.getElem?_map,hat _ (by omega)]; rfl) (by omega)
            have hput:putL (fillP W 64 m (.int .u32 (partN p m j:Int))) (0+(m:Int).toNat * 1) [.int .u32 ((partN p m j:Int) * 256+((at8 p (4 * m+j)).toNat:Int))]=fillP W 64 m (.int .u32 (partN p m (j+1):Int)):=by
              rw [show 0+(m:Int).toNat * 1=m by omega,fillP_put (by omega),show (partN p m j:Int) * 256+((at8 p (4 * m+j)).toNat:Int)=(partN p m (j+1):Int) by rw [partN]; omega]
            refine At.go [true] [] rfl (by and_intros <;> first | exact decide_eq_true (by omega) | exact oK) ?_
            refine At.dr 18 ?_
            refine AtD.pu [0,1,5,6,7,10] 12 rfl oK ?_
            refine AtD.pu [2,8] 10 rfl oK ?_
            refine AtD.pu [9] 9 rfl oK ?_
            refine AtD.pu [11] 8 rfl oK ?_
            refine AtD.pu [12] 7 rfl oK ?_
            refine AtD.lx [3,4,13,14,15,16] 1 [] [hR [.int .u32 (partN p m j:Int)],hR [.int .u8 (at8 p (4 * m+j)).toNat]] rfl (by and_intros <;> first | exact rP rfl | exact rB rfl | exact oK) ?_
            refine AtD.fork1 17 (by kernel_rfl) (StepD.by0 [] rfl rfl rfl trivial (OpOk.storeBlk 0 rfl rfl rfl rfl rfl rfl (by rw [fillP_len (by omega) (by omega)]; simp; omega) ?_))
            rw [hput]
            refine AtD.dn ?_
            refine At.go [] [] rfl (by and_intros <;> first | exact trivial | exact oK) ?_
            exact At.weak (ih5 _ _ _ _ (by omega) ⟨j+1,rfl,by omega,rfl,rfl,rfl⟩) sB
          · obtain rfl:j=4:=by omega
            rw [partN_four,← hlo m hm16,fillP_next hx hm64]
            refine At.go [false] [] rfl (by and_intros <;> first | exact decide_eq_false (by omega) | exact oK) ?_
            exact At.weak (ih4 _ _ _ _ (by omega) ⟨m+1,rfl,by omega,rfl,rfl,rfl⟩) sB
        · have r:∀ {bx:Bx}{hp:List Seg}(d:Nat),1≤d→d≤16→nth bx 0=some (b12,33,fillW W 64 m)→∀ off,off=m - d→RdW ⟨w,kys [] []⟩ bx hp b12 off [v32 (at32 W (m - d))]:=fun {_ _} d h1 h2 h off ho=>by
            subst ho; exact RdW.blk1 h (fillW_get (by omega) (by omega))
          have fT:∀ {S:Base}{bx:Bx}{hp:List Seg}(x:BitVec 32) (k:Nat) (_:1≤k∧k≤31),CallOb Tryz.prog S bx hp 132 [v32 x,.int .i64 k] (v32 (rot x k)):=fun {_ _ _} x k hk w' _=>Tryz.rturn_w x k w' hk
          have fV:∀ {S:Base}{bx:Bx}{hp:List Seg}(x:BitVec 32) (k:Nat) (_:k≤31),CallOb Tryz.prog S bx hp 133 [v32 x,.int .i64 k] (v32 (x >>> k)):=fun {_ _ _} x k hk w' _=>Tryz.rmove_w x k w' hk
          have hput:putL (fillW W 64 m) (0+(m:Int).toNat * 1) [.int .u32 (IntKind.u32.wrap (IntKind.u32.wrap (IntKind.u32.wrap (((at32 W (m - 16)).toNat:Int)+(at32 W (m - 7)).toNat)+ixor .u32 (ixor .u32 (rot (at32 W (m - 15)) 7).toNat (rot (at32 W (m - 15)) 18).toNat) (at32 W (m - 15) >>> 3).toNat)+ixor .u32 (ixor .u32 (rot (at32 W (m - 2)) 17).toNat (rot (at32 W (m - 2)) 19).toNat) (at32 W (m - 2) >>> 10).toNat))]=fillW W 64 (m+1):=by
            have hnew:=hhi m (by omega) hm64
            rw [show 0+(m:Int).toNat * 1=m by omega,w_xor,w_xor,w_xor,w_xor,w_add,w_add,w_add]
            have e:at32 W (m - 16)+at32 W (m - 7)+(rot (at32 W (m - 15)) 7 ^^^ rot (at32 W (m - 15)) 18 ^^^ at32 W (m - 15) >>> 3)+(rot (at32 W (m - 2)) 17 ^^^ rot (at32 W (m - 2)) 19 ^^^ at32 W (m - 2) >>> 10)=at32 W m:=hnew.symm
            rw [e]; exact fillW_put hx (by omega)
          refine At.go [true,false] [] rfl (by and_intros <;> first | exact decide_eq_true (by omega) | exact decide_eq_false (by omega) | exact oK) ?_
          refine At.dr 10 ?_
          refine AtD.pu [0,4] 8 rfl oK ?_
          refine AtD.pu [1,5] 6 rfl oK ?_
          refine AtD.pu [2,6] 4 rfl oK ?_
          refine AtD.lx [3,7,8,9] 0 [] [hR [v32 (at32 W (m - 15))],hR [v32 (at32 W (m - 2))]] rfl (by and_intros <;> first | exact r 15 (by decide) (by decide) rfl _ (by omega) | exact r 2 (by decide) (by decide) rfl _ (by omega) | exact oK) ?_
          refine AtD.dn ?_
          refine At.go [] [] rfl trivial ?_
          refine At.dr 30 ?_
          refine AtD.pu [0,1,5,10,12,15,19,21,24] 21 rfl oK ?_
          refine AtD.pu [2,6] 19 rfl oK ?_
          refine AtD.pu [3,7] 17 rfl oK ?_
          refine AtD.lxw [4,8,9,11,13,14,16,17,18,20,22,23,25,26,27,28] 1 [] [hR [v32 (at32 W (m - 16))],hR [v32 (at32 W (m - 7))],hC (v32 (rot (at32 W (m - 15)) 7)),hC (v32 (rot (at32 W (m - 15)) 18)),hC (v32 (at32 W (m - 15) >>> 3)),hC (v32 (rot (at32 W (m - 2)) 17)),hC (v32 (rot (at32 W (m - 2)) 19)),hC (v32 (at32 W (m - 2) >>> 10))] rfl (by and_intros <;> first | exact r 16 (by decide) (by decide) rfl _ (by omega) | exact r 7 (by decide) (by decide) rfl _ (by omega) | exact fT _ 7 (by decide) | exact fT _ 18 (by decide) | exact fT _ 17 (by decide) | exact fT _ 19 (by decide) | exact fV _ 3 (by decide) | exact fV _ 10 (by decide) | exact oK) ?_
          refine AtD.fork1 29 (by kernel_rfl) (StepD.by0 [] rfl rfl rfl trivial (OpOk.storeBlk 0 rfl rfl rfl rfl rfl rfl (by rw [fillW_len (by omega) (by omega)]; simp; omega) ?_))
          rw [hput]
          refine AtD.dn ?_
          refine At.go [] [] rfl (by and_intros <;> first | exact trivial | exact oK) ?_
          exact At.weak (ih4 _ _ _ _ (by omega) ⟨m+1,rfl,by omega,rfl,rfl,rfl⟩) sB
      · obtain rfl:m=64:=by omega
        refine At.go [false] [] rfl (by and_intros <;> first | exact decide_eq_false (by omega) | exact oK) ?_
        refine At.qt [] [hB 1,hB 1,hB 1,hB 1,hB 1,hB 1,hB 1,hB 1] rfl rfl (by and_intros <;> first | exact decide_eq_false (by omega) | exact oK) ?_
        refine At.go [] [] rfl (by and_intros <;> first | exact decide_eq_false (by omega) | exact oK) ?_
        have fT:∀ {S:Base}{bx:Bx}{hp:List Seg}(x:BitVec 32) (k:Nat) (_:1≤k∧k≤31),CallOb Tryz.prog S bx hp 132 [v32 x,.int .i64 k] (v32 (rot x k)):=fun {_ _ _} x k hk w' _=>Tryz.rturn_w x k w' hk
        refine At.loop (env0:=[(2,.pointer (some ⟨b2,0,none⟩)),(5,.slice (some ⟨q,0,none⟩) L.length c),(10,.pointer (some ⟨b10,0,none⟩)),(11,.int .i64 ↑(64 * i)),(12,.pointer (some ⟨b12,0,none⟩)),(17,.int .u32 ↑x1.toNat),(18,.int .u32 ↑x2.toNat),(19,.int .u32 ↑x3.toNat),(20,.int .u32 ↑x4.toNat),(21,.int .u32 ↑x5.toNat),(22,.int .u32 ↑x6.toNat),(23,.int .u32 ↑x7.toNat),(24,.int .u32 ↑x8.toNat),(25,.int .i64 0)]) (fun m_ env bx hp => ∃ (r:Nat) (z1:BitVec 32) (z2:BitVec 32) (z3:BitVec 32) (z4:BitVec 32) (z5:BitVec 32) (z6:BitVec 32) (z7:BitVec 32) (z8:BitVec 32),m_=64 - r∧(r≤64)∧(rnds K64 W r ⟨x1,x2,x3,x4,x5,x6,x7,x8⟩=⟨z1,z2,z3,z4,z5,z6,z7,z8⟩)∧env=[(2,.pointer (some ⟨b2,0,none⟩)),(5,.slice (some ⟨q,0,none⟩) L.length c),(10,.pointer (some ⟨b10,0,none⟩)),(11,.int .i64 ↑(64 * i)),(12,.pointer (some ⟨b12,0,none⟩)),(17,v32 z1),(18,v32 z2),(19,v32 z3),(20,v32 z4),(21,v32 z5),(22,v32 z6),(23,v32 z7),(24,v32 z8),(25,.int .i64 r)]∧bx=[(b12,33,fillW W 64 64),(b10,34,[.int .u32 ↑x1.toNat,.int .u32 ↑x2.toNat,.int .u32 ↑x3.toNat,.int .u32 ↑x4.toNat,.int .u32 ↑x5.toNat,.int .u32 ↑x6.toNat,.int .u32 ↑x7.toNat,.int .u32 ↑x8.toNat]),(b2,36,KH)]∧hp=[Seg.row (some q) 5 1 L.length c (u8s L)]) rfl
          ⟨0,x1,x2,x3,x4,x5,x6,x7,x8,rfl,(by omega),(rfl),rfl,rfl,rfl⟩ sB ?_
        rintro m_ env bx hp ⟨r,z1,z2,z3,z4,z5,z6,z7,z8,rfl,hr,hz,rfl,rfl,rfl⟩ ih6
        by_cases hr64:r < 64
        · obtain⟨T,hT⟩:∃ T,rT ⟨z1,z2,z3,z4,z5,z6,z7,z8⟩ (at32 K64 r) (at32 W r)=T:=⟨_,rfl⟩
          obtain⟨U,hU'⟩:∃ U,rU ⟨z1,z2,z3,z4,z5,z6,z7,z8⟩=U:=⟨_,rfl⟩
          have hz2:rnds K64 W (r+1) ⟨x1,x2,x3,x4,x5,x6,x7,x8⟩=⟨T+U,z1,z2,z3,z4+T,z5,z6,z7⟩:=by
            show rnd (rnds K64 W r ⟨x1,x2,x3,x4,x5,x6,x7,x8⟩) (at32 K64 r) (at32 W r)=_
            rw [hz,← hT,← hU']; rfl
          have hTT:IntKind.u32.wrap (IntKind.u32.wrap (IntKind.u32.wrap (IntKind.u32.wrap ((z8.toNat:Int)+(at32 K64 r).toNat)+(at32 W r).toNat)+ixor .u32 (ixor .u32 (rot z5 6).toNat (rot z5 11).toNat) (rot z5 25).toNat)+ior .u32 (iand .u32 z5.toNat z6.toNat) (iand .u32 (4294967295 - (z5.toNat:Int)) z7.toNat))=(T.toNat:Int):=by
            rw [w_sub,w_and,w_and,w_or,ch_eq,w_xor,w_xor,w_add,w_add,w_add,w_add,← hT]; rfl
          have hUU:IntKind.u32.wrap (ixor .u32 (ixor .u32 (rot z1 2).toNat (rot z1 13).toNat) (rot z1 22).toNat+ior .u32 (ior .u32 (iand .u32 z1.toNat z2.toNat) (iand .u32 z1.toNat z3.toNat)) (iand .u32 z2.toNat z3.toNat))=(U.toNat:Int):=by
            rw [w_and,w_and,w_and,w_or,w_or,maj_eq,w_xor,w_xor,w_add,← hU']; rfl
          have hz5:=z5.isLt
          have rW:∀ {bx:Bx}{hp:List Seg},nth bx 0=some (b12,33,fillW W 64 64)→RdW ⟨w,kys [] []⟩ bx hp b12 (0+(r:Int).toNat * 1) [v32 (at32 W r)]:=fun {_ _} h=>RdW.blk1 h (by rw [show 0+(r:Int).toNat * 1=r by omega]; exact fillW_get (by omega) (by omega))
          refine At.go [true] [] rfl (by and_intros <;> first | exact decide_eq_true (by omega) | exact oK) ?_
          refine At.dr 29 ?_
          refine AtD.pu [0,1,2,6,10,12,15,19,20,22,24] 18 rfl oK ?_
          refine AtD.pu [3,7,21,23] 14 rfl oK ?_
          refine AtD.pu [25] 13 rfl oK ?_
          refine AtD.pu [26] 12 rfl oK ?_
          refine AtD.lxw [4,5,8,9,11,13,14,16,17,18,27,28] 0 [] [hR [v32 (at32 K64 r)],hR [v32 (at32 W r)],hC (v32 (rot z5 6)),hC (v32 (rot z5 11)),hC (v32 (rot z5 25))] rfl (by and_intros <;> first | exact rK hr64 _ (by show 0+0+(r:Int).toNat * 1=r; omega) (m:=2) rfl | exact rW rfl | exact fT _ 6 (by decide) | exact fT _ 11 (by decide) | exact fT _ 25 (by decide) | exact oK) ?_
          refine AtD.dn ?_
          refine At.gw [] [hC (v32 (rot z1 2)),hC (v32 (rot z1 13)),hC (v32 (rot z1 22))] rfl (by and_intros <;> first | exact fT _ 2 (by decide) | exact fT _ 13 (by decide) | exact fT _ 22 (by decide) | exact oK) ?_
          rw [hUU,hTT,w_add,w_add,wrap_of_in (show inK .i64 ((r:Int)+1) by simp only [inK]; omega)]
          exact At.weak (ih6 _ _ _ _ (by omega) ⟨r+1,T+U,z1,z2,z3,z4+T,z5,z6,z7,rfl,by omega,hz2,rfl,rfl,rfl⟩) sB
        · obtain rfl:r=64:=by omega
          rw [hz] at hy
          obtain⟨e1,e2,e3,e4,e5,e6,e7,e8⟩:z1+x1=y1∧z2+x2=y2∧z3+x3=y3∧z4+x4=y4∧z5+x5=y5∧z6+x6=y6∧z7+x7=y7∧z8+x8=y8:=by
            simpa [addS] using hy
          have ew:∀ a b:BitVec 32,IntKind.u32.wrap ((a.toNat:Int)+b.toNat)=((b+a).toNat:Int):=fun a b=>by rw [w_add,BitVec.add_comm]
          refine At.gw [false] [hB 1,hB 1,hB 1,hB 1,hB 1,hB 1,hB 1,hB 1,hB 1,hB 1,hB 1,hB 1,hB 1,hB 1,hB 1,hB 1] rfl (by and_intros <;> first | exact decide_eq_false (by omega) | exact oK) ?_
          rw [ew x1,ew x2,ew x3,ew x4,ew x5,ew x6,ew x7,ew x8,e1,e2,e3,e4,e5,e6,e7,e8,wrap_of_in (show inK .i64 (((64 * i:Nat):Int)+64) by simp only [inK]; omega),show ((64 * i:Nat):Int)+64=((64 * (i+1):Nat):Int) by omega]
          refine At.keep [false,true,true] [true] rfl ?_
          exact At.weak (ih3 _ _ _ _ (by omega) ⟨i+1,y1,y2,y3,y4,y5,y6,y7,y8,rfl,by omega,hb3,rfl,rfl,rfl⟩) sB
    · obtain rfl:i=L.length / 64:=by omega
      refine At.go [false] [] rfl (by and_intros <;> first | exact decide_eq_false (by omega) | exact oK) ?_
      refine At.nilRow 5 1 ?_
      refine At.loop (env0:=[(10,.pointer (some ⟨b10,0,none⟩)),(28,.slice none 0 0),(29,.int .i64 0)]) (fun m_ env bx hp => ∃ (k:Nat) (O:List UInt8) (g5:Option Nat) (c5:Nat),m_=8 - k∧(k≤8)∧(O=([x1,x2,x3,x4,x5,x6,x7,x8].take k).flatMap fun x => beB x.toNat 4)∧(O.length=4 * k)∧env=[(10,.pointer (some ⟨b10,0,none⟩)),(28,sv g5 O.length c5),(29,.int .i64 k)]∧bx=[(b10,34,[.int .u32 ↑x1.toNat,.int .u32 ↑x2.toNat,.int .u32 ↑x3.toNat,.int .u32 ↑x4.toNat,.int .u32 ↑x5.toNat,.int .u32 ↑x6.toNat,.int .u32 ↑x7.toNat,.int .u32 ↑x8.toNat]),(b2,36,KH)]∧hp=[Seg.row g5 5 1 O.length c5 (u8s O),Seg.row g 5 1 L.length c (u8s L)]) rfl
        ⟨0,[],none,0,rfl,(by omega),(rfl),(rfl),rfl,rfl,rfl⟩ sB ?_
      rintro m_ env bx hp ⟨k,O,g5,c5,rfl,hk8,hO,hOl,rfl,rfl,rfl⟩ ih7
      by_cases hlt3:k < 8
      · have hx:=at32_get (show k < ([x1,x2,x3,x4,x5,x6,x7,x8]:List (BitVec 32)).length from hlt3)
        obtain⟨X,hX⟩:∃ X,at32 [x1,x2,x3,x4,x5,x6,x7,x8] k=X:=⟨_,rfl⟩
        rw [hX] at hx
        have hXl:=X.isLt
        have rX:∀ {bx:Bx}{hp:List Seg},nth bx 0=some (b10,34,[v32 x1,v32 x2,v32 x3,v32 x4,v32 x5,v32 x6,v32 x7,v32 x8])→RdW ⟨w,kys [] []⟩ bx hp b10 (0+(k:Int).toNat * 1) [v32 X]:=fun {_ _} h=>RdW.blk1 h (by rw [show 0+(k:Int).toNat * 1=k by omega]; exact w32s_get (l:=[x1,x2,x3,x4,x5,x6,x7,x8]) hx)
        have hb4:u8s O++[.int .u8 ((X.toNat:Int) / 16777216),.int .u8 ((X.toNat:Int) / 65536 % 256),.int .u8 ((X.toNat:Int) / 256 % 256),.int .u8 ((X.toNat:Int) % 256)]=u8s (O++beB X.toNat 4):=by
          have q:∀ n:Nat,((UInt8.ofNat (n % 256)).toNat:Int)=((n % 256:Nat):Int):=fun n=>by simp
          simp only [u8s,List.map_append,beB,List.map_cons,List.map_nil,q]
          rw [show (256:Nat) ^ 3=16777216 by decide,show (256:Nat) ^ 2=65536 by decide,show (256:Nat) ^ 1=256 by decide,show (256:Nat) ^ 0=1 by decide]
          rw [show (X.toNat:Int) / 16777216=((X.toNat / 16777216 % 256:Nat):Int) by omega,show (X.toNat:Int) / 65536 % 256=((X.toNat / 65536 % 256:Nat):Int) by omega,show (X.toNat:Int) / 256 % 256=((X.toNat / 256 % 256:Nat):Int) by omega,show (X.toNat:Int) % 256=((X.toNat / 1 % 256:Nat):Int) by omega]
        refine At.go [true] [] rfl (by and_intros <;> first | exact decide_eq_true (by omega) | exact oK) ?_
        refine At.dr 26 ?_
        refine AtD.pu [0,1,6,12,18] 21 rfl oK ?_
        refine AtD.pu [2,7,13,19] 17 rfl oK ?_
        refine AtD.lx [3,4,5,8,9,10,11,14,15,16,17,20,21,22] 3 [] [hR [v32 X],hR [v32 X],hR [v32 X],hR [v32 X]] rfl (by and_intros <;> first | exact rX rfl | exact oK) ?_
        refine AtD.f1r 23 (OpOk.buildSlice rfl rfl rfl rfl rfl rfl rfl (fun bs hbs=>?_))
        refine AtD.f1r 24 (OpOk.append (m:=4) 0 1 1 [.int .u8 ((X.toNat:Int) / 16777216),.int .u8 ((X.toNat:Int) / 65536 % 256),.int .u8 ((X.toNat:Int) / 256 % 256),.int .u8 ((X.toNat:Int) % 256)] rfl rfl rfl rfl rfl rfl rfl (RdW.blk0 (i:=0) rfl) rfl (all1 rfl) (by omega) (by omega) fun g6 c6=>?_)
        refine AtD.lx [25] 0 [] [] rfl trivial ?_
        refine AtD.dn ?_
        rw [hb4,show O.length+4=(O++beB X.toNat 4).length by rw [List.length_append,beB_len]]
        refine At.go [] [] rfl (by and_intros <;> first | exact trivial | exact oK) ?_
        refine At.keep [false,true,true] [true,true] rfl ?_
        exact At.weak (ih7 _ _ _ _ (by omega) ⟨k+1,O++beB X.toNat 4,g6,c6,rfl,by omega,by rw [List.take_add_one,hx,List.flatMap_append,hO]; simp,by rw [List.length_append,beB_len]; omega,rfl,rfl,rfl⟩) sB
      · obtain rfl:k=8:=by omega
        refine At.go [false] [] rfl (by and_intros <;> first | exact decide_eq_false (by omega) | exact oK) ?_
        refine At.step [] rfl rfl rfl rfl rfl trivial (OpOk.toStr 0 (l:=O) rfl rfl rfl rfl rfl rfl ?_)
        rw [hb]
        refine At.go [] [] rfl (by and_intros <;> first | exact trivial | exact oK) ?_
        refine At.rt [false] [false,false] [] Tryz.func113 ?_
        exact⟨by rw [hO]; rfl,rfl,rfl⟩
theorem Tryz.rdigest_w (s:List UInt8) (w:World) (hs:s.length≤1000000):Fun Tryz.prog 113 [.agg ⟨keyC⟩,str s] w (str (shaH s)):=by
  rw [keyC_eq]; exact Tryz.digest_w2 s w hs
theorem Tryz.makeKeyC_w (w:World):Fun Tryz.prog 12 [] w (.agg ⟨keyC⟩):=by
  rw [keyC_eq]; exact Tryz.makeKey_w w
theorem Tryz.key_ld {S:Base}{bx:Bx}{hp:List Seg}{i b t:Nat}(h:nth bx i=some (b,t,keyC)):LdOb Tryz.prog S bx hp 36 b 0 (.agg ⟨keyC⟩) :=
  ⟨keyC,RdW.blk0 h,by unfold valT; rw [show aggT Tryz.prog 36=some true by rfl,show szT Tryz.prog 36=some 72 by rfl]; simp only [keyC_len]; rfl⟩
end Go.Proofs
namespace Go.Proofs
open Go Go.Eng
set_option maxRecDepth 100000
set_option maxHeartbeats 4000000
attribute [local irreducible] Tri
theorem Tryz.thash_w (s:List UInt8) (n:Nat) (w:World) (hs:s.length≤1000000) (hn:1≤n∧n≤32) (hS:Tryz.Sha w):Fun Tryz.prog 109 [str s,.int .i64 n] w (str (cutH n s)):=by
  have fC:∀ {bx:Bx}{hp:List Seg},CallOb Tryz.prog ⟨w,kys [] []⟩ bx hp 101 [str s,.int .i64 n] (.tuple #[str (cutH n s),.int .i64 0]):=fun {_ _} w' hw'=>Tryz.Cut_w s n w' hs hn.1 hn.2 (Tryz.sha_ext hS hw'.ext)
  refine Tri.enter (bx:=[]) (hp:=[]) Tryz.func109 rfl (by kernel_rfl) rfl (Own.nil w) ?_
  refine At.go [] [hC (.tuple { toList:=[.string { data:=(cutH n s).toArray },.int .i64 0] })] rfl (by and_intros <;> first | exact fC | exact oK) ?_
  refine At.rt [] [] [] Tryz.func109 ?_
  exact⟨rfl,rfl,rfl⟩
theorem Tryz.tLeaf_w (s:List UInt8) (n:Nat) (w:World) (hs:s.length≤100000) (hn:1≤n∧n≤32) (hS:Tryz.Sha w):Fun Tryz.prog 110 [str s,.int .i64 n] w (str (cutH n (0 :: s))):=by
  have fC:∀ {bx:Bx}{hp:List Seg},CallOb Tryz.prog ⟨w,kys [] []⟩ bx hp 109 [str (0 :: s),.int .i64 n] (str (cutH n (0 :: s))):=fun {_ _} w' hw'=>Tryz.thash_w (0 :: s) n w' (by simp; omega) hn (Tryz.sha_ext hS hw'.ext)
  refine Tri.enter (bx:=[]) (hp:=[]) Tryz.func110 rfl (by kernel_rfl) rfl (Own.nil w) ?_
  refine At.go [] [hC (.string { data:=(cutH n (0 :: s)).toArray })] rfl (by and_intros <;> first | exact fC | (simp [bl_of]; omega) | exact oK) ?_
  refine At.rt [] [] [] Tryz.func110 ?_
  exact⟨rfl,rfl,rfl⟩
theorem Tryz.tNode_w (a b:List UInt8) (n:Nat) (w:World) (ha:a.length≤100000) (hb:b.length≤100000) (hn:1≤n∧n≤32) (hS:Tryz.Sha w):Fun Tryz.prog 112 [str a,str b,.int .i64 n] w (str (cutH n (1 :: (a++b)))):=by
  have fC:∀ {bx:Bx}{hp:List Seg},CallOb Tryz.prog ⟨w,kys [] []⟩ bx hp 109 [str (1 :: (a++b)),.int .i64 n] (str (cutH n (1 :: (a++b)))):=fun {_ _} w' hw'=>Tryz.thash_w (1 :: (a++b)) n w' (by simp; omega) hn (Tryz.sha_ext hS hw'.ext)
  refine Tri.enter (bx:=[]) (hp:=[]) Tryz.func112 rfl (by kernel_rfl) rfl (Own.nil w) ?_
  refine At.go [] [hC (.string { data:=(cutH n (1 :: (a++b))).toArray })] rfl (by and_intros <;> first | exact fC | (simp [bl_of]; omega) | exact oK) ?_
  refine At.rt [] [] [] Tryz.func112 ?_
  exact⟨rfl,rfl,rfl⟩
theorem Tryz.tSplit_w (c:Nat) (w:World) (hc:c≤1000000):Fun Tryz.prog 131 [.int .i64 c] w (.int .i64 (splN c)):=by
  refine Tri.enter (bx:=[]) (hp:=[]) Tryz.func131 rfl (by kernel_rfl) rfl (Own.nil w) ?_
  unfold splN
  by_cases h2:c < 2
  · rw [if_pos h2]
    refine At.go [true] [] rfl (by and_intros <;> first | exact decide_eq_true (by omega) | exact oK) ?_
    refine At.rt [] [] [] Tryz.func131 ?_
    exact⟨rfl,rfl,rfl⟩
  rw [if_neg h2]
  have h62:(2:Nat) ^ 62=4611686018427387904:=by decide
  refine At.go [false] [] rfl (by and_intros <;> first | exact decide_eq_false (by omega) | exact oK) ?_
  refine At.loop (env0:=[(0,.int .i64 ↑c),(3,.int .i64 1)]) (fun m_ env bx hp => ∃ (f:Nat) (k:Nat),m_=f+1∧(splF c f k=splF c 62 1)∧(k < c)∧(c≤k * 2 ^ f)∧env=[(0,.int .i64 ↑c),(3,.int .i64 k)]∧bx=[]∧hp=[]) rfl
    ⟨62,1,rfl,(rfl),(by omega),(by rw [h62]; omega),rfl,rfl,rfl⟩ sB ?_
  rintro m_ env bx hp ⟨f,k,rfl,hk,hkc,hcf,rfl,rfl,rfl⟩ ih
  by_cases hlt:2 * k < c
  · cases f with
    | zero => omega
    | succ f =>
      have hs:splF c (f+1) k=splF c f (2 * k):=by rw [splF,if_pos hlt]
      refine At.go [true] [] rfl (by and_intros <;> first | exact decide_eq_true (by omega) | exact oK) ?_
      rw [show (k:Int) * 2=((2 * k:Nat):Int) by omega]
      exact At.weak (ih _ _ _ _ (by omega) ⟨f,2 * k,rfl,by rw [← hs,hk],by omega,by rw [Nat.pow_succ] at hcf; rw [Nat.mul_comm 2 k,Nat.mul_assoc,Nat.mul_comm 2]; exact hcf,rfl,rfl,rfl⟩) sB
  · have hs:splF c f k=k:=by
      cases f with
      | zero => rfl
      | succ f => rw [splF,if_neg hlt]
    rw [← hk,hs]
    refine At.go [false] [] rfl (by and_intros <;> first | exact decide_eq_false (by omega) | exact oK) ?_
    refine At.rt [] [] [] Tryz.func131 ?_
    exact⟨rfl,rfl,rfl⟩
theorem Tryz.rSplit_w (c:Nat) (w:World) (hc:c≤1000000):Fun Tryz.prog 81 [.int .i64 c] w (.int .i64 (splN c)):=by
  refine Tri.enter (bx:=[]) (hp:=[]) Tryz.func81 rfl (by kernel_rfl) rfl (Own.nil w) ?_
  unfold splN
  by_cases h2:c < 2
  · rw [if_pos h2]
    refine At.go [true] [] rfl (by and_intros <;> first | exact decide_eq_true (by omega) | exact oK) ?_
    refine At.rt [] [] [] Tryz.func81 ?_
    exact⟨rfl,rfl,rfl⟩
  rw [if_neg h2]
  refine At.go [false] [] rfl (by and_intros <;> first | exact decide_eq_false (by omega) | exact oK) ?_
  refine At.loop (env0:=[(0,.int .i64 ↑c),(3,.int .i64 1),(4,.int .i64 0)]) (fun m_ env bx hp => ∃ (f:Nat) (k:Nat) (i:Nat),m_=f+1∧(splF c f k=splF c 62 1)∧(k < c)∧(f+i=62)∧env=[(0,.int .i64 ↑c),(3,.int .i64 k),(4,.int .i64 i)]∧bx=[]∧hp=[]) rfl
    ⟨62,1,0,rfl,(rfl),(by omega),(rfl),rfl,rfl,rfl⟩ sB ?_
  rintro m_ env bx hp ⟨f,k,i,rfl,hk,hkc,hfi,rfl,rfl,rfl⟩ ih
  cases f with
  | zero =>
    rw [← hk,show splF c 0 k=k from rfl]
    refine At.go [false,false] [] rfl (by and_intros <;> first | exact decide_eq_false (by omega) | (simp; done) | exact oK) ?_
    refine At.rt [] [] [] Tryz.func81 ?_
    exact⟨rfl,rfl,rfl⟩
  | succ f =>
    by_cases hlt:2 * k < c
    · have hs:splF c (f+1) k=splF c f (2 * k):=by rw [splF,if_pos hlt]
      refine At.go [true,true] [] rfl (by and_intros <;> first | exact decide_eq_true (by omega) | exact oK) ?_
      rw [show 2 * (k:Int)=((2 * k:Nat):Int) by omega]
      exact At.weak (ih _ _ _ _ (by omega) ⟨f,2 * k,i+1,rfl,by rw [← hs,hk],by omega,by omega,rfl,rfl,rfl⟩) sB
    · have hs:splF c (f+1) k=k:=by rw [splF,if_neg hlt]
      rw [← hk,hs]
      refine At.go [true,false] [] rfl (by and_intros <;> first | exact decide_eq_true (by omega) | exact decide_eq_false (by omega) | exact oK) ?_
      refine At.rt [] [] [] Tryz.func81 ?_
      exact⟨rfl,rfl,rfl⟩
theorem Tryz.sides_w (c:Nat) (g o cap:Nat) (w:World) (h2:2≤c) (hc:c≤1000000) (hcap:c≤cap):Fun Tryz.prog 111 [.slice (some ⟨g,o,none⟩) c cap] w (.tuple #[.slice (some ⟨g,o,none⟩) (splN c) (splN c),.slice (some ⟨g,o+splN c,none⟩) (c - splN c) (cap - splN c)]):=by
  have fS:∀ {S:Base}{bx:Bx}{hp:List Seg},CallOb Tryz.prog S bx hp 131 [.int .i64 c] (.int .i64 (splN c)):=fun {_ _ _} w' _=>Tryz.tSplit_w c w' hc
  have hs:=splN_in h2
  obtain⟨k,hk⟩:∃ k,splN c=k:=⟨_,rfl⟩
  rw [hk] at fS hs ⊢
  refine Tri.enter (bx:=[]) (hp:=[]) Tryz.func111 rfl (by kernel_rfl) rfl (Own.nil w) ?_
  refine At.go [] [hC (.int .i64 ↑k)] rfl (by and_intros <;> first | exact fS | omega | exact oK) ?_
  refine At.dr 9 ?_
  refine AtD.pu [0,1,2,4,5] 4 rfl (by and_intros <;> first | exact fS | omega | exact oK) ?_
  refine AtD.pu [6] 3 rfl (by and_intros <;> first | exact fS | omega | exact oK) ?_
  refine AtD.f1r 3 (OpOk.slice3 (c:=cap) k rfl rfl rfl rfl rfl rfl (by omega) ?_)
  refine AtD.lx [7,8] 0 [] [] rfl trivial ?_
  refine AtD.dn ?_
  refine At.go [] [] rfl (by and_intros <;> first | exact trivial | exact oK) ?_
  refine At.rt [] [] [] Tryz.func111 ?_
  exact⟨by simp only [tupV,Nat.mul_one,Int.toNat_natCast],rfl,rfl⟩
theorem Tryz.rCut_w (s:List UInt8) (n:Nat) (w:World) (hs:s.length≤1000000) (hn:n≤32):Fun Tryz.prog 79 [.agg ⟨keyC⟩,str s,.int .i64 n] w (str (cutH n s)):=by
  have fD:∀ {S:Base}{bx:Bx}{hp:List Seg},CallOb Tryz.prog S bx hp 113 [.agg ⟨keyC⟩,str s] (str (shaH s)):=fun {_ _ _} w' _=>Tryz.rdigest_w s w' hs
  have hl:=shaH_len s
  refine Tri.enter (bx:=[]) (hp:=[]) Tryz.func79 rfl (by kernel_rfl) rfl (Own.nil w) ?_
  refine At.go [] [] rfl (by and_intros <;> first | exact fD | exact Tryz.key_ld (i:=0) rfl | (rw [bl_of]; omega) | exact oK) ?_
  refine At.bo fun b3 hb3=>?_
  refine At.go [] [hK (.agg { toList:=keyC }),hC (.string { data:=(shaH s).toArray })] rfl (by and_intros <;> first | exact fD | exact Tryz.key_ld (i:=0) rfl | (rw [bl_of]; omega) | exact oK) ?_
  refine At.rt [] [] [] Tryz.func79 ?_
  exact⟨by simp only [bl_of]; rfl,rfl,rfl⟩
theorem Tryz.rLeaf_w (s:List UInt8) (n:Nat) (w:World) (hs:s.length≤100000) (hn:n≤32):Fun Tryz.prog 80 [.agg ⟨keyC⟩,str s,.int .i64 n] w (str (cutH n (0 :: s))):=by
  have fC:∀ {S:Base}{bx:Bx}{hp:List Seg},CallOb Tryz.prog S bx hp 79 [.agg ⟨keyC⟩,str (0 :: s),.int .i64 n] (str (cutH n (0 :: s))):=fun {_ _ _} w' _=>Tryz.rCut_w (0 :: s) n w' (by simp; omega) hn
  refine Tri.enter (bx:=[]) (hp:=[]) Tryz.func80 rfl (by kernel_rfl) rfl (Own.nil w) ?_
  refine At.go [] [] rfl (by and_intros <;> first | exact fC | exact Tryz.key_ld (i:=0) rfl | (simp; omega) | exact oK) ?_
  refine At.bo fun b3 hb3=>?_
  refine At.go [] [hK (.agg { toList:=keyC }),hC (.string { data:=(cutH n (0 :: s)).toArray })] rfl (by and_intros <;> first | exact fC | exact Tryz.key_ld (i:=0) rfl | (simp [bl_of]; omega) | exact oK) ?_
  refine At.rt [] [] [] Tryz.func80 ?_
  exact⟨rfl,rfl,rfl⟩
theorem Tryz.rNode_w (a b:List UInt8) (n:Nat) (w:World) (ha:a.length≤100000) (hb:b.length≤100000) (hn:n≤32):Fun Tryz.prog 82 [.agg ⟨keyC⟩,str a,str b,.int .i64 n] w (str (cutH n (1 :: (a++b)))):=by
  have fC:∀ {S:Base}{bx:Bx}{hp:List Seg},CallOb Tryz.prog S bx hp 79 [.agg ⟨keyC⟩,str (1 :: (a++b)),.int .i64 n] (str (cutH n (1 :: (a++b)))):=fun {_ _ _} w' _=>Tryz.rCut_w (1 :: (a++b)) n w' (by simp; omega) hn
  refine Tri.enter (bx:=[]) (hp:=[]) Tryz.func82 rfl (by kernel_rfl) rfl (Own.nil w) ?_
  refine At.go [] [] rfl (by and_intros <;> first | exact fC | exact Tryz.key_ld (i:=0) rfl | (simp; omega) | exact oK) ?_
  refine At.bo fun b4 hb4=>?_
  refine At.go [] [hK (.agg { toList:=keyC }),hC (.string { data:=(cutH n (1 :: (a++b))).toArray })] rfl (by and_intros <;> first | exact fC | exact Tryz.key_ld (i:=0) rfl | (simp [bl_of]; omega) | exact oK) ?_
  refine At.rt [] [] [] Tryz.func82 ?_
  exact⟨rfl,rfl,rfl⟩
theorem SlOk.rowsT {w:World}{a:Option Addr}{l:List (List UInt8)}(k:Nat) (h:SlOk w a (l.map str)):SlOk w a ((l.take k).map str):=by
  rw [List.map_take]; exact SlOk.takeV k h
theorem SlOk.rowsD {w:World}{g o:Nat}{l:List (List UInt8)}(k:Nat) (h:SlOk w (some ⟨g,o,none⟩) (l.map str)):SlOk w (some ⟨g,o+k,none⟩) ((l.drop k).map str):=by
  rw [List.map_drop]; exact SlOk.dropV k h
theorem RdW.rowS {w:World}{S:Base}{bx:Bx}{hp:List Seg}{g o i off:Nat}{l:List (List UInt8)}{x:List UInt8}(hc:∀ j u,(l.map str)[j]?=some u→w.cell? ⟨g,o+j,none⟩=some u) (hw:S.w0=w) (hm:g ∉ S.mods) (h:l[i]?=some x) (ho:off=o+i):RdW S bx hp g off [str x]:=by
  subst ho hw
  exact RdW.base1 hm (hc i _ (by rw [List.getElem?_map,h]; rfl))
theorem Tryz.troot_w (n:Nat) (hn:1≤n∧n≤32):∀ (N:Nat) (l:List (List UInt8)) (a:Option Addr) (cap:Nat) (w:World),l.length≤N→l.length≤1000000→l.length≤cap→(∀ x,x∈l→x.length≤100000)→SlOk w a (l.map str)→Tryz.Sha w →
    Fun Tryz.prog 78 [.slice a l.length cap,.int .i64 n] w (str (rootB n l)):=by
  intro N
  induction N with
  | zero =>
    intro l a cap w hN hl hcap hx hr hS
    obtain rfl:l=[]:=List.length_eq_zero_iff.1 (by omega)
    have fH:∀ {bx:Bx}{hp:List Seg},CallOb Tryz.prog ⟨w,kys [] []⟩ bx hp 109 [str [],.int .i64 n] (str (cutH n [])):=fun {_ _} w' hw'=>Tryz.thash_w [] n w' (by decide) hn (Tryz.sha_ext hS hw'.ext)
    refine Tri.enter (bx:=[]) (hp:=[]) Tryz.func78 rfl (by kernel_rfl) rfl (Own.nil w) ?_
    rw [rootB_nil]
    refine At.go [true] [hC (.string { data:=(cutH n []).toArray })] rfl (by and_intros <;> first | exact fH | exact rfl | exact oK) ?_
    refine At.rt [] [] [] Tryz.func78 ?_
    exact⟨rfl,rfl,rfl⟩
  | succ N ih =>
    intro l a cap w hN hl hcap hx hr hS
    by_cases h0:l.length=0
    · exact ih l a cap w (by omega) hl hcap hx hr hS
    obtain⟨g,o,rfl,hc⟩:=hr.get (by intro e; have:=congrArg List.length e; rw [List.length_map] at this; exact h0 this)
    by_cases h1:l.length=1
    · obtain⟨x,rfl⟩:=List.length_eq_one_iff.1 h1
      have r:∀ {bx:Bx}{hp:List Seg},RdW ⟨w,kys [] []⟩ bx hp g (o+Int.toNat 0 * 1) [str x]:=fun {_ _}=>RdW.rowS hc rfl (by simp [kys]) (i:=0) rfl rfl
      have fL:∀ {bx:Bx}{hp:List Seg},CallOb Tryz.prog ⟨w,kys [] []⟩ bx hp 110 [str x,.int .i64 n] (str (cutH n (0 :: x))):=fun {_ _} w' hw'=>Tryz.tLeaf_w x n w' (hx x (by simp)) hn (Tryz.sha_ext hS hw'.ext)
      refine Tri.enter (bx:=[]) (hp:=[]) Tryz.func78 rfl (by kernel_rfl) rfl (Own.nil w) ?_
      rw [rootB_one]
      refine At.go [false,true] [hR [.string { data:=x.toArray }],hC (.string { data:=(cutH n (0 :: x)).toArray })] rfl (by and_intros <;> first | exact fL | exact r | (simp; done) | exact oK) ?_
      refine At.rt [] [] [] Tryz.func78 ?_
      exact⟨rfl,rfl,rfl⟩
    have h2:2≤l.length:=by omega
    have hs:=splN_in h2
    rw [rootB_two n h2]
    have eT:(l.take (splN l.length)).length=splN l.length:=by rw [List.length_take]; omega
    have eD:(l.drop (splN l.length)).length=l.length - splN l.length:=List.length_drop
    have fS:∀ {S:Base}{bx:Bx}{hp:List Seg},CallOb Tryz.prog S bx hp 111 [.slice (some ⟨g,o,none⟩) l.length cap] (.tuple #[.slice (some ⟨g,o,none⟩) (splN l.length) (splN l.length),.slice (some ⟨g,o+splN l.length,none⟩) (l.length - splN l.length) (cap - splN l.length)]):=fun {_ _ _} w' _=>Tryz.sides_w l.length g o cap w' h2 hl hcap
    have fA:∀ {bx:Bx}{hp:List Seg},CallOb Tryz.prog ⟨w,kys [] []⟩ bx hp 78 [.slice (some ⟨g,o,none⟩) (splN l.length) (splN l.length),.int .i64 n] (str (rootB n (l.take (splN l.length)))):=fun {_ _} w' hw'=>by
      have:=ih (l.take (splN l.length)) (some ⟨g,o,none⟩) (splN l.length) w' (by omega) (by omega) (by omega) (fun x h=>hx x (List.mem_of_mem_take h)) (SlOk.rowsT _ (hr.ext hw'.ext (by simp [kys]))) (Tryz.sha_ext hS hw'.ext)
      rwa [eT] at this
    have fB:∀ {bx:Bx}{hp:List Seg},CallOb Tryz.prog ⟨w,kys [] []⟩ bx hp 78 [.slice (some ⟨g,o+splN l.length,none⟩) (l.length - splN l.length) (cap - splN l.length),.int .i64 n] (str (rootB n (l.drop (splN l.length)))):=fun {_ _} w' hw'=>by
      have:=ih (l.drop (splN l.length)) (some ⟨g,o+splN l.length,none⟩) (cap - splN l.length) w' (by omega) (by omega) (by omega) (fun x h=>hx x (List.mem_of_mem_drop h)) (SlOk.rowsD _ (hr.ext hw'.ext (by simp [kys]))) (Tryz.sha_ext hS hw'.ext)
      rwa [eD] at this
    have fN:∀ {bx:Bx}{hp:List Seg},CallOb Tryz.prog ⟨w,kys [] []⟩ bx hp 112 [str (rootB n (l.take (splN l.length))),str (rootB n (l.drop (splN l.length))),.int .i64 n] (str (cutH n (1 :: (rootB n (l.take (splN l.length))++rootB n (l.drop (splN l.length)))))):=fun {_ _} w' hw' =>
      Tryz.tNode_w _ _ n w' (by rw [rootB_len hn.2]; omega) (by rw [rootB_len hn.2]; omega) hn (Tryz.sha_ext hS hw'.ext)
    refine Tri.enter (bx:=[]) (hp:=[]) Tryz.func78 rfl (by kernel_rfl) rfl (Own.nil w) ?_
    refine At.go [false,false] [hC (.tuple ⟨[.slice (some ⟨g,o,none⟩) (splN l.length) (splN l.length),.slice (some ⟨g,o+splN l.length,none⟩) (l.length.sub (splN l.length)) (cap.sub (splN l.length))]⟩),hC (.string { data:=(rootB n (List.take (splN l.length) l)).toArray }),hC (.string { data:=(rootB n (List.drop (splN l.length) l)).toArray }),hC (.string { data:=(cutH n (1 :: (rootB n (List.take (splN l.length) l)++rootB n (List.drop (splN l.length) l)))).toArray })] rfl (by and_intros <;> first | exact fS | exact fA | exact fB | exact fN | exact decide_eq_false (by omega) | exact oK) ?_
    refine At.rt [] [] [] Tryz.func78 ?_
    exact⟨rfl,rfl,rfl⟩
theorem Tryz.tright_w (n:Nat) (hn:1≤n∧n≤32) (c:Nat) (a:Option Addr) (cap:Nat) (w:World) (hl:c≤4096):Fun Tryz.prog 77 [.slice a c cap,.int .i64 n] w (.int .i64 0):=by
  refine Tri.enter (bx:=[]) (hp:=[]) Tryz.func77 rfl (by kernel_rfl) rfl (Own.nil w) ?_
  refine At.go [false,false,false] [] rfl (by and_intros <;> first | exact decide_eq_false (by omega) | exact oK) ?_
  refine At.rt [] [] [] Tryz.func77 ?_
  exact⟨rfl,rfl,rfl⟩
theorem Tryz.tRoot_w (n:Nat) (hn:1≤n∧n≤32) (l:List (List UInt8)) (a:Option Addr) (cap:Nat) (w:World) (hl:l.length≤4096) (hcap:l.length≤cap) (hx:∀ x,x∈l→x.length≤100000) (hr:SlOk w a (l.map str)) (hS:Tryz.Sha w) :
    Fun Tryz.prog 41 [.slice a l.length cap,.int .i64 n] w (.tuple #[str (rootB n l),.int .i64 0]):=by
  have fT:∀ {S:Base}{bx:Bx}{hp:List Seg},CallOb Tryz.prog S bx hp 77 [.slice a l.length cap,.int .i64 n] (.int .i64 0):=fun {_ _ _} w' _=>Tryz.tright_w n hn l.length a cap w' hl
  have fR:∀ {bx:Bx}{hp:List Seg},CallOb Tryz.prog ⟨w,kys [] []⟩ bx hp 78 [.slice a l.length cap,.int .i64 n] (str (rootB n l)):=fun {_ _} w' hw' =>
    Tryz.troot_w n hn l.length l a cap w' (Nat.le_refl _) (by omega) hcap hx (hr.ext hw'.ext (by simp [kys])) (Tryz.sha_ext hS hw'.ext)
  refine Tri.enter (bx:=[]) (hp:=[]) Tryz.func41 rfl (by kernel_rfl) rfl (Own.nil w) ?_
  refine At.go [false] [hC (.int .i64 0),hC (.string { data:=(rootB n l).toArray })] rfl (by and_intros <;> first | exact fT | exact fR | (simp; done) | exact oK) ?_
  refine At.rt [] [] [] Tryz.func41 ?_
  exact⟨rfl,rfl,rfl⟩
theorem Tryz.rRoot_w (n:Nat) (hn:n≤32):∀ (N:Nat) (l:List (List UInt8)) (a:Option Addr) (cap:Nat) (w:World),l.length≤N→l.length≤1000000→l.length≤cap→(∀ x,x∈l→x.length≤100000)→SlOk w a (l.map str) →
    Fun Tryz.prog 42 [.agg ⟨keyC⟩,.slice a l.length cap,.int .i64 n] w (str (rootB n l)):=by
  intro N
  induction N with
  | zero =>
    intro l a cap w hN hl hcap hx hr
    obtain rfl:l=[]:=List.length_eq_zero_iff.1 (by omega)
    have fH:∀ {S:Base}{bx:Bx}{hp:List Seg},CallOb Tryz.prog S bx hp 79 [.agg ⟨keyC⟩,str [],.int .i64 n] (str (cutH n [])):=fun {_ _ _} w' _=>Tryz.rCut_w [] n w' (by decide) hn
    refine Tri.enter (bx:=[]) (hp:=[]) Tryz.func42 rfl (by kernel_rfl) rfl (Own.nil w) ?_
    rw [rootB_nil]
    refine At.go [] [] rfl (by and_intros <;> first | exact fH | exact rfl | exact Tryz.key_ld (i:=0) rfl | exact oK) ?_
    refine At.bo fun b3 hb3=>?_
    refine At.go [true] [hK (.agg { toList:=keyC }),hC (.string { data:=(cutH n []).toArray })] rfl (by and_intros <;> first | exact fH | exact rfl | exact Tryz.key_ld (i:=0) rfl | exact oK) ?_
    refine At.rt [] [] [] Tryz.func42 ?_
    exact⟨rfl,rfl,rfl⟩
  | succ N ih =>
    intro l a cap w hN hl hcap hx hr
    by_cases h0:l.length=0
    · exact ih l a cap w (by omega) hl hcap hx hr
    obtain⟨g,o,rfl,hc⟩:=hr.get (by intro e; have:=congrArg List.length e; rw [List.length_map] at this; exact h0 this)
    by_cases h1:l.length=1
    · obtain⟨x,rfl⟩:=List.length_eq_one_iff.1 h1
      have r:∀ {bx:Bx}{hp:List Seg},RdW ⟨w,kys [] []⟩ bx hp g (o+Int.toNat 0 * 1) [str x]:=fun {_ _}=>RdW.rowS hc rfl (by simp [kys]) (i:=0) rfl rfl
      have fL:∀ {S:Base}{bx:Bx}{hp:List Seg},CallOb Tryz.prog S bx hp 80 [.agg ⟨keyC⟩,str x,.int .i64 n] (str (cutH n (0 :: x))):=fun {_ _ _} w' _=>Tryz.rLeaf_w x n w' (hx x (by simp)) hn
      refine Tri.enter (bx:=[]) (hp:=[]) Tryz.func42 rfl (by kernel_rfl) rfl (Own.nil w) ?_
      rw [rootB_one]
      refine At.go [] [] rfl (by and_intros <;> first | exact fL | exact r | (simp; done) | exact Tryz.key_ld (i:=0) rfl | exact oK) ?_
      refine At.bo fun b3 hb3=>?_
      refine At.go [false,true] [] rfl (by and_intros <;> first | exact fL | exact r | (simp; done) | exact Tryz.key_ld (i:=0) rfl | exact oK) ?_
      refine At.qt [] [hK (.agg { toList:=keyC }),hR [.string { data:=x.toArray }],hC (.string { data:=(cutH n (0 :: x)).toArray })] rfl rfl (by and_intros <;> first | exact fL | exact r | (simp; done) | exact Tryz.key_ld (i:=0) rfl | exact oK) ?_
      refine At.go [] [] rfl (by and_intros <;> first | exact fL | exact r | (simp; done) | exact Tryz.key_ld (i:=0) rfl | exact oK) ?_
      refine At.rt [] [] [] Tryz.func42 ?_
      exact⟨rfl,rfl,rfl⟩
    have h2:2≤l.length:=by omega
    have hs:=splN_in h2
    rw [rootB_two n h2]
    have eT:(l.take (splN l.length)).length=splN l.length:=by rw [List.length_take]; omega
    have eD:(l.drop (splN l.length)).length=l.length - splN l.length:=List.length_drop
    obtain⟨k,hk⟩:∃ k,splN l.length=k:=⟨_,rfl⟩
    rw [hk] at hs eT eD ⊢
    have fS:∀ {S:Base}{bx:Bx}{hp:List Seg},CallOb Tryz.prog S bx hp 81 [.int .i64 l.length] (.int .i64 (k:Int)):=fun {_ _ _} w' _=>by rw [← hk]; exact Tryz.rSplit_w l.length w' hl
    have fA:∀ {bx:Bx}{hp:List Seg},CallOb Tryz.prog ⟨w,kys [] []⟩ bx hp 42 [.agg ⟨keyC⟩,.slice (some ⟨g,o,none⟩) ((k:Int).toNat) cap,.int .i64 n] (str (rootB n (l.take k))):=fun {_ _} w' hw'=>by
      have:=ih (l.take k) (some ⟨g,o,none⟩) cap w' (by omega) (by omega) (by omega) (fun x h=>hx x (List.mem_of_mem_take h)) (SlOk.rowsT _ (hr.ext hw'.ext (by simp [kys])))
      rwa [eT] at this
    have fB:∀ {bx:Bx}{hp:List Seg},CallOb Tryz.prog ⟨w,kys [] []⟩ bx hp 42 [.agg ⟨keyC⟩,.slice (some ⟨g,o+(k:Int).toNat * 1,none⟩) (l.length - (k:Int).toNat) (cap - (k:Int).toNat),.int .i64 n] (str (rootB n (l.drop k))):=fun {_ _} w' hw'=>by
      have:=ih (l.drop k) (some ⟨g,o+k,none⟩) (cap - k) w' (by omega) (by omega) (by omega) (fun x h=>hx x (List.mem_of_mem_drop h)) (SlOk.rowsD _ (hr.ext hw'.ext (by simp [kys])))
      rw [eD] at this
      simpa using this
    have fN:∀ {S:Base}{bx:Bx}{hp:List Seg},CallOb Tryz.prog S bx hp 82 [.agg ⟨keyC⟩,str (rootB n (l.take k)),str (rootB n (l.drop k)),.int .i64 n] (str (cutH n (1 :: (rootB n (l.take k)++rootB n (l.drop k))))):=fun {_ _ _} w' _ =>
      Tryz.rNode_w _ _ n w' (by rw [rootB_len hn]; omega) (by rw [rootB_len hn]; omega) hn
    refine Tri.enter (bx:=[]) (hp:=[]) Tryz.func42 rfl (by kernel_rfl) rfl (Own.nil w) ?_
    refine At.go [] [] rfl (by and_intros <;> first | exact fS | exact fA | exact fB | exact fN | exact decide_eq_false (by omega) | exact Tryz.key_ld (i:=0) rfl | exact oK) ?_
    refine At.bo fun b3 hb3=>?_
    refine At.go [false,false] [hC (.int .i64 ↑k)] rfl (by and_intros <;> first | exact fS | exact fA | exact fB | exact fN | exact decide_eq_false (by omega) | exact Tryz.key_ld (i:=0) rfl | exact oK) ?_
    refine At.qt [] [hK (.agg { toList:=keyC }),hK (.agg { toList:=keyC }),hC (.string { data:=(rootB n (List.take k l)).toArray }),hK (.agg { toList:=keyC }),hC (.string { data:=(rootB n (List.drop k l)).toArray }),hC (.string { data:=(cutH n (1 :: (rootB n (List.take k l)++rootB n (List.drop k l)))).toArray })] rfl rfl (by and_intros <;> first | exact fS | exact fA | exact fB | exact fN | exact decide_eq_false (by omega) | exact Tryz.key_ld (i:=0) rfl | exact oK) ?_
    refine At.go [] [] rfl (by and_intros <;> first | exact fS | exact fA | exact fB | exact fN | exact decide_eq_false (by omega) | exact Tryz.key_ld (i:=0) rfl | exact oK) ?_
    refine At.rt [] [] [] Tryz.func42 ?_
    exact⟨rfl,rfl,rfl⟩
end Go.Proofs

/-
  Walks of layer 1: nums.Num and the reference's.
-/
import Derived.Test.YtibdpdlghibijaaGreatDoorMP7
import Derived.Test.YtibdpdlghibijaaGreatDoorMP2
import Derived.Test.YtibdpdlghibijaaGreatDoorMP4
import Derived.Test.YtibdpdlghibijaaGreatDoorProg
import Derived.KernelRfl
namespace Go.Proofs
open Go Go.Eng
set_option maxRecDepth 100000
set_option maxHeartbeats 4000000
attribute [local irreducible] Tri
theorem Tryz.num_w (n:Nat) (hn:n < 18446744073709551616) (w:World):Fun Tryz.prog 123 [.int .u64 n] w (str (numL n)):=by
  refine Tri.enter (bx:=[]) (hp:=[]) Tryz.func123 rfl (by kernel_rfl) rfl (Own.nil w) ?_
  refine At.run 100 true [] [] rfl trivial ?_
  refine At.nilRow 5 1 ?_
  refine At.loop (n:=n) (env0:=[(0,.int .u64 (n:Int)),(3,sv none 0 0)]) (fun k env bx hp => ∃ (m:Nat) (l:List UInt8) (a:Option Nat) (cap:Nat),k=m∧m < 18446744073709551616∧numL n=l++numL m∧l.length+(numL m).length≤10 ∧
    env=[(0,.int .u64 (m:Int)),(3,sv a l.length cap)]∧bx=[]∧hp=[Seg.row a 5 1 l.length cap (u8s l)]) rfl ⟨n,[],none,0,rfl,hn,rfl,by simpa using numL_len10 n hn,rfl,rfl,rfl⟩ ⟨rfl,rfl,trivial⟩ ?_
  rintro k env bx hp ⟨m,l,a,cap,rfl,hm,he,hlen,rfl,rfl,rfl⟩ ih
  by_cases h:k < 128
  · refine At.run 100 true [false] [] rfl oK ?_
    refine At.append1 0 1 1 rfl rfl rfl rfl rfl rfl rfl rfl rfl trivial (fun _=>rfl) trivial rfl rfl rfl rfl rfl rfl rfl rfl (fun _=>rfl) (by simp [Value.oneCell']) (by omega) (by omega) (fun b a' cap'=>?_)
    have e:numL n=l++[UInt8.ofNat k]:=by rw [he,numL_small h]
    have e2:u8s l++[Value.int .u8 (k:Int)]=u8s (numL n):=by rw [e,u8s_append,u8s_single rfl (by omega)]
    refine At.step [] rfl rfl rfl rfl rfl trivial (OpOk.toStr (l:=numL n) 0 rfl rfl rfl rfl (by simp only [setL,nth]; rw [e2]) rfl ?_)
    refine At.run 100 true [] [] rfl trivial ?_
    refine At.keep [] [] rfl ?_
    exact At.ret [] rfl Tryz.func123 rfl trivial ⟨rfl,rfl,rfl⟩
  · refine At.run 100 true [true] [] rfl oK ?_
    refine At.append1 0 1 1 rfl rfl rfl rfl rfl rfl rfl rfl rfl trivial (fun _=>rfl) trivial rfl rfl rfl rfl rfl rfl rfl rfl (fun _=>rfl) (by simp [Value.oneCell']) (by omega) (by omega) (fun b a' cap'=>?_)
    have e:=numL_big (n:=k) (by omega)
    have e2:u8s l++[Value.int .u8 ((k:Int) % 128+128)]=u8s (l++[UInt8.ofNat (k % 128+128)]):=by rw [u8s_append,u8s_single (x:=(k:Int) % 128+128) (by omega) (by omega)]
    refine At.run 100 true [] [] rfl oK ?_
    exact At.weak (ih (k / 128) _ _ _ (by omega) ⟨k / 128,l++[UInt8.ofNat (k % 128+128)],a',cap',rfl,by omega,by rw [he,e]; simp,by rw [e] at hlen; simp at hlen ⊢; omega,rfl,rfl,by simp only [setL]; rw [e2]; simp⟩) ⟨rfl,sv_eq (by simp),trivial⟩
theorem Tryz.rnum_w (n:Nat) (hn:n < 18446744073709551616) (w:World):Fun Tryz.prog 129 [.int .u64 n] w (str (numL n)):=by
  induction n using Nat.strongRecOn generalizing w with
  | _ n ih =>
  refine Tri.enter (bx:=[]) (hp:=[]) Tryz.func129 rfl (by kernel_rfl) rfl (Own.nil w) ?_
  by_cases h:n < 128
  · refine At.run 100 true [true] [] rfl oK ?_
    refine At.step [] rfl rfl rfl rfl rfl trivial (OpOk.buildSlice rfl rfl rfl rfl rfl rfl rfl (fun b hb=>?_))
    refine At.step [] rfl rfl rfl rfl rfl trivial (OpOk.toStrR [UInt8.ofNat n] rfl rfl rfl rfl rfl rfl (by rw [u8s_single rfl (by omega)]; exact RdW.blk0 (i:=0) rfl) ?_)
    refine At.run 100 true [] [] rfl oK ?_
    refine At.keep [] [] rfl ?_
    exact At.ret [] rfl Tryz.func129 rfl trivial ⟨by rw [numL_small h]; rfl,rfl,rfl⟩
  · refine At.run 100 true [false] [] rfl oK ?_
    refine At.draw 11 rfl rfl rfl rfl ?_
    refine AtD.pures (ob:=True) true (by kernel_rfl) [0,1,2,3,6,7] (fuel:=5) (by kernel_rfl) rfl oK ?_
    have hcall:∀ {S:Base}{bx:Bx}{hp:List Seg},CallOb Tryz.prog S bx hp 129 [.int .u64 ((n:Int) / 128)] (str (numL (n / 128))):=fun w _=>ih (n / 128) (by omega) (by omega) w
    have e1:u8s [UInt8.ofNat (n % 128+128)]=[.int .u8 ((n:Int) % 128+128)]:=u8s_single (by omega) (by omega)
    have efin:str (UInt8.ofNat (n % 128+128) :: numL (n / 128))=str (numL n):=by rw [numL_big (n:=n) (by omega)]
    have hlen:=numL_len10 (n / 128) (by omega)
    refine AtD.fork2 4 8 (by kernel_rfl) ?_ ?_
    · refine StepD.by [] rfl rfl rfl rfl trivial (OpOk.buildSlice rfl rfl rfl rfl rfl rfl rfl (fun b hb=>?_))
      refine AtD.fork2 5 8 (by kernel_rfl) ?_ ?_
      · refine StepD.by [] rfl rfl rfl rfl trivial (OpOk.toStrR [UInt8.ofNat (n % 128+128)] rfl rfl rfl rfl rfl rfl (by rw [e1]; exact RdW.blk0 (i:=0) rfl) ?_)
        refine AtD.fork1 8 (by kernel_rfl) (StepD.by [] rfl rfl rfl rfl trivial (OpOk.one true [] [hC (str (numL (n / 128)))] rfl hcall ?_))
        refine AtD.pures (ob:=True) true (by kernel_rfl) [9,10] (fuel:=0) (by kernel_rfl) rfl ⟨by simp [bl]; omega,trivial⟩ ?_
        refine AtD.done (by kernel_rfl) ?_
        refine At.run 100 true [] [] rfl oK ?_
        refine At.keep [] [] rfl ?_
        exact At.ret [] rfl Tryz.func129 rfl trivial ⟨efin,rfl,rfl⟩
      · refine StepD.by [] rfl rfl rfl rfl trivial (OpOk.one true [] [hC (str (numL (n / 128)))] rfl hcall ?_)
        refine AtD.fork1 5 (by kernel_rfl) (StepD.by [] rfl rfl rfl rfl trivial (OpOk.toStrR [UInt8.ofNat (n % 128+128)] rfl rfl rfl rfl rfl rfl (by rw [e1]; exact RdW.blk0 (i:=0) rfl) ?_))
        refine AtD.pures (ob:=True) true (by kernel_rfl) [9,10] (fuel:=0) (by kernel_rfl) rfl ⟨by simp [bl]; omega,trivial⟩ ?_
        refine AtD.done (by kernel_rfl) ?_
        refine At.run 100 true [] [] rfl oK ?_
        refine At.keep [] [] rfl ?_
        exact At.ret [] rfl Tryz.func129 rfl trivial ⟨efin,rfl,rfl⟩
    · refine StepD.by [] rfl rfl rfl rfl trivial (OpOk.one true [] [hC (str (numL (n / 128)))] rfl hcall ?_)
      refine AtD.fork1 4 (by kernel_rfl) (StepD.by [] rfl rfl rfl rfl trivial (OpOk.buildSlice rfl rfl rfl rfl rfl rfl rfl (fun b hb=>?_)))
      refine AtD.fork1 5 (by kernel_rfl) (StepD.by [] rfl rfl rfl rfl trivial (OpOk.toStrR [UInt8.ofNat (n % 128+128)] rfl rfl rfl rfl rfl rfl (by rw [e1]; exact RdW.blk0 (i:=0) rfl) ?_))
      refine AtD.pures (ob:=True) true (by kernel_rfl) [9,10] (fuel:=0) (by kernel_rfl) rfl ⟨by simp [bl]; omega,trivial⟩ ?_
      refine AtD.done (by kernel_rfl) ?_
      refine At.run 100 true [] [] rfl oK ?_
      refine At.keep [] [] rfl ?_
      exact At.ret [] rfl Tryz.func129 rfl trivial ⟨efin,rfl,rfl⟩
theorem bx_eq3 {b t:Nat}{s:Value}{k:IntKind}{x y:Int}{f:Value}(h:x=y):[(b,t,[s,.int k x,f])]=[(b,t,[s,.int k y,f])]:=by rw [h]
theorem Tryz.digits_w (s:ByteArray) (a0:Nat) (f:Int) (b:Nat) (w:World) (ha:a0≤(bl s).length) (hlen:(bl s).length≤9223372036854775807)
    (hown:Own [(b,219,[.string s,.int .i64 a0,.int .i64 f])] [] w) :
    FunU Tryz.prog 175 [.pointer (some ⟨b,0,none⟩)] w (.tuple #[.int .u64 (digP ((bl s).drop a0) 0 0).1,.int .i64 (digP ((bl s).drop a0) 0 0).2.2])
      (b,219,[.string s,.int .i64 ((a0+(digP ((bl s).drop a0) 0 0).2.1:Nat):Int),.int .i64 f]):=by
  refine Tri.enter (bx:=[(b,219,[.string s,.int .i64 a0,.int .i64 f])]) (hp:=[]) Tryz.func175 rfl (by kernel_rfl) rfl hown ?_
  refine At.run 100 true [] [] rfl trivial ?_
  refine At.loop (n:=(bl s).length - a0) (env0:=[(0,.pointer (some ⟨b,0,none⟩)),(4,.int .u64 0),(5,.int .i64 0)]) (fun m env bx hp => ∃ (k acc:Nat),m=(bl s).length - (a0+k)∧a0+k≤(bl s).length∧k≤9∧acc < 128 ^ k ∧
    digP ((bl s).drop a0) 0 0=digP ((bl s).drop (a0+k)) k acc ∧
    env=[(0,.pointer (some ⟨b,0,none⟩)),(4,.int .u64 acc),(5,.int .i64 k)]∧bx=[(b,219,[.string s,.int .i64 ((a0+k:Nat):Int),.int .i64 f])]∧hp=[]) rfl
    ⟨0,0,by simp,by omega,by omega,by simp,rfl,rfl,rfl,rfl⟩ ⟨rfl,rfl,rfl,trivial⟩ ?_
  rintro m env bx hp ⟨k,acc,rfl,hk,hk9,hacc,he,rfl,rfl,rfl⟩ ih
  refine At.run 100 true [] [] rfl trivial ?_
  refine At.quiet true [] [hB 0,hB 0] ⟨by kernel_rfl,by kernel_rfl,rfl,rfl,rfl⟩ rfl rfl rfl oK ?_
  by_cases h:a0+k=(bl s).length
  · refine At.run 100 true [true] [] rfl ⟨by simp; omega,trivial⟩ ?_
    have hd:(bl s).drop (a0+k)=[]:=by rw [h]; simp
    have hr:digP ((bl s).drop a0) 0 0=(0,k,2):=by rw [he,hd]; rfl
    exact At.ret [] rfl Tryz.func175 rfl trivial ⟨by rw [hr]; rfl,by rw [hr],rfl⟩
  · obtain⟨c,hc⟩:∃ c,(bl s)[a0+k]?=some c:=⟨_,List.getElem?_eq_getElem (by omega)⟩
    have hd:(bl s).drop (a0+k)=c :: (bl s).drop (a0+(k+1)):=by
      rw [List.drop_eq_getElem_cons (by omega)]; congr 1; exact (List.getElem?_eq_some_iff.1 hc).2
    rw [hd] at he
    have ec:(bl s)[((a0+k:Nat):Int).toNat]?.getD 0=c:=by rw [Int.toNat_natCast]; simp [hc]
    have hcl:=c.toNat_lt
    have hp9:(128:Nat) ^ k≤128 ^ 9:=Nat.pow_le_pow_right (by decide) hk9
    refine At.run 100 true [false] [] rfl ⟨by simp; omega,trivial⟩ ?_
    refine At.quiet true [] [hB 0,hB 0] ⟨by kernel_rfl,by kernel_rfl,rfl,rfl,rfl⟩ rfl rfl rfl ⟨by omega,rfl,rfl,trivial⟩ ?_
    simp only [ec]
    by_cases h9:k=9∧1 < c.toNat
    · refine At.run 100 true [true,true] [hB 0,hB 0] rfl oK ?_
      have hr:digP ((bl s).drop a0) 0 0=(0,k+1,3):=by rw [he]; simp [digP,h9]
      exact At.ret [] rfl Tryz.func175 rfl trivial ⟨by rw [hr]; rfl,by rw [hr]; rfl,rfl⟩
    · have hb:acc+(c.toNat % 128) * 128 ^ k < 18446744073709551616:=by
        have h2:c.toNat % 128 < 128:=Nat.mod_lt _ (by decide)
        by_cases h8:k=9
        · subst h8
          have:c.toNat % 128≤1:=by omega
          have:(c.toNat % 128) * 128 ^ 9≤1 * 128 ^ 9:=Nat.mul_le_mul_right _ this
          omega
        · have h3:(c.toNat % 128) * 128 ^ k≤127 * 128 ^ k:=Nat.mul_le_mul_right _ (by omega)
          have h4:(128:Nat) ^ k≤128 ^ 8:=Nat.pow_le_pow_right (by decide) (by omega)
          omega
      have hior:=ior_add hacc hb
      simp only [Int.natCast_emod,Int.cast_ofNat_Int] at hior
      by_cases h8:k=9
      · refine At.run 100 true [true,false] [hB 0,hB 0] rfl oK ?_
        simp only [hior]
        clear hior hb hp9
        by_cases h128:c.toNat < 128
        · have hm:c.toNat % 128=c.toNat:=Nat.mod_eq_of_lt h128
          by_cases hz0:c.toNat=0
          · by_cases hk0:0 < k
            · refine At.run 100 true [true,true,true] [] rfl oK ?_
              have hr:digP ((bl s).drop a0) 0 0=(0,k+1,3):=by rw [he,digP,if_neg h9,if_pos h128,if_pos ⟨hz0,hk0⟩]
              exact At.ret [] rfl Tryz.func175 rfl trivial ⟨by rw [hr]; rfl,by rw [hr]; rfl,rfl⟩
            · refine At.run 100 true [true,true,false] [] rfl oK ?_
              have hr:digP ((bl s).drop a0) 0 0=(acc+c.toNat % 128 * 128 ^ k,k+1,0):=by rw [he,hm,digP,if_neg h9,if_pos h128,if_neg (by omega)]
              exact At.ret [] rfl Tryz.func175 rfl trivial ⟨by rw [hr]; rfl,by rw [hr]; rfl,rfl⟩
          · refine At.run 100 true [true,false,false] [] rfl oK ?_
            have hr:digP ((bl s).drop a0) 0 0=(acc+c.toNat % 128 * 128 ^ k,k+1,0):=by rw [he,hm,digP,if_neg h9,if_pos h128,if_neg (by omega)]
            exact At.ret [] rfl Tryz.func175 rfl trivial ⟨by rw [hr]; rfl,by rw [hr]; rfl,rfl⟩
        · have hlt:k < 9:=by omega
          refine At.run 100 true [false] [] rfl oK ?_
          refine At.weak (ih ((bl s).length - (a0+(k+1))) _ _ _ (by omega) ⟨k+1,acc+c.toNat % 128 * 128 ^ k,rfl,by omega,by omega,?_,?_,rfl,bx_eq3 (by omega),rfl⟩) ⟨rfl,rfl,some_int_eq (by omega),trivial⟩
          · have h3:c.toNat % 128 * 128 ^ k≤127 * 128 ^ k:=Nat.mul_le_mul_right _ (by omega)
            rw [Nat.pow_succ]; omega
          · rw [he,digP,if_neg h9,if_neg h128]
      · refine At.run 100 true [false,false] [hB 0,hB 0] rfl oK ?_
        simp only [hior]
        clear hior hb hp9
        by_cases h128:c.toNat < 128
        · have hm:c.toNat % 128=c.toNat:=Nat.mod_eq_of_lt h128
          by_cases hz0:c.toNat=0
          · by_cases hk0:0 < k
            · refine At.run 100 true [true,true,true] [] rfl oK ?_
              have hr:digP ((bl s).drop a0) 0 0=(0,k+1,3):=by rw [he,digP,if_neg h9,if_pos h128,if_pos ⟨hz0,hk0⟩]
              exact At.ret [] rfl Tryz.func175 rfl trivial ⟨by rw [hr]; rfl,by rw [hr]; rfl,rfl⟩
            · refine At.run 100 true [true,true,false] [] rfl oK ?_
              have hr:digP ((bl s).drop a0) 0 0=(acc+c.toNat % 128 * 128 ^ k,k+1,0):=by rw [he,hm,digP,if_neg h9,if_pos h128,if_neg (by omega)]
              exact At.ret [] rfl Tryz.func175 rfl trivial ⟨by rw [hr]; rfl,by rw [hr]; rfl,rfl⟩
          · refine At.run 100 true [true,false,false] [] rfl oK ?_
            have hr:digP ((bl s).drop a0) 0 0=(acc+c.toNat % 128 * 128 ^ k,k+1,0):=by rw [he,hm,digP,if_neg h9,if_pos h128,if_neg (by omega)]
            exact At.ret [] rfl Tryz.func175 rfl trivial ⟨by rw [hr]; rfl,by rw [hr]; rfl,rfl⟩
        · have hlt:k < 9:=by omega
          refine At.run 100 true [false] [] rfl oK ?_
          refine At.weak (ih ((bl s).length - (a0+(k+1))) _ _ _ (by omega) ⟨k+1,acc+c.toNat % 128 * 128 ^ k,rfl,by omega,by omega,?_,?_,rfl,bx_eq3 (by omega),rfl⟩) ⟨rfl,rfl,some_int_eq (by omega),trivial⟩
          · have h3:c.toNat % 128 * 128 ^ k≤127 * 128 ^ k:=Nat.mul_le_mul_right _ (by omega)
            rw [Nat.pow_succ]; omega
          · rw [he,digP,if_neg h9,if_neg h128]
end Go.Proofs

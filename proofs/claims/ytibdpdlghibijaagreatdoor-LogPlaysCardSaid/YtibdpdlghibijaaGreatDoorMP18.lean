/-
  Walks of layer 2: words turned and mixed.
-/
import Derived.Test.YtibdpdlghibijaaGreatDoorMP16
import Derived.Test.YtibdpdlghibijaaGreatDoorMP7
import Derived.Test.YtibdpdlghibijaaGreatDoorMP1
import Derived.Test.YtibdpdlghibijaaGreatDoorMP12
import Derived.Test.YtibdpdlghibijaaGreatDoorProg
import Derived.Test.YtibdpdlghibijaaGreatDoorMP5
namespace Go.Proofs
open Go Go.Eng
set_option maxRecDepth 100000
set_option maxHeartbeats 4000000
attribute [local irreducible] Tri
theorem and31:∀ k:Nat,k≤31→1≤k→iand .u64 (IntKind.u64.wrap (-(k:Int))) 31=((32 - k:Nat):Int):=by decide +kernel
theorem Tryz.rotl_w (x:BitVec 32) (k:Nat) (hk:1≤k∧k≤31) (w:World):Fun Tryz.prog 195 [v32 x,.int .i64 (-(k:Int))] w (v32 (rot x k)):=by
  have hi:iand .u64 (IntKind.u64.wrap (-(k:Int))) 31=((32 - k:Nat):Int):=and31 k hk.2 hk.1
  have e1:min (((32 - k:Nat):Int)).toNat IntKind.u32.bits=32 - k:=by
    have:IntKind.u32.bits=32:=rfl
    rw [this,Int.toNat_natCast]; omega
  have hj:IntKind.u64.wrap (32 - ((32 - k:Nat):Int))=(k:Int):=by rw [wrap_of_in (by simp only [inK]; omega)]; omega
  have e2:min ((k:Int)).toNat IntKind.u32.bits=k:=by
    have:IntKind.u32.bits=32:=rfl
    rw [this,Int.toNat_natCast]; omega
  refine Tri.enter (bx:=[]) (hp:=[]) Tryz.func195 rfl (by kernel_rfl) rfl (Own.nil w) ?_
  refine At.gw [] [] rfl (by and_intros <;> first | (rw [hi]; omega) | (rw [hi,hj]; omega) | exact oK) ?_
  rw [hi,hj,e1,e2,w_shl,w_shr,w_or]
  refine At.rt [] [] [] Tryz.func195 ?_
  exact⟨rfl,rfl,rfl⟩
theorem Tryz.turned_w (x:BitVec 32) (k:Nat) (hk:1≤k∧k≤31) (w:World):Fun Tryz.prog 189 [v32 x,.int .i64 k] w (v32 (rot x k)):=by
  have fR:∀ {S:Base}{bx:Bx}{hp:List Seg},CallOb Tryz.prog S bx hp 195 [v32 x,.int .i64 (0 - (k:Int))] (v32 (rot x k)):=fun {_ _ _} w' _=>by rw [Int.zero_sub]; exact Tryz.rotl_w x k hk w'
  refine Tri.enter (bx:=[]) (hp:=[]) Tryz.func189 rfl (by kernel_rfl) rfl (Own.nil w) ?_
  refine At.go [] [hC (.int .u32 ↑(rot x k).toNat)] rfl (by and_intros <;> first | exact fR | exact oK) ?_
  refine At.rt [] [] [] Tryz.func189 ?_
  exact⟨rfl,rfl,rfl⟩
theorem Tryz.mixed_w (x:BitVec 32) (a b:Nat) (c:BitVec 32) (ha:1≤a∧a≤31) (hb':1≤b∧b≤31) (w:World):Fun Tryz.prog 188 [v32 x,.int .i64 a,.int .i64 b,v32 c] w (v32 (rot x a ^^^ rot x b ^^^ c)):=by
  have fA:∀ {S:Base}{bx:Bx}{hp:List Seg},CallOb Tryz.prog S bx hp 189 [v32 x,.int .i64 a] (v32 (rot x a)):=fun {_ _ _} w' _=>Tryz.turned_w x a ha w'
  have fB:∀ {S:Base}{bx:Bx}{hp:List Seg},CallOb Tryz.prog S bx hp 189 [v32 x,.int .i64 b] (v32 (rot x b)):=fun {_ _ _} w' _=>Tryz.turned_w x b hb' w'
  refine Tri.enter (bx:=[]) (hp:=[]) Tryz.func188 rfl (by kernel_rfl) rfl (Own.nil w) ?_
  refine At.go [] [hC (.int .u32 ↑(rot x a).toNat),hC (.int .u32 ↑(rot x b).toNat)] rfl (by and_intros <;> first | exact fA | exact fB | exact oK) ?_
  rw [w_xor,w_xor]
  refine At.rt [] [] [] Tryz.func188 ?_
  exact⟨rfl,rfl,rfl⟩
theorem Tryz.word_w (l:List UInt8) (a:Option Addr) (n cap:Nat) (w:World) (hn:l.length=n) (h4:4≤n) (hrow:SlOk w a (u8s l)):Fun Tryz.prog 187 [.slice a n cap] w (v32 (wordAt l 0)):=by
  obtain⟨g,o,rfl,hc⟩:=hrow.get (by intro e; have:=congrArg List.length e; rw [u8s_len,hn] at this; simp at this; omega)
  have r:∀ {bx:Bx}{hp:List Seg}(i:Nat),i < 4→∀ off,off=o+i→RdW ⟨w,kys [] []⟩ bx hp g off [.int .u8 (at8 l i).toNat]:=fun {_ _} i hi off ho=>by
    subst ho
    exact RdW.base1 (by simp [kys]) (hc i _ (by simp only [u8s,List.getElem?_map,at8_get (show i < l.length by omega)]; rfl))
  have q:∀ i,(0:Int)≤(at8 l i).toNat∧((at8 l i).toNat:Int)≤255:=fun i=>by have:=(at8 l i).toNat_lt; omega
  have q0:=q 0; have q1:=q 1; have q2:=q 2; have q3:=q 3
  have f0:inK .u32 ((at8 l 0).toNat:Int):=by simp only [inK]; omega
  have f1:inK .u32 ((at8 l 1).toNat:Int):=by simp only [inK]; omega
  have f2:inK .u32 ((at8 l 2).toNat:Int):=by simp only [inK]; omega
  have f3:inK .u32 ((at8 l 3).toNat:Int):=by simp only [inK]; omega
  clear q q0 q1 q2 q3
  refine Tri.enter (bx:=[]) (hp:=[]) Tryz.func187 rfl (by kernel_rfl) rfl (Own.nil w) ?_
  refine At.go [] [] rfl (by and_intros <;> first | exact r 0 (by decide) _ rfl | exact r 1 (by decide) _ rfl | exact r 2 (by decide) _ rfl | exact r 3 (by decide) _ rfl | exact f0.1 | exact f0.2 | exact f1.1 | exact f1.2 | exact f2.1 | exact f2.2 | exact f3.1 | exact f3.2 | exact f0 | exact f1 | exact f2 | exact f3 | exact oK) ?_
  refine At.qt [] [hR [.int .u8 ↑(at8 l 0).toNat],hR [.int .u8 ↑(at8 l 1).toNat],hR [.int .u8 ↑(at8 l 2).toNat],hR [.int .u8 ↑(at8 l 3).toNat]] rfl rfl (by and_intros <;> first | exact r 0 (by decide) _ rfl | exact r 1 (by decide) _ rfl | exact r 2 (by decide) _ rfl | exact r 3 (by decide) _ rfl | exact f0.1 | exact f0.2 | exact f1.1 | exact f1.2 | exact f2.1 | exact f2.2 | exact f3.1 | exact f3.2 | exact f0 | exact f1 | exact f2 | exact f3 | exact oK) ?_
  refine At.go [] [] rfl (by and_intros <;> first | exact r 0 (by decide) _ rfl | exact r 1 (by decide) _ rfl | exact r 2 (by decide) _ rfl | exact r 3 (by decide) _ rfl | exact f0.1 | exact f0.2 | exact f1.1 | exact f1.2 | exact f2.1 | exact f2.2 | exact f3.1 | exact f3.2 | exact f0 | exact f1 | exact f2 | exact f3 | exact oK) ?_
  rw [word_val]
  refine At.rt [] [] [] Tryz.func187 ?_
  exact⟨rfl,rfl,rfl⟩
theorem Tryz.put2_w (out:List UInt8) (og:Option Nat) (oc:Nat) (n size:Nat) (w:World) (_hn:n < 18446744073709551616) (hs:size≤8) (hout:out.length≤1000000) (hown:Own [] [Seg.row og 5 1 out.length oc (u8s out)] w) :
    Tri Tryz.prog 170 [sv og out.length oc,.int .u64 n,.int .i64 size] w (kys [] [Seg.row og 5 1 out.length oc (u8s out)])
      (fun v bx hp=>∃ (g:Option Nat) (c:Nat),v=sv g (out++beB n size).length c∧bx=[]∧hp=[Seg.row g 5 1 (out++beB n size).length c (u8s (out++beB n size))]):=by
  refine Tri.enter Tryz.func170 rfl (by kernel_rfl) rfl hown ?_
  refine At.go [] [] rfl (by and_intros <;> first | exact trivial | exact oK) ?_
  refine At.loop (env0:=[(0,.slice (svA og) out.length oc),(1,.int .u64 ↑n),(7,.int .i64 (↑size - 1))]) (fun m_ env bx hp => ∃ (k:Nat) (l:List UInt8) (g:Option Nat) (c:Nat),m_=k+1∧(l++beB n k=out++beB n size)∧(k≤8)∧(l.length+k≤1000008)∧env=[(0,sv g l.length c),(1,.int .u64 ↑n),(7,.int .i64 ((k:Int) - 1))]∧bx=[]∧hp=[Seg.row g 5 1 l.length c (u8s l)]) rfl
    ⟨size,out,og,oc,rfl,(rfl),(hs),(by omega),rfl,rfl,rfl⟩ sB ?_
  rintro m_ env bx hp ⟨k,l,g,c,rfl,hl,hk,hll,rfl,rfl,rfl⟩ ih
  cases k with
  | zero =>
    rw [show beB n 0=[] from rfl,List.append_nil] at hl
    refine At.go [false] [] rfl (by and_intros <;> first | (simp; done) | exact oK) ?_
    rw [← hl]
    refine At.rt [] [true] [] Tryz.func170 ?_
    exact⟨g,c,rfl,rfl,rfl⟩
  | succ k =>
    have hd:decide ((0:Int)≤((k+1:Nat):Int) - 1)=true:=decide_eq_true (by omega)
    have hm8:IntKind.i64.wrap (8 * (((k+1:Nat):Int) - 1))=8 * (k:Int):=by rw [wrap_of_in (by simp only [inK]; omega)]; omega
    have hm1:IntKind.i64.wrap (((k+1:Nat):Int) - 1 - 1)=(k:Int) - 1:=by rw [wrap_of_in (by simp only [inK]; omega)]; omega
    have hbv:=byte_val n k (by omega)
    refine At.gw [true] [] rfl (by and_intros <;> first | exact hd | (rw [hm8]; omega) | exact oK) ?_
    refine At.a1 0 1 1 fun b20 a21 c21=>?_
    refine At.gw [] [] rfl (by and_intros <;> first | exact hd | (rw [hm8]; omega) | exact oK) ?_
    rw [hm8,hm1,hbv,show u8s l++[.int .u8 ((UInt8.ofNat (n / 256 ^ k % 256)).toNat:Int)]=u8s (l++[UInt8.ofNat (n / 256 ^ k % 256)]) by simp [u8s],show l.length+1=(l++[UInt8.ofNat (n / 256 ^ k % 256)]).length by simp]
    exact At.weak (ih _ _ _ _ (by omega) ⟨k,l++[UInt8.ofNat (n / 256 ^ k % 256)],a21,c21,rfl,by rw [← hl,List.append_assoc]; rfl,by omega,by simp; omega,rfl,rfl,rfl⟩) sB
theorem prod_le {a b x y:Nat}(h1:a≤x) (h2:b≤y):0≤(a:Int) * b∧(a:Int) * b≤((x * y:Nat):Int):=by
  have:=Nat.mul_le_mul h1 h2
  rw [← Int.natCast_mul]; omega
theorem dec_lt (a b:Nat):decide ((a:Int) < (b:Int))=decide (a < b):=decide_eq_decide.2 (by omega)
theorem dec_eq' (a b:Nat):decide ((a:Int)=(b:Int))=decide (a=b):=decide_eq_decide.2 (by omega)
theorem dec_zero (a:Nat):decide ((a:Int)=0)=decide (a=0):=decide_eq_decide.2 (by omega)
theorem Tryz.below_w (x p:Nat) (cube:Bool) (w:World) (hx:x≤137438953472) (_hp':p≤1000):Fun Tryz.prog 114 [.int .u64 x,.int .u64 p,.bool cube] w (.bool (belowW x p cube)):=by
  obtain⟨hi,hhi⟩:∃ hi,x / 4294967296=hi:=⟨_,rfl⟩
  obtain⟨lo,hlo⟩:∃ lo,x % 4294967296=lo:=⟨_,rfl⟩
  have h1:hi≤32:=by omega
  have h2:lo≤4294967295:=by omega
  have i1:(x:Int) / 4294967296=hi:=by omega
  have i2:(x:Int) % 4294967296=lo:=by omega
  have n1:=prod_le h2 h2
  have n2:=prod_le (show 2 * hi≤64 by omega) h2
  have n3:=prod_le h1 h1
  have e2:((2 * hi:Nat):Int) * (lo:Int)=2 * (hi:Int) * lo:=by rw [Int.natCast_mul]; rfl
  rw [e2] at n2
  have f1:inK .u64 ((lo:Int) * lo):=by simp only [inK]; omega
  have f2:inK .u64 (2 * (hi:Int) * lo):=by simp only [inK]; omega
  have f3:inK .u64 ((hi:Int) * hi):=by simp only [inK]; omega
  have f4:inK .u64 (2 * (hi:Int)):=by simp only [inK]; omega
  refine Tri.enter (bx:=[]) (hp:=[]) Tryz.func114 rfl (by kernel_rfl) rfl (Own.nil w) ?_
  unfold belowW
  dsimp only
  rw [hhi,hlo]
  obtain⟨A,hA⟩:∃ A,lo * lo=A:=⟨_,rfl⟩
  obtain⟨B,hB'⟩:∃ B,2 * hi * lo=B:=⟨_,rfl⟩
  obtain⟨C,hC'⟩:∃ C,hi * hi=C:=⟨_,rfl⟩
  have j1:(lo:Int) * lo=(A:Int):=by rw [← hA,Int.natCast_mul]
  have j2:2 * (hi:Int) * lo=(B:Int):=by rw [← hB',Int.natCast_mul,Int.natCast_mul]; rfl
  have j3:(hi:Int) * hi=(C:Int):=by rw [← hC',Int.natCast_mul]
  rw [hA,hB',hC']
  refine At.gn 9 [] [] rfl (by and_intros <;> first | (simp only; omega) | exact oK) ?_
  rw [i1,i2]
  refine At.gn 4 [] [] rfl (by and_intros <;> first | exact f1 | exact f2 | exact f3 | exact f4 | exact oK) ?_
  rw [j1,j2,j3]
  rw [j1] at n1; rw [j2] at n2; rw [j3] at n3
  clear f1 f2 f3 f4 j1 j2 j3 e2
  obtain⟨B1,hB1⟩:∃ B1,B+A / 4294967296=B1:=⟨_,rfl⟩
  obtain⟨A1,hA1⟩:∃ A1,A % 4294967296=A1:=⟨_,rfl⟩
  obtain⟨C1,hC1⟩:∃ C1,C+B1 / 4294967296=C1:=⟨_,rfl⟩
  obtain⟨B2,hB2⟩:∃ B2,B1 % 4294967296=B2:=⟨_,rfl⟩
  have b1:B1≤279172874239+4294967296:=by omega
  have c1:C1≤2000:=by omega
  have a1:A1≤4294967295:=by omega
  have b2:B2≤4294967295:=by omega
  rw [hB1,hA1,hC1,hB2]
  have k1:(B:Int)+(A:Int) / 4294967296=(B1:Int):=by omega
  have k2:(A:Int) % 4294967296=(A1:Int):=by omega
  have k3:(C:Int)+(B1:Int) / 4294967296=(C1:Int):=by omega
  have k4:(B1:Int) % 4294967296=(B2:Int):=by omega
  refine At.gn 4 [] [] rfl (by and_intros <;> first | (simp only; omega) | exact oK) ?_
  rw [k1]
  refine At.gn 4 [] [] rfl (by and_intros <;> first | (simp only; omega) | exact oK) ?_
  rw [k2]
  refine At.gn 4 [] [] rfl (by and_intros <;> first | (simp only; omega) | exact oK) ?_
  rw [k3]
  refine At.gn 5 [] [] rfl (by and_intros <;> first | (simp only; omega) | exact oK) ?_
  rw [k4]
  clear k1 k2 k3 k4 hA hB' hC' n1 n2 n3 hhi hlo i1 i2
  cases cube with
  | false =>
    simp only [Bool.false_eq_true,if_false]
    rw [← dec_lt C1 p,← dec_eq' C1 p,← dec_zero A1,← dec_zero B2]
    cases q1:decide ((C1:Int) < (p:Int)) with
    | true =>
      refine At.go [true,true] [] rfl (by and_intros <;> first | exact q1 | (simp; done) | exact oK) ?_
      refine At.rt [] [] [] Tryz.func114 ?_
      exact⟨rfl,rfl,rfl⟩
    | false =>
      cases q2:decide ((C1:Int)=(p:Int)) with
      | false =>
        refine At.go [true,false,false,false] [] rfl (by and_intros <;> first | exact q1 | exact q2 | (simp; done) | exact oK) ?_
        refine At.rt [] [] [] Tryz.func114 ?_
        exact⟨rfl,rfl,rfl⟩
      | true =>
        cases q3:decide ((A1:Int)=0) with
        | false =>
          refine At.go [true,false,true,false] [] rfl (by and_intros <;> first | exact q1 | exact q2 | exact q3 | (simp; done) | exact oK) ?_
          refine At.rt [] [] [] Tryz.func114 ?_
          exact⟨rfl,rfl,rfl⟩
        | true =>
          refine At.go [true,false,true,true] [] rfl (by and_intros <;> first | exact q1 | exact q2 | exact q3 | (simp; done) | exact oK) ?_
          refine At.rt [] [] [] Tryz.func114 ?_
          exact⟨rfl,rfl,rfl⟩
  | true =>
    simp only [if_true]
    have g1:=prod_le a1 h2
    have g2:=prod_le a1 h1
    have g3:=prod_le b2 h2
    have g4:=prod_le b2 h1
    have g5:=prod_le c1 h2
    have g6:=prod_le c1 h1
    obtain⟨D0,hD0⟩:∃ D0,A1 * lo=D0:=⟨_,rfl⟩
    obtain⟨M,hM⟩:∃ M,A1 * hi=M:=⟨_,rfl⟩
    obtain⟨N,hN⟩:∃ N,B2 * lo=N:=⟨_,rfl⟩
    obtain⟨BH,hBH⟩:∃ BH,B2 * hi=BH:=⟨_,rfl⟩
    obtain⟨CL,hCL⟩:∃ CL,C1 * lo=CL:=⟨_,rfl⟩
    obtain⟨CH,hCH⟩:∃ CH,C1 * hi=CH:=⟨_,rfl⟩
    have j1:(A1:Int) * lo=(D0:Int):=by rw [← hD0,Int.natCast_mul]
    have j2:(A1:Int) * hi=(M:Int):=by rw [← hM,Int.natCast_mul]
    have j3:(B2:Int) * lo=(N:Int):=by rw [← hN,Int.natCast_mul]
    have j4:(B2:Int) * hi=(BH:Int):=by rw [← hBH,Int.natCast_mul]
    have j5:(C1:Int) * lo=(CL:Int):=by rw [← hCL,Int.natCast_mul]
    have j6:(C1:Int) * hi=(CH:Int):=by rw [← hCH,Int.natCast_mul]
    rw [j1] at g1; rw [j2] at g2; rw [j3] at g3; rw [j4] at g4; rw [j5] at g5; rw [j6] at g6
    have d0:D0≤18446744065119617025:=by omega
    have m0:M≤137438953440:=by omega
    have n0:N≤18446744065119617025:=by omega
    have bh0:BH≤137438953440:=by omega
    have cl0:CL≤8589934590000:=by omega
    have ch0:CH≤64000:=by omega
    clear g1 g2 g3 g4 g5 g6
    rw [hD0,hM,hN,hBH,hCL,hCH]
    clear hD0 hM hN hBH hCL hCH
    obtain⟨D1,hD1⟩:∃ D1,D0 / 4294967296+M % 4294967296+N % 4294967296=D1:=⟨_,rfl⟩
    rw [hD1]
    obtain⟨D2,hD2⟩:∃ D2,D1 / 4294967296+M / 4294967296+N / 4294967296+BH+CL=D2:=⟨_,rfl⟩
    rw [hD2]
    obtain⟨D3,hD3⟩:∃ D3,CH+D2 / 4294967296=D3:=⟨_,rfl⟩
    rw [hD3]
    obtain⟨Z0,hZ0⟩:∃ Z0,D0 % 4294967296=Z0:=⟨_,rfl⟩
    obtain⟨Z1,hZ1⟩:∃ Z1,D1 % 4294967296=Z1:=⟨_,rfl⟩
    obtain⟨Z2,hZ2⟩:∃ Z2,D2 % 4294967296=Z2:=⟨_,rfl⟩
    rw [hZ0,hZ1,hZ2]
    have o0:(D0:Int) % 4294967296=(Z0:Int):=by omega
    have o1:(D1:Int) % 4294967296=(Z1:Int):=by omega
    have o2:(D2:Int) % 4294967296=(Z2:Int):=by omega
    have p1:(D0:Int) / 4294967296+(M:Int) % 4294967296+(N:Int) % 4294967296=(D1:Int):=by omega
    have p2:(D1:Int) / 4294967296+(M:Int) / 4294967296+(N:Int) / 4294967296+(BH:Int)+(CL:Int)=(D2:Int):=by omega
    have p3:(CH:Int)+(D2:Int) / 4294967296=(D3:Int):=by omega
    refine At.gn 13 [false] [] rfl (by and_intros <;> first | (rw [j1]; omega) | (rw [j2]; omega) | (rw [j3]; omega) | exact oK) ?_
    rw [j1,j2,j3]
    refine At.gn 4 [] [] rfl (by and_intros <;> first | (simp only; omega) | exact oK) ?_
    rw [p1]
    refine At.gn 4 [] [] rfl (by and_intros <;> first | (rw [j4]; omega) | (rw [j5]; omega) | (rw [j4,j5]; omega) | exact oK) ?_
    rw [j4,j5,p2]
    refine At.gn 4 [] [] rfl (by and_intros <;> first | (rw [j6]; omega) | exact oK) ?_
    rw [j6,p3]
    clear p1 p2 p3 j1 j2 j3 j4 j5 j6 hD1 hD2 hD3 hZ0 hZ1 hZ2
    obtain⟨z,hz⟩:∃ z,(decide ((Z0:Int)=0) && decide ((Z1:Int)=0) && decide ((Z2:Int)=0))=z:=⟨_,rfl⟩
    rw [← dec_lt D3 p,← dec_eq' D3 p,← dec_zero Z0,← dec_zero Z1,← dec_zero Z2,hz]
    refine At.cutU (ι:=Unit) ⟨0,[0,1,1,1,1,1,1,1,1,1,1,1,1,1],[]⟩ (fun _=>[(1,.int .u64 p),(17,.int .u64 D3),(18,.bool z)]) (fun _=>[]) ?_ fun hk=>?_
    · rintro -
      cases q1:decide ((D3:Int) < (p:Int)) with
      | true =>
        refine At.go [true] [] rfl (by and_intros <;> first | exact q1 | (simp; done) | exact oK) ?_
        refine At.rt [] [] [] Tryz.func114 ?_
        exact⟨rfl,rfl,rfl⟩
      | false =>
        cases q2:decide ((D3:Int)=(p:Int)) with
        | false =>
          refine At.go [false,false] [] rfl (by and_intros <;> first | exact q1 | exact q2 | (simp; done) | exact oK) ?_
          refine At.rt [] [] [] Tryz.func114 ?_
          exact⟨rfl,rfl,rfl⟩
        | true =>
          refine At.go [false,true] [] rfl (by and_intros <;> first | exact q1 | exact q2 | (simp; done) | exact oK) ?_
          refine At.rt [] [] [] Tryz.func114 ?_
          exact⟨rfl,rfl,rfl⟩
    · have hk0:=hk ()
      cases z0:decide ((Z0:Int)=0) with
      | false =>
        rw [z0] at hz
        subst hz
        refine At.gn 4 [false,false] [] rfl (by and_intros <;> first | (rw [o0]; exact z0) | exact oK) ?_
        exact At.weak hk0 sB
      | true =>
        rw [z0] at hz
        cases z1:decide ((Z1:Int)=0) with
        | false =>
          rw [z1] at hz
          subst hz
          refine At.gn 4 [true,false] [] rfl (by and_intros <;> first | (rw [o0]; exact z0) | (rw [o1]; exact z1) | exact oK) ?_
          exact At.weak hk0 sB
        | true =>
          rw [z1] at hz
          subst hz
          refine At.gn 4 [true,true] [] rfl (by and_intros <;> first | (rw [o0]; exact z0) | (rw [o1]; exact z1) | exact oK) ?_
          rw [o2]
          exact At.weak hk0 sB
theorem Tryz.root_w (p:Nat) (cube:Bool) (w:World) (hp':p≤1000):Fun Tryz.prog 84 [.int .u64 p,.bool cube] w (v32 (rt32 p cube)):=by
  refine Tri.enter (bx:=[]) (hp:=[]) Tryz.func84 rfl (by kernel_rfl) rfl (Own.nil w) ?_
  refine At.go [] [] rfl (by and_intros <;> first | exact trivial | exact oK) ?_
  refine At.loop (env0:=[(0,.int .u64 ↑p),(1,.bool cube),(5,.int .u64 0),(6,.int .u64 68719476736)]) (fun m_ env bx hp => ∃ (k:Nat) (x:Nat),m_=k+1∧(rootW p cube k x=rootW p cube 37 0)∧(k≤37)∧(x+2 ^ k≤2 ^ 37)∧env=[(0,.int .u64 ↑p),(1,.bool cube),(5,.int .u64 x),(6,.int .u64 ((2 ^ k / 2:Nat):Int))]∧bx=[]∧hp=[]) rfl
    ⟨37,0,rfl,(rfl),(by omega),(by omega),rfl,rfl,rfl⟩ sB ?_
  rintro m_ env bx hp ⟨k,x,rfl,hr,hk,hb,rfl,rfl,rfl⟩ ih
  cases k with
  | zero =>
    have hx : x ≤ 137438953472 := by have h37 : (2 : Nat) ^ 37 = 137438953472 := by decide
                                     omega
    rw [show rootW p cube 0 x=x from rfl] at hr
    have hv:((x:Int) % 4294967296)=((rt32 p cube).toNat:Int):=by unfold rt32; rw [← hr,BitVec.toNat_ofNat]; omega
    refine At.go [false] [] rfl (by and_intros <;> first | (simp; done) | (simp only [inK]; omega) | exact oK) ?_
    rw [hv]
    refine At.rt [] [] [] Tryz.func84 ?_
    exact⟨rfl,rfl,rfl⟩
  | succ k =>
    have h37:(2:Nat) ^ 37=137438953472:=by decide
    have hpw:(2:Nat) ^ (k+1)=2 * 2 ^ k:=by rw [Nat.pow_succ]; omega
    have hd:((2 ^ (k+1) / 2:Nat):Int)=((2 ^ k:Nat):Int):=by omega
    have hpos:0 < (2:Nat) ^ k:=Nat.pow_pos (by decide)
    rw [hd]
    obtain⟨b,hbk⟩:∃ b,(2:Nat) ^ k=b:=⟨_,rfl⟩
    rw [hbk] at hpw hpos ⊢
    rw [hpw,h37] at hb
    have hsum:(x:Int)+(b:Int)=((x+b:Nat):Int):=by omega
    have hhalf:(b:Int) / 2=((2 ^ k / 2:Nat):Int):=by rw [hbk]; omega
    have hr2:rootW p cube (k+1) x=rootW p cube k (if belowW (x+b) p cube then x+b else x):=by rw [← hbk]; rfl
    rw [hr2] at hr
    obtain⟨q,hq⟩:∃ q,belowW (x+b) p cube=q:=⟨_,rfl⟩
    rw [hq] at hr
    have fB:∀ {S:Base}{bx:Bx}{hp:List Seg},CallOb Tryz.prog S bx hp 114 [.int .u64 ((x:Int)+(b:Int)),.int .u64 p,.bool cube] (.bool q):=fun {_ _ _} w' _=>by
      rw [hsum,← hq]; exact Tryz.below_w (x+b) p cube w' (by omega) hp'
    have hgt:decide ((0:Int) < (b:Int))=true:=decide_eq_true (by omega)
    cases q with
    | true =>
      refine At.go [true,true] [hC (.bool true)] rfl (by and_intros <;> first | exact fB | exact hgt | (simp only; omega) | exact oK) ?_
      rw [hsum,hhalf]
      exact At.weak (ih _ _ _ _ (by omega) ⟨k,x+b,rfl,hr,by omega,by rw [hbk,h37]; omega,rfl,rfl,rfl⟩) sB
    | false =>
      refine At.go [true,false] [hC (.bool false)] rfl (by and_intros <;> first | exact fB | exact hgt | (simp only; omega) | exact oK) ?_
      rw [hhalf]
      exact At.weak (ih _ _ _ _ (by omega) ⟨k,x,rfl,hr,by omega,by rw [hbk,h37]; omega,rfl,rfl,rfl⟩) sB
theorem Tryz.zeroBytes:∀ w,(zeroValue 109).run Tryz.prog w=.ok (sv none 0 0) w:=by
  have h:(match Tryz.prog.info? 109 with | some i=>(match i.zero with | some (.slice none 0 0)=>true | _=>false) | none=>false)=true:=by kernel_rfl
  intro w
  split at h
  · rename_i i hi
    split at h
    · rename_i hz
      exact run_zero hi hz
    · cases h
  · cases h
theorem Tryz.filesT:Tryz.prog.underlying 90=some (.map 9 109):=by kernel_rfl
theorem Tryz.strT:Tryz.prog.underlying 9=some .string:=by kernel_rfl
theorem Tryz.cloneB_w (l:List UInt8) (a:Option Addr) (cap:Nat) (w:World) (hl:0 < l.length) (hmax:l.length≤16777216) (hrow:SlOk w a (u8s l)) :
    Tri Tryz.prog 87 [.slice a l.length cap] w [] (fun v bx hp=>∃ g c,v=sv (some g) l.length c∧bx=[]∧hp=[Seg.row (some g) 5 1 l.length c (u8s l)]):=by
  refine Tri.enter (bx:=[]) (hp:=[]) Tryz.func87 rfl (by kernel_rfl) rfl (Own.nil w) ?_
  have hne:u8s l≠[]:=by intro h; have:=congrArg List.length h; rw [u8s_len] at this; change l.length=0 at this; omega
  obtain⟨b,o,rfl,hc⟩:=hrow.get hne
  refine At.run 100 true [false] [] rfl oK ?_
  refine At.step [] rfl rfl rfl rfl rfl trivial (OpOk.buildNil rfl rfl rfl fun g hg=>?_)
  refine At.run 100 true [] [] rfl oK ?_
  refine At.step [] rfl rfl rfl rfl rfl trivial (OpOk.appendSl 0 1 1 (u8s l) rfl rfl rfl rfl rfl rfl rfl (fun w' hw'=>hrow.ext hw'.ext (by simp [kys])) (by rw [u8s_len]; omega) hne (u8s_one l) (by omega) (by omega) (fun a' c'=>?_))
  rw [Nat.zero_add,List.nil_append]
  refine At.run 100 true [] [] rfl oK ?_
  refine At.rowSome 0 rfl hl (fun g' hg'=>?_)
  subst hg'
  refine At.keep [] [true] rfl ?_
  exact At.ret [] rfl Tryz.func87 rfl trivial ⟨g',c',rfl,rfl,rfl⟩
theorem Tryz.write_w (b:Nat) (F:List FileE) (n:List UInt8) (at0:Nat) (s:List UInt8) (w:World) (hown:Own [] [Seg.files 5 b F] w) (hs:0 < s.length) (h1:at0+s.length≤16777216) (h2:(bytesF F n).length≤16777216) :
    Tri Tryz.prog 46 [.map (some b),str n,.int .i64 at0,str s] w (kys [] [Seg.files 5 b F])
      (fun v bx hp=>v=.tuple #[]∧bx=[]∧∃ g c,hp=[Seg.files 5 b (putF F ⟨n,wrB (bytesF F n) at0 s,g,c⟩)]):=by
  refine Tri.enter (bx:=[]) (hp:=[Seg.files 5 b F]) Tryz.func46 rfl (by kernel_rfl) rfl hown ?_
  have hF0:=hown.files (t:=5) (b:=b) (F:=F) (by simp)
  obtain⟨a,c,hv,-⟩:=hF0.slF n
  have hLk:LookOb Tryz.prog ⟨w,kys [] [Seg.files 5 b F]⟩ [] [Seg.files 5 b F] 90 (.map (some b)) (str n) false (valF F n):=LookOb.file Tryz.filesT Tryz.strT Tryz.zeroBytes (fun w' hw'=>hw'.files (t:=5) (by simp))
  rw [hv] at hLk
  have hsz:(bl ⟨s.toArray⟩).length=s.length:=by rw [bl_of]
  refine At.run 100 true [] [hL (.slice a (bytesF F n).length c)] rfl (by and_intros <;> first | exact hLk | exact oK) ?_
  have hwl:=wrB_len (bytesF F n) at0 s
  have hole:=u8s_len (bytesF F n)
  have hsle:=u8s_len s
  refine At.step [] rfl rfl rfl rfl rfl trivial (OpOk.makeSlice (sz:=1) (by_:=1) (xs:=u8s (List.replicate (wrB (bytesF F n) at0 s).length 0)) (wrB (bytesF F n) at0 s).length rfl rfl rfl rfl (some_int_eq (by rw [hsz]; omega)) (some_int_eq (by rw [hsz]; omega)) (by omega) (by omega) (by omega) (by simp [u8s_len]) (fun j hj=>by
    rw [u8s_rep,List.getElem?_replicate]
    simp at hj
    simp [hj,Nat.mod_one]) (by decide) (fun g=>?_))
  refine At.run 100 true [] [] rfl oK ?_
  refine At.step [] rfl rfl rfl rfl rfl trivial (OpOk.copyInto (m:=(bytesF F n).length) (u:=u8s (bytesF F n)) 0 rfl rfl rfl rfl (fun w' hw'=>?_) (u8s_one _) (by omega) (by rw [u8s_len,List.length_replicate]; omega) ?_)
  · obtain⟨a2,c2,hv2,hsl⟩:=(hw'.files (t:=5) (b:=b) (F:=F) (by simp)).slF n
    rw [hv] at hv2
    injection hv2 with e1 e2 e3
    subst e1
    have:=SrcOk.sl (P:=Tryz.prog) c hsl
    rw [u8s_len] at this; exact this
  rw [List.take_of_length_le (Nat.le_of_eq hole),← u8s_putL]
  refine At.run 100 true [] [] rfl oK ?_
  refine At.step [] rfl rfl rfl rfl rfl trivial (OpOk.copyInto (m:=s.length) (u:=u8s (bl ⟨s.toArray⟩)) 0 rfl rfl rfl rfl (fun w' hw'=>SrcOk.str _) (u8s_one _) (by rw [bl_of,hsle]; omega) (by rw [u8s_len,putL_len,List.length_replicate]; omega) ?_)
  have e2:putL (u8s (putL (List.replicate (wrB (bytesF F n) at0 s).length 0) 0 (bytesF F n))) (0+(at0:Int).toNat * 1) (List.take s.length (u8s (bl ⟨s.toArray⟩)))=u8s (wrB (bytesF F n) at0 s):=by
    rw [bl_of,List.take_of_length_le (Nat.le_of_eq hsle),show 0+(at0:Int).toNat * 1=at0 by omega,← u8s_putL,hwl]
    rfl
  rw [e2]
  simp only [setL]
  refine At.run 100 true [] [] rfl oK ?_
  refine At.step0 [] rfl rfl rfl rfl trivial (OpOk.filesPut ⟨n,wrB (bytesF F n) at0 s,g,(wrB (bytesF F n) at0 s).length⟩ rfl rfl rfl rfl Tryz.filesT Tryz.strT ?_)
  refine At.run 100 true [] [] rfl oK ?_
  exact At.ret [] rfl Tryz.func46 rfl trivial ⟨rfl,rfl,g,_,rfl⟩
def usedF (F:List FileE):Nat:=(F.map fun f=>f.bytes.length).sum
def atF {α:Type}(F:List α) (f:α→Nat) (i:Nat):Nat:=match F[i]? with
  | some x => f x
  | none => 0
theorem sum_all {α:Type}(F:List α) (f:α→Nat):((List.range F.length).map (atF F f)).sum=(F.map f).sum:=by
  congr 1
  apply List.ext_getElem?
  intro i
  rw [List.getElem?_map,List.getElem?_map]
  rcases Nat.lt_or_ge i F.length with h | h
  · rw [List.getElem?_range h,List.getElem?_eq_getElem h]
    simp [atF,List.getElem?_eq_getElem h]
  · rw [List.getElem?_eq_none h,List.getElem?_eq_none (by simpa using h)]; rfl
theorem sum_range {α:Type}(F:List α) (f:α→Nat) {T:List Nat}(hp:T.Perm (List.range F.length)):(T.map (atF F f)).sum=(F.map f).sum:=by
  rw [← sum_all F f]
  exact (hp.map (atF F f)).sum_nat
theorem sum_part {α:Type}(F:List α) (f:α→Nat) {T:List Nat}(hn:T.Nodup) (h1:∀ i,i∈T→i < F.length):(T.map (atF F f)).sum≤(F.map f).sum:=by
  have hp:(T++(List.range F.length).filter fun i=>!T.contains i).Perm (List.range F.length):=by
    rw [List.perm_ext_iff_of_nodup _ List.nodup_range]
    · intro a
      simp only [List.mem_append,List.mem_filter,List.mem_range,Bool.not_eq_true',List.contains_eq_mem,decide_eq_false_iff_not]
      constructor
      · rintro (h | h)
        · exact h1 a h
        · exact h.1
      · intro h
        by_cases hT:a∈T
        · exact .inl hT
        · exact .inr ⟨h,hT⟩
    · rw [List.nodup_append]
      refine⟨hn,List.nodup_range.sublist List.filter_sublist,fun a ha b hb e=>?_⟩
      subst e
      simp only [List.mem_filter,Bool.not_eq_true',List.contains_eq_mem,decide_eq_false_iff_not] at hb
      exact hb.2 ha
  have h2:=sum_range F f hp
  rw [List.map_append,List.sum_append] at h2
  omega
theorem sum_snoc {α:Type}{F:List α}{f:α→Nat}{T:List Nat}{i:Nat}{x:α}(h:F[i]?=some x):((T++[i]).map (atF F f)).sum=(T.map (atF F f)).sum+f x:=by
  rw [List.map_append,List.sum_append]
  simp [atF,h]
theorem Tryz.used_w (b:Nat) (F:List FileE) (w:World) (hF:FilesOk w 5 b F) (hu:usedF F≤9223372036854775807):Fun Tryz.prog 86 [.map (some b)] w (.int .i64 (usedF F)):=by
  refine Tri.enter (bx:=[]) (hp:=[]) Tryz.func86 rfl (by kernel_rfl) rfl (Own.nil w) ?_
  obtain⟨es,clock,hb,hst,hks,hL⟩:=hF.map
  have hlt:=(Array.getElem?_eq_some_iff.1 hb).1
  have hM:∀ {bx:Bx}{hp:List Seg}{w':World},WOk ⟨w,kys [] []⟩ bx hp w'→w'.heap[b]?=some (.map es clock):=fun {_ _ w'} hw'=>by rw [hw'.ext.block b hlt (by simp [kys])]; exact hb
  refine At.run 100 true [] [] rfl oK ?_
  refine At.step [] rfl rfl rfl rfl rfl trivial (OpOk.rangeMap rfl rfl Tryz.filesT (fun w' hw'=>hM hw') fun r=>?_)
  refine At.run 100 true [] [] rfl oK ?_
  have hes:es.size=F.length:=by have:=congrArg List.length hL; simpa using this
  refine At.loop (n:=leftN F.length []) (env0:=[(7,.pointer (some ⟨r,0,none⟩)),(3,.int .i64 0)]) (fun m env bx hp => ∃ T:List Nat,m=leftN F.length T∧T.Nodup∧(∀ i,i∈T→i < F.length) ∧
    env=[(7,.pointer (some ⟨r,0,none⟩)),(3,.int .i64 ((T.map (atF F fun f=>f.bytes.length)).sum:Nat))]∧bx=[]∧hp=[Seg.iter r b es clock T]) rfl ⟨[],by simp,by simp,by simp,rfl,rfl,rfl⟩ ⟨rfl,rfl,trivial⟩ ?_
  rintro m env bx hp ⟨T,rfl,hn,hT,rfl,rfl,rfl⟩ ih
  refine At.run 100 true [] [] rfl trivial ?_
  refine At.step [] rfl rfl rfl rfl rfl trivial (OpOk.nextMap 0 rfl rfl rfl (fun w' hw'=>hM hw') hst (fun i hi=>by rw [hes]; exact hT i hi) (fun hall=>?_) (fun i e hi he=>?_))
  · have hp:=perm_range hn hT (fun i hi => hall i (by rw [hes]; exact hi))
    have hs:=sum_range F (fun f=>f.bytes.length) hp
    rw [hs]
    refine At.run 100 true [false] [] rfl oK ?_
    exact At.retK [] [] [] rfl rfl Tryz.func86 rfl trivial ⟨rfl,rfl,rfl⟩
  · have hil:i < F.length:=by rw [← hes]; exact (Array.getElem?_eq_some_iff.1 he).1
    obtain⟨f,hf⟩:∃ f,F[i]?=some f:=⟨_,List.getElem?_eq_getElem hil⟩
    have hee:(e.key,e.val)=f.ent:=by
      have h1:(es.toList.map fun e=>(e.key,e.val))[i]?=some (e.key,e.val):=by rw [List.getElem?_map,Array.getElem?_toList,he]; rfl
      rw [hL,List.getElem?_map,hf] at h1
      exact (Option.some.inj h1).symm
    have hpart:=sum_part F (fun f=>f.bytes.length) (nodup_snoc hn hi) (lt_snoc hT hil)
    rw [sum_snoc hf] at hpart
    have hu':(F.map fun f=>f.bytes.length).sum≤9223372036854775807:=hu
    obtain⟨k,v,born⟩:=e
    simp only [FileE.ent,Prod.mk.injEq] at hee
    obtain⟨rfl,rfl⟩:=hee
    simp only
    refine At.run 100 true [true] [] rfl oK ?_
    refine At.step [] rfl rfl rfl rfl rfl trivial (OpOk.entryMap (T:=T) (i:=i) 0 rfl rfl rfl (fun w' hw'=>hM hw') hst he ?_)
    simp only
    refine At.run 100 true [] [] rfl oK ?_
    refine At.weak (ih _ _ _ _ (leftN_snoc hil hi) ⟨T++[i],rfl,nodup_snoc hn hi,lt_snoc hT hil,rfl,rfl,rfl⟩) ⟨rfl,some_int_eq (by rw [sum_snoc hf]; omega),trivial⟩
theorem putF_new {F:List FileE}{f:FileE}(h:∀ x,x∈F→x.name≠f.name):putF F f=F++[f]:=by
  unfold putF
  rw [List.findIdx?_eq_none_iff.2 (fun x hx=>by simpa using h x hx)]
def someF (F:List FileE) (T:List Nat):List (List UInt8 × List UInt8):=T.filterMap fun i=>(F[i]?).map FileE.nb
theorem someF_snoc {F:List FileE}{T:List Nat}{i:Nat}{f:FileE}(h:F[i]?=some f):someF F (T++[i])=someF F T++[f.nb]:=by
  simp [someF,h]
theorem someF_range (F:List FileE):∀ m,m≤F.length→someF F (List.range m)=nbs (F.take m)
  | 0,_ => by simp [someF,nbs]
  | m+1,h => by
    have hm:m < F.length:=by omega
    have hg:=List.getElem?_eq_getElem hm
    rw [List.range_succ,someF_snoc hg,someF_range F m (by omega),List.take_add_one,hg]
    unfold nbs
    rw [List.map_append]
    rfl
theorem someF_all {F:List FileE}{T:List Nat}(hp:T.Perm (List.range F.length)):(someF F T).Perm (nbs F):=by
  have h1:=hp.filterMap fun i=>(F[i]?).map FileE.nb
  have h2:=someF_range F F.length (Nat.le_refl _)
  rw [List.take_length] at h2
  rw [← h2]; exact h1
theorem mem_someF {F:List FileE}{T:List Nat}{p:List UInt8 × List UInt8}(h:p∈someF F T):∃ i f,i∈T∧F[i]?=some f∧p=f.nb:=by
  unfold someF at h
  obtain⟨i,hi,he⟩:=List.mem_filterMap.1 h
  obtain⟨f,hf,rfl⟩:=Option.map_eq_some_iff.1 he
  exact⟨i,f,hi,hf,rfl⟩
theorem Tryz.copied_w (b:Nat) (F:List FileE) (w:World) (hF:FilesOk w 5 b F) (hb:∀ f,f∈F→0 < f.bytes.length∧f.bytes.length≤16777216) :
    Tri Tryz.prog 47 [.map (some b)] w [] (fun v bx hp=>∃ b2 F2,v=.map (some b2)∧bx=[]∧hp=[Seg.files 5 b2 F2]∧(nbs F2).Perm (nbs F)):=by
  refine Tri.enter (bx:=[]) (hp:=[]) Tryz.func47 rfl (by kernel_rfl) rfl (Own.nil w) ?_
  obtain⟨es,clock,hbm,hst,hks,hL⟩:=hF.map
  have hnames:=hF.names
  have hlt:=(Array.getElem?_eq_some_iff.1 hbm).1
  have hM:∀ {bx:Bx}{hp:List Seg}{w':World},WOk ⟨w,kys [] []⟩ bx hp w'→w'.heap[b]?=some (.map es clock):=fun {_ _ w'} hw'=>by rw [hw'.ext.block b hlt (by simp [kys])]; exact hbm
  refine At.run 100 true [] [] rfl oK ?_
  refine At.step [] rfl rfl rfl rfl rfl trivial (OpOk.makeFiles 5 rfl fun b2=>?_)
  refine At.run 100 true [] [] rfl oK ?_
  refine At.step [] rfl rfl rfl rfl rfl trivial (OpOk.rangeMap rfl rfl Tryz.filesT (fun w' hw'=>hM hw') fun r=>?_)
  refine At.run 100 true [] [] rfl oK ?_
  have hes:es.size=F.length:=by have:=congrArg List.length hL; simpa using this
  refine At.loop (n:=leftN F.length []) (env0:=[(8,.pointer (some ⟨r,0,none⟩)),(3,.map (some b2))]) (fun m env bx hp => ∃ (T:List Nat) (F2:List FileE),m=leftN F.length T∧T.Nodup∧(∀ i,i∈T→i < F.length)∧nbs F2=someF F T ∧
    env=[(8,.pointer (some ⟨r,0,none⟩)),(3,.map (some b2))]∧bx=[]∧hp=[Seg.iter r b es clock T,Seg.files 5 b2 F2]) rfl ⟨[],[],by simp,by simp,by simp,rfl,rfl,rfl,rfl⟩ ⟨rfl,rfl,trivial⟩ ?_
  rintro m env bx hp ⟨T,F2,rfl,hn,hT,hnb,rfl,rfl,rfl⟩ ih
  refine At.run 100 true [] [] rfl trivial ?_
  refine At.step [] rfl rfl rfl rfl rfl trivial (OpOk.nextMap 0 rfl rfl rfl (fun w' hw'=>hM hw') hst (fun i hi=>by rw [hes]; exact hT i hi) (fun hall=>?_) (fun i e hi he=>?_))
  · have hp:=perm_range hn hT (fun i hi => hall i (by rw [hes]; exact hi))
    refine At.run 100 true [false] [] rfl oK ?_
    refine At.keep [] [false,true] rfl ?_
    exact At.ret [] rfl Tryz.func47 rfl trivial ⟨b2,F2,rfl,rfl,rfl,by rw [hnb]; exact someF_all hp⟩
  · have hil:i < F.length:=by rw [← hes]; exact (Array.getElem?_eq_some_iff.1 he).1
    obtain⟨f,hf⟩:∃ f,F[i]?=some f:=⟨_,List.getElem?_eq_getElem hil⟩
    have hfm:=List.mem_of_getElem? hf
    have hee:(e.key,e.val)=f.ent:=by
      have h1:(es.toList.map fun e=>(e.key,e.val))[i]?=some (e.key,e.val):=by rw [List.getElem?_map,Array.getElem?_toList,he]; rfl
      rw [hL,List.getElem?_map,hf] at h1
      exact (Option.some.inj h1).symm
    obtain⟨k,v,born⟩:=e
    simp only [FileE.ent,Prod.mk.injEq] at hee
    obtain⟨rfl,rfl⟩:=hee
    simp only
    refine At.run 100 true [true] [] rfl oK ?_
    refine At.step [] rfl rfl rfl rfl rfl trivial (OpOk.entryMap (T:=T) (i:=i) 0 rfl rfl rfl (fun w' hw'=>hM hw') hst he ?_)
    simp only
    refine At.run 100 true [] [] rfl oK ?_
    refine At.step [] rfl rfl rfl rfl rfl trivial (OpOk.call rfl (fun w' hw'=>Tryz.cloneB_w f.bytes (svA (some f.g)) f.cap w' (hb f hfm).1 (hb f hfm).2 ((hF.ext hw'.ext (by simp [kys])).sl hfm)) ?_)
    rintro v bx' hp' ⟨g,c,rfl,rfl,rfl⟩
    refine At.run 100 true [] [] rfl oK ?_
    refine At.perm (List.Perm.refl _) (hr:=[Seg.row (some g) 5 1 f.bytes.length c (u8s f.bytes),Seg.files 5 b2 F2,Seg.iter r b es clock (T++[i])]) ((List.Perm.swap _ _ _).cons _) ?_
    refine At.step0 [] rfl rfl rfl rfl trivial (OpOk.filesPut ⟨f.name,f.bytes,g,c⟩ rfl rfl rfl rfl Tryz.filesT Tryz.strT ?_)
    have hnew:∀ x,x∈F2→x.name≠f.name:=by
      intro x hx hxn
      have h1:x.nb∈someF F T:=by rw [← hnb]; exact List.mem_map_of_mem hx
      obtain⟨j,f2,hj,hf2,he2⟩:=mem_someF h1
      have h2:f2.name=f.name:=by rw [← hxn]; exact (congrArg Prod.fst he2).symm
      have a1:(F.map (·.name))[j]?=some f.name:=by rw [List.getElem?_map,hf2]; simp [h2]
      have a2:(F.map (·.name))[i]?=some f.name:=by rw [List.getElem?_map,hf]; rfl
      have:=(List.getElem?_inj (List.getElem?_eq_some_iff.1 a1).1 hnames).1 (a1.trans a2.symm)
      subst this
      exact hi hj
    rw [putF_new (f:=⟨f.name,f.bytes,g,c⟩) hnew]
    refine At.run 100 true [] [] rfl oK ?_
    refine At.perm (List.Perm.refl _) (List.Perm.swap _ _ _) ?_
    refine At.weak (ih _ _ _ _ (leftN_snoc hil hi) ⟨T++[i],_,rfl,nodup_snoc hn hi,lt_snoc hT hil,?_,rfl,rfl,rfl⟩) ⟨rfl,rfl,trivial⟩
    rw [someF_snoc hf,← hnb]
    simp [nbs,FileE.nb]
end Go.Proofs

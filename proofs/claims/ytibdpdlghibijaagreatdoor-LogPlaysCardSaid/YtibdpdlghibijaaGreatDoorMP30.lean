/-
  Walks of layer 21 and of layer 9's document: a file read.
-/
import Derived.Test.YtibdpdlghibijaaGreatDoorMP16
import Derived.Test.YtibdpdlghibijaaGreatDoorMP7
import Derived.Test.YtibdpdlghibijaaGreatDoorMP28
import Derived.Test.YtibdpdlghibijaaGreatDoorMP24
import Derived.Test.YtibdpdlghibijaaGreatDoorMP12
namespace Go.Proofs
open Go Go.Eng
set_option maxRecDepth 100000
set_option maxHeartbeats 4000000
attribute [local irreducible] Tri
theorem Tryz.shHeads_w (w:World):Fun Tryz.prog 98 [] w (str headsB):=by
  refine Tri.enter (bx:=[]) (hp:=[]) Tryz.func98 rfl (by kernel_rfl) rfl (Own.nil w) ?_
  refine At.go [] [] rfl (by and_intros <;> first | exact trivial | exact oK) ?_
  refine At.rt [] [] [] Tryz.func98 ?_
  exact⟨rfl,rfl,rfl⟩
theorem Tryz.r9Read_w (S:FL) (n:List UInt8) (a:Option Addr) (cap:Nat) (w:World) (hlen:S.length≤1048576) (hrow:SlOk w a (fl S)) :
    Fun Tryz.prog 63 [.slice a S.length cap,str n] w (str (readN S n)):=by
  refine Tri.enter (bx:=[]) (hp:=[]) Tryz.func63 rfl (by kernel_rfl) rfl (Own.nil w) ?_
  refine At.go [] [] rfl (by and_intros <;> first | exact trivial | exact oK) ?_
  refine At.loop (env0:=[(0,.slice a (List.length S) cap),(1,.string { data:=n.toArray }),(5,.int .i64 0)]) (fun m_ env bx hp => ∃ (i:Nat),m_=S.length - i∧(i≤S.length)∧(∀ k p,k < i→S[k]?=some p→p.1≠n)∧env=[(0,.slice a (List.length S) cap),(1,.string { data:=n.toArray }),(5,.int .i64 i)]∧bx=[]∧hp=[]) rfl
    ⟨0,rfl,(by omega),(fun k p h=>absurd h (Nat.not_lt_zero k)),rfl,rfl,rfl⟩ sB ?_
  rintro m_ env bx hp ⟨i,rfl,hi,hno,rfl,rfl,rfl⟩ ih
  by_cases hlt:i < S.length
  · obtain⟨p,hp⟩:∃ p,S[i]?=some p:=⟨_,List.getElem?_eq_getElem hlt⟩
    obtain⟨g,o,rfl,hc⟩:=hrow.get (fl_ne (by intro h; rw [h] at hlt; simp at hlt))
    have rN:∀ {bx:Bx}{hp:List Seg},RdW ⟨w,kys [] []⟩ bx hp g (o+(i:Int).toNat * 2+0) [str p.1]:=fun {_ _}=>RdW.fileN hc (by simp [kys]) hp (by omega)
    have rB:∀ {bx:Bx}{hp:List Seg},RdW ⟨w,kys [] []⟩ bx hp g (o+(i:Int).toNat * 2+1) [str p.2]:=fun {_ _}=>RdW.fileB hc (by simp [kys]) hp (by omega)
    by_cases hn:p.1=n
    · rw [readF_hit hno hp hn]
      refine At.go [true,true] [hR [.string { data:=p.fst.toArray }],hR [.string { data:=p.snd.toArray }]] rfl (by and_intros <;> first | exact rN | exact rB | (simp only [bl_of]; exact decide_eq_true hn) | exact decide_eq_true (by omega) | exact oK) ?_
      refine At.rt [] [] [] Tryz.func63 ?_
      exact⟨rfl,rfl,rfl⟩
    · refine At.go [true,false] [hR [.string { data:=p.fst.toArray }]] rfl (by and_intros <;> first | exact rN | exact rB | (simp only [bl_of]; exact decide_eq_false hn) | exact decide_eq_true (by omega) | exact oK) ?_
      exact At.weak (ih _ _ _ _ (by omega) ⟨i+1,rfl,by omega,readF_step hno hp hn,rfl,rfl,rfl⟩) sB
  · obtain rfl:i=S.length:=by omega
    rw [readF_none fun p hp=>by obtain⟨j,hj⟩:=List.getElem?_of_mem hp; exact hno j p (List.getElem?_eq_some_iff.1 hj).1 hj]
    refine At.go [false] [] rfl (by and_intros <;> first | exact decide_eq_false (by omega) | exact oK) ?_
    refine At.rt [] [] [] Tryz.func63 ?_
    exact⟨rfl,rfl,rfl⟩
end Go.Proofs

/-
  Walks of layer 1: bytes taken, rows.
-/
import Derived.Test.YtibdpdlghibijaaGreatDoorMP16
import Derived.Test.YtibdpdlghibijaaGreatDoorMP7
import Derived.Test.YtibdpdlghibijaaGreatDoorMP26
import Derived.Test.YtibdpdlghibijaaGreatDoorMP2
namespace Go.Proofs
open Go Go.Eng
set_option maxRecDepth 100000
set_option maxHeartbeats 4000000
attribute [local irreducible] Tri
theorem Tryz.guardS_w (s:ByteArray) (a0 a1:Nat) (f e:Int) (x:List UInt8) (b:Nat) (rest:Bx) (F:Nat) (cap:List Value) (w:World) (hown:Own ((b,219,rdr s a0 f) :: rest) [] w)
    (hstep:f=0→StepR Tryz.prog F cap b 219 s a0 rest (str x) e a1 w) :
    Tri Tryz.prog 178 [.pointer (some ⟨b,0,none⟩),.func (.func F) ⟨[]⟩ ⟨cap⟩] w (kys ((b,219,rdr s a0 f) :: rest) [])
      (fun v bx hp=>v=str (if f=0∧e=0 then x else [])∧bx=(b,219,if f≠0 then rdr s a0 f else if e=0 then rdr s a1 0 else rdr s a0 e) :: rest∧hp=[]):=by
  refine Tri.enter Tryz.func178 rfl (by kernel_rfl) rfl hown ?_
  by_cases hf:f=0
  · subst hf
    refine At.run 100 true [false,false] [hB 0,hB 0,hB 0] rfl ⟨rfl,rfl,rfl,rfl,rfl,rfl,rfl,rfl,rfl,trivial⟩ ?_
    refine At.step [] rfl rfl rfl rfl rfl trivial (OpOk.callAll (Q:=fun v bx hp=>v=.tuple #[str x,.int .i64 e]∧bx=(b,219,rdr s a1 0) :: rest∧hp=[]) rfl (fun w' hw'=>by rw [allArgs_eq]; exact hstep rfl w' hw'.ext hw'.toOwn) ?_)
    rintro v bx' hp' ⟨rfl,rfl,rfl⟩
    by_cases he:e=0
    · subst he
      refine At.run 100 true [false] [] rfl ⟨rfl,trivial⟩ ?_
      exact At.ret [] rfl Tryz.func178 rfl trivial ⟨rfl,rfl,rfl⟩
    · have hd:(!decide (e=0))=true:=by simp [he]
      refine At.run 100 true [true] [hB 0,hB 0] rfl ⟨⟨rfl,rfl⟩,⟨rfl,rfl⟩,hd,trivial⟩ ?_
      refine At.ret [] rfl Tryz.func178 rfl trivial ⟨?_,?_,rfl⟩
      · rw [if_neg (by simp [he])]; rfl
      · rw [if_neg (by simp),if_neg he]; rfl
  · have hd:(!decide (f=0))=true:=by simp [hf]
    refine At.run 100 true [false,true] [hB 0] rfl ⟨hd,rfl,rfl,rfl,rfl,rfl,rfl,rfl,trivial⟩ ?_
    refine At.ret [] rfl Tryz.func178 rfl trivial ⟨?_,?_,rfl⟩
    · rw [if_neg (by simp [hf])]; rfl
    · rw [if_pos hf]
theorem Tryz.take_w (s:ByteArray) (a0:Nat) (n:Int) (b:Nat) (w:World) (ha:a0≤(bl s).length) (hlen:(bl s).length≤9223372036854775807) (hown:Own [(b,219,rdr s a0 0)] [] w) :
    FunU Tryz.prog 180 [.pointer (some ⟨b,0,none⟩),.int .i64 n] w (.tuple #[str (rdT (bl s) a0 0 n).1,.int .i64 (rdT (bl s) a0 0 n).2.2]) (b,219,rdr s (rdT (bl s) a0 0 n).2.1 0):=by
  refine Tri.enter (bx:=[(b,219,rdr s a0 0)]) (hp:=[]) Tryz.func180 rfl (by kernel_rfl) rfl hown ?_
  unfold rdr
  by_cases h0:n < 0
  · have e:rdT (bl s) a0 0 n=([],a0,1):=by unfold rdT; rw [if_neg (by simp),if_pos h0]
    rw [e]
    refine At.go [true] [] rfl (by and_intros <;> first | exact decide_eq_true h0 | exact oK) ?_
    refine At.rt [true] [] [] Tryz.func180 ?_
    exact⟨rfl,rfl,rfl⟩
  by_cases h1:((bl s).length:Int) - a0 < n
  · have e:rdT (bl s) a0 0 n=([],a0,2):=by unfold rdT; rw [if_neg (by simp),if_neg h0,if_pos h1]
    rw [e]
    refine At.go [false] [] rfl (by and_intros <;> first | exact decide_eq_false h0 | exact decide_eq_true h1 | exact oK) ?_
    refine At.qt [] [hB 0,hB 0] rfl rfl (by and_intros <;> first | exact decide_eq_false h0 | exact decide_eq_true h1 | exact oK) ?_
    refine At.go [true] [] rfl (by and_intros <;> first | exact decide_eq_false h0 | exact decide_eq_true h1 | exact oK) ?_
    refine At.rt [true] [] [] Tryz.func180 ?_
    exact⟨rfl,rfl,rfl⟩
  obtain⟨m,rfl⟩:∃ m:Nat,n=m:=⟨n.toNat,by omega⟩
  have e:rdT (bl s) a0 0 (m:Int)=(((bl s).drop a0).take m,a0+m,0):=by unfold rdT; rw [if_neg (by simp),if_neg h0,if_neg h1,Int.toNat_natCast]
  rw [e]
  refine At.go [false] [] rfl (by and_intros <;> first | exact decide_eq_false h0 | exact decide_eq_false h1 | exact oK) ?_
  refine At.qt [] [hB 0,hB 0] rfl rfl (by and_intros <;> first | exact decide_eq_false h0 | exact decide_eq_false h1 | exact oK) ?_
  refine At.go [false] [hB 0,hB 0] rfl (by and_intros <;> first | exact decide_eq_false h0 | exact decide_eq_false h1 | exact oK) ?_
  refine At.qt [] [hB 0,hB 0,hB 0] rfl rfl (by and_intros <;> first | exact decide_eq_false h0 | exact decide_eq_false h1 | exact oK) ?_
  refine At.go [] [] rfl (by and_intros <;> first | exact decide_eq_false h0 | exact decide_eq_false h1 | exact oK) ?_
  rw [show ((a0:Int)+m).toNat - ((a0:Int)+m - m).toNat=m by omega,show ((a0:Int)+m - m).toNat=a0 by omega]
  refine At.rt [true] [] [] Tryz.func180 ?_
  exact⟨rfl,rfl,rfl⟩
theorem Tryz.take1_w (s:ByteArray) (a0:Nat) (n:Int) (b br bm:Nat) (w:World) (ha:a0≤(bl s).length) (hlen:(bl s).length≤9223372036854775807) :
    StepR Tryz.prog 179 [.pointer (some ⟨br,0,none⟩),.pointer (some ⟨bm,0,none⟩)] b 219 s a0 [(bm,3,[.int .i64 n]),(br,198,[.pointer (some ⟨b,0,none⟩)])]
      (str (rdT (bl s) a0 0 n).1) (rdT (bl s) a0 0 n).2.2 (rdT (bl s) a0 0 n).2.1 w:=by
  intro w1 hext hown
  refine Tri.enter Tryz.func179 rfl (by kernel_rfl) rfl hown ?_
  have hU1:∀ {bx:Bx}{hp:List Seg},nth bx 0=some (b,219,rdr s a0 0)→CallU Tryz.prog ⟨w1,kys [(b,219,rdr s a0 0),(bm,3,[.int .i64 n]),(br,198,[.pointer (some ⟨b,0,none⟩)])] []⟩ bx hp 180 [.pointer (some ⟨b,0,none⟩),.int .i64 n] (.tuple #[str (rdT (bl s) a0 0 n).1,.int .i64 (rdT (bl s) a0 0 n).2.2]) (b,219,rdr s (rdT (bl s) a0 0 n).2.1 0):=fun {_ _} h w' hw'=>Tryz.take_w s a0 n b w' ha hlen (hw'.own1 0 h)
  refine At.go [] [hB 2,hB 1,hU (.tuple { toList:=[.string { data:=(rdT (bl s) a0 0 n).fst.toArray },.int .i64 (rdT (bl s) a0 0 n).snd.snd] }) 0 (rdr s (rdT (bl s) a0 0 n).snd.fst 0)] rfl (by and_intros <;> first | exact hU1 rfl | exact oK) ?_
  refine At.rt [true,true,true] [] [] Tryz.func179 ?_
  exact⟨rfl,rfl,rfl⟩
theorem rdT_f {l:List UInt8}{a:Nat}{f n:Int}:(rdT l a f n).1=(if f=0∧(rdT l a 0 n).2.2=0 then (rdT l a 0 n).1 else [])∧(f≠0→(rdT l a f n).2=(a,f))∧(f=0→(rdT l a 0 n).2.2≠0→(rdT l a 0 n).2.1=a):=by
  unfold rdT
  by_cases hf:f=0
  · subst hf
    simp only [ne_eq,not_true_eq_false,if_false]
    split
    · simp
    · split <;> simp
  · simp [hf]
theorem Tryz.Take_w (s:ByteArray) (a0:Nat) (f n:Int) (b:Nat) (w:World) (ha:a0≤(bl s).length) (hlen:(bl s).length≤9223372036854775807) (_hn:inK .i64 n) (hown:Own [(b,219,rdr s a0 f)] [] w) :
    FunU Tryz.prog 154 [.pointer (some ⟨b,0,none⟩),.int .i64 n] w (str (rdT (bl s) a0 f n).1) (b,219,rdr s (rdT (bl s) a0 f n).2.1 (rdT (bl s) a0 f n).2.2):=by
  refine Tri.enter (bx:=[(b,219,rdr s a0 f)]) (hp:=[]) Tryz.func154 rfl (by kernel_rfl) rfl hown ?_
  refine At.run 100 true [] [] rfl trivial ?_
  refine At.step [] rfl rfl rfl rfl rfl trivial (OpOk.box rfl rfl rfl fun br hbr=>?_)
  refine At.step [] rfl rfl rfl rfl rfl trivial (OpOk.box rfl rfl rfl fun bm hbm=>?_)
  refine At.run 100 true [] [hB 1] rfl oK ?_
  refine At.perm (rot3 _ _ _) (List.Perm.refl _) ?_
  refine At.step [] rfl rfl rfl rfl rfl trivial (OpOk.callAll rfl (fun w' hw'=>Tryz.guardS_w s a0 _ f _ _ b _ _ _ w' hw'.toOwn (fun _=>Tryz.take1_w s a0 n b br bm w' ha hlen)) ?_)
  rintro v bx' hp' ⟨rfl,rfl,rfl⟩
  refine At.run 100 true [] [] rfl trivial ?_
  refine At.keep [true,false,false] [] rfl ?_
  obtain⟨h1,h2,h3⟩:=rdT_f (l:=bl s) (a:=a0) (f:=f) (n:=n)
  refine At.ret [] rfl Tryz.func154 rfl trivial ⟨?_,?_,rfl⟩
  · rw [h1]; rfl
  · by_cases hf:f=0
    · subst hf
      by_cases he:(rdT (bl s) a0 0 n).2.2=0
      · simp [he]
      · simp [he,h3 rfl he]
    · have h4:=h2 hf
      simp [hf,h4]
end Go.Proofs

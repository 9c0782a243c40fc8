/-
  Walks of layer 1: the reader's steps.
-/
import Derived.Test.YtibdpdlghibijaaGreatDoorMP25
import Derived.Test.YtibdpdlghibijaaGreatDoorMP5
import Derived.Test.YtibdpdlghibijaaGreatDoorMP7
import Derived.Test.YtibdpdlghibijaaGreatDoorMP2
namespace Go.Proofs
open Go Go.Eng
set_option maxRecDepth 100000
set_option maxHeartbeats 4000000
attribute [local irreducible] Tri
def rdr (s:ByteArray) (a:Nat) (f:Int):List Value:=[.string s,.int .i64 a,.int .i64 f]
def StepR (P:Program) (F:FuncId) (cap:List Value) (b t:Nat) (s:ByteArray) (a0:Nat) (rest:Bx) (x:Value) (e:Int) (a1:Nat) (w:World):Prop :=
  ∀ w',Ext (kys ((b,t,rdr s a0 0) :: rest) []) w w'→Own ((b,t,rdr s a0 0) :: rest) [] w'→Tri P F cap w' (kys ((b,t,rdr s a0 0) :: rest) []) (fun v bx hp=>v=.tuple #[x,.int .i64 e]∧bx=(b,t,rdr s a1 0) :: rest∧hp=[])
theorem Tryz.guardU_w (s:ByteArray) (a0 a1:Nat) (f e x:Int) (b:Nat) (rest:Bx) (F:Nat) (cap:List Value) (w:World) (hown:Own ((b,219,rdr s a0 f) :: rest) [] w)
    (hstep:f=0→StepR Tryz.prog F cap b 219 s a0 rest (.int .u64 x) e a1 w) :
    Tri Tryz.prog 173 [.pointer (some ⟨b,0,none⟩),.func (.func F) ⟨[]⟩ ⟨cap⟩] w (kys ((b,219,rdr s a0 f) :: rest) [])
      (fun v bx hp=>v=.int .u64 (if f=0∧e=0 then x else 0)∧bx=(b,219,if f≠0 then rdr s a0 f else if e=0 then rdr s a1 0 else rdr s a0 e) :: rest∧hp=[]):=by
  refine Tri.enter Tryz.func173 rfl (by kernel_rfl) rfl hown ?_
  by_cases hf:f=0
  · subst hf
    refine At.run 100 true [false,false] [hB 0,hB 0,hB 0] rfl ⟨rfl,rfl,rfl,rfl,rfl,rfl,rfl,rfl,rfl,trivial⟩ ?_
    refine At.step [] rfl rfl rfl rfl rfl trivial (OpOk.callAll (Q:=fun v bx hp=>v=.tuple #[.int .u64 x,.int .i64 e]∧bx=(b,219,rdr s a1 0) :: rest∧hp=[]) rfl (fun w' hw'=>by rw [allArgs_eq]; exact hstep rfl w' hw'.ext hw'.toOwn) ?_)
    rintro v bx' hp' ⟨rfl,rfl,rfl⟩
    by_cases he:e=0
    · subst he
      refine At.run 100 true [false] [] rfl ⟨rfl,trivial⟩ ?_
      exact At.ret [] rfl Tryz.func173 rfl trivial ⟨rfl,rfl,rfl⟩
    · have hd:(!decide (e=0))=true:=by simp [he]
      refine At.run 100 true [true] [hB 0,hB 0] rfl ⟨⟨rfl,rfl⟩,⟨rfl,rfl⟩,hd,trivial⟩ ?_
      refine At.ret [] rfl Tryz.func173 rfl trivial ⟨?_,?_,rfl⟩
      · rw [if_neg (by simp [he])]; rfl
      · rw [if_neg (by simp),if_neg he]; rfl
  · have hd:(!decide (f=0))=true:=by simp [hf]
    refine At.run 100 true [false,true] [hB 0] rfl ⟨hd,rfl,rfl,rfl,rfl,rfl,rfl,rfl,trivial⟩ ?_
    refine At.ret [] rfl Tryz.func173 rfl trivial ⟨?_,?_,rfl⟩
    · rw [if_neg (by simp [hf])]; rfl
    · rw [if_pos hf]
theorem Tryz.guardN_w (s:ByteArray) (a0 a1:Nat) (f e x:Int) (b:Nat) (rest:Bx) (F:Nat) (cap:List Value) (w:World) (hown:Own ((b,219,rdr s a0 f) :: rest) [] w)
    (hstep:f=0→StepR Tryz.prog F cap b 219 s a0 rest (.int .i64 x) e a1 w) :
    Tri Tryz.prog 176 [.pointer (some ⟨b,0,none⟩),.func (.func F) ⟨[]⟩ ⟨cap⟩] w (kys ((b,219,rdr s a0 f) :: rest) [])
      (fun v bx hp=>v=.int .i64 (if f=0∧e=0 then x else 0)∧bx=(b,219,if f≠0 then rdr s a0 f else if e=0 then rdr s a1 0 else rdr s a0 e) :: rest∧hp=[]):=by
  refine Tri.enter Tryz.func176 rfl (by kernel_rfl) rfl hown ?_
  by_cases hf:f=0
  · subst hf
    refine At.run 100 true [false,false] [hB 0,hB 0,hB 0] rfl ⟨rfl,rfl,rfl,rfl,rfl,rfl,rfl,rfl,rfl,trivial⟩ ?_
    refine At.step [] rfl rfl rfl rfl rfl trivial (OpOk.callAll (Q:=fun v bx hp=>v=.tuple #[.int .i64 x,.int .i64 e]∧bx=(b,219,rdr s a1 0) :: rest∧hp=[]) rfl (fun w' hw'=>by rw [allArgs_eq]; exact hstep rfl w' hw'.ext hw'.toOwn) ?_)
    rintro v bx' hp' ⟨rfl,rfl,rfl⟩
    by_cases he:e=0
    · subst he
      refine At.run 100 true [false] [] rfl ⟨rfl,trivial⟩ ?_
      exact At.ret [] rfl Tryz.func176 rfl trivial ⟨rfl,rfl,rfl⟩
    · have hd:(!decide (e=0))=true:=by simp [he]
      refine At.run 100 true [true] [hB 0,hB 0] rfl ⟨⟨rfl,rfl⟩,⟨rfl,rfl⟩,hd,trivial⟩ ?_
      refine At.ret [] rfl Tryz.func176 rfl trivial ⟨?_,?_,rfl⟩
      · rw [if_neg (by simp [he])]; rfl
      · rw [if_neg (by simp),if_neg he]; rfl
  · have hd:(!decide (f=0))=true:=by simp [hf]
    refine At.run 100 true [false,true] [hB 0] rfl ⟨hd,rfl,rfl,rfl,rfl,rfl,rfl,rfl,trivial⟩ ?_
    refine At.ret [] rfl Tryz.func176 rfl trivial ⟨?_,?_,rfl⟩
    · rw [if_neg (by simp [hf])]; rfl
    · rw [if_pos hf]
theorem rot2 {α:Type}(a b:α):[a,b].Perm [b,a]:=List.Perm.swap b a []
theorem rot3 {α:Type}(a b c:α):[a,b,c].Perm [c,a,b]:=by simpa using List.perm_append_comm (l₁:=[a,b]) (l₂:=[c])
theorem Own.head {e:Nat × TypeId × List Value}{bx:Bx}{hp:List Seg}{w:World}(h:Own (e :: bx) hp w):Own [e] [] w :=
  ⟨by simp [kys],fun k hk=>h.lt k (by simp only [kys,List.map_cons,List.map_nil,List.flatMap_nil,List.append_nil,List.mem_singleton] at hk; subst hk; exact List.mem_cons_self ..),fun x hx=>h.bx x (by simp only [List.mem_singleton] at hx; subst hx; exact List.mem_cons_self ..),by simp⟩
theorem Tryz.num1_w (s:ByteArray) (a0:Nat) (b br bm most:Nat) (w:World) (ha:a0≤(bl s).length) (hlen:(bl s).length≤9223372036854775807) :
    StepR Tryz.prog 174 [.pointer (some ⟨br,0,none⟩),.pointer (some ⟨bm,0,none⟩)] b 219 s a0 [(bm,137,[.int .u64 most]),(br,198,[.pointer (some ⟨b,0,none⟩)])]
      (.int .u64 (digP ((bl s).drop a0) 0 0).1) (numE ((bl s).drop a0) most) (a0+(digP ((bl s).drop a0) 0 0).2.1) w:=by
  intro w1 hext hown
  refine Tri.enter Tryz.func174 rfl (by kernel_rfl) rfl hown ?_
  refine At.run 100 true [] [hB 2] rfl ⟨rfl,trivial⟩ ?_
  obtain⟨n,k,e,hD⟩:∃ n k e,digP ((bl s).drop a0) 0 0=(n,k,e):=⟨_,_,_,rfl⟩
  simp only [numE,hD]
  refine At.run 100 true [] [hU (.tuple #[.int .u64 n,.int .i64 e]) 0 (rdr s (a0+k) 0)] rfl ⟨fun w' hw'=>by have:=Tryz.digits_w s a0 0 b w' ha hlen (Own.head hw'.toOwn); rw [hD] at this; exact this,trivial⟩ ?_
  by_cases he:e=0
  · by_cases hm:most < n
    · refine At.run 100 true [true,true] [hB 1] rfl oK ?_
      exact At.ret [] rfl Tryz.func174 rfl trivial ⟨by simp [he,hm]; rfl,rfl,rfl⟩
    · refine At.run 100 true [true,false] [hB 1] rfl oK ?_
      exact At.ret [] rfl Tryz.func174 rfl trivial ⟨by simp [he,hm]; rfl,rfl,rfl⟩
  · refine At.run 100 true [false,false] [] rfl oK ?_
    exact At.ret [] rfl Tryz.func174 rfl trivial ⟨by simp [he]; rfl,rfl,rfl⟩
theorem Tryz.Num_w (s:ByteArray) (a0:Nat) (f:Int) (b most:Nat) (w:World) (ha:a0≤(bl s).length) (hlen:(bl s).length≤9223372036854775807)
    (hown:Own [(b,219,rdr s a0 f)] [] w) :
    FunU Tryz.prog 152 [.pointer (some ⟨b,0,none⟩),.int .u64 most] w (.int .u64 (rdN (bl s) a0 f most).1) (b,219,rdr s (rdN (bl s) a0 f most).2.1 (rdN (bl s) a0 f most).2.2):=by
  refine Tri.enter (bx:=[(b,219,rdr s a0 f)]) (hp:=[]) Tryz.func152 rfl (by kernel_rfl) rfl hown ?_
  refine At.run 100 true [] [] rfl trivial ?_
  refine At.step [] rfl rfl rfl rfl rfl trivial (OpOk.box rfl rfl rfl fun br hbr=>?_)
  refine At.step [] rfl rfl rfl rfl rfl trivial (OpOk.box rfl rfl rfl fun bm hbm=>?_)
  refine At.run 100 true [] [hB 1] rfl oK ?_
  refine At.perm (rot3 _ _ _) (List.Perm.refl _) ?_
  refine At.step [] rfl rfl rfl rfl rfl trivial (OpOk.callAll rfl (fun w' hw'=>Tryz.guardU_w s a0 _ f _ _ b _ _ _ w' hw'.toOwn (fun _=>Tryz.num1_w s a0 b br bm most w' ha hlen)) ?_)
  rintro v bx' hp' ⟨rfl,rfl,rfl⟩
  refine At.run 100 true [] [] rfl trivial ?_
  refine At.keep [true,false,false] [] rfl ?_
  refine At.ret [] rfl Tryz.func152 rfl trivial ⟨?_,?_,rfl⟩
  · unfold rdN
    by_cases hf:f=0
    · by_cases he:numE ((bl s).drop a0) most=0 <;> simp [hf,he,tupV]
    · simp [hf,tupV]
  · unfold rdN
    by_cases hf:f=0
    · by_cases he:numE ((bl s).drop a0) most=0 <;> simp [hf,he]
    · simp [hf]
theorem Tryz.fail1_w (s:ByteArray) (a0:Nat) (e:Int) (b be:Nat) (w:World) :
    StepR Tryz.prog 177 [.pointer (some ⟨be,0,none⟩)] b 219 s a0 [(be,42,[.int .i64 e])] (.int .i64 0) e a0 w:=by
  intro w1 hext hown
  refine Tri.enter Tryz.func177 rfl (by kernel_rfl) rfl hown ?_
  refine At.run 100 true [] [] rfl trivial ?_
  refine At.quiet true [] [hB 1] ⟨by kernel_rfl,by kernel_rfl,rfl,rfl,rfl⟩ rfl rfl rfl oK ?_
  refine At.run 100 true [] [] rfl trivial ?_
  exact At.ret [] rfl Tryz.func177 rfl trivial ⟨rfl,rfl,rfl⟩
theorem Tryz.Fail_w (s:ByteArray) (a0:Nat) (f e:Int) (b:Nat) (w:World) (hown:Own [(b,219,rdr s a0 f)] [] w) :
    FunU Tryz.prog 153 [.pointer (some ⟨b,0,none⟩),.int .i64 e] w (.tuple #[]) (b,219,rdr s a0 (if f=0 then e else f)):=by
  refine Tri.enter (bx:=[(b,219,rdr s a0 f)]) (hp:=[]) Tryz.func153 rfl (by kernel_rfl) rfl hown ?_
  refine At.run 100 true [] [] rfl trivial ?_
  refine At.step [] rfl rfl rfl rfl rfl trivial (OpOk.box rfl rfl rfl fun be hbe=>?_)
  refine At.run 100 true [] [] rfl oK ?_
  refine At.perm (rot2 _ _) (List.Perm.refl _) ?_
  refine At.step [] rfl rfl rfl rfl rfl trivial (OpOk.callAll rfl (fun w' hw'=>Tryz.guardN_w s a0 _ f _ _ b _ _ _ w' hw'.toOwn (fun _=>Tryz.fail1_w s a0 e b be w')) ?_)
  rintro v bx' hp' ⟨rfl,rfl,rfl⟩
  refine At.run 100 true [] [] rfl trivial ?_
  refine At.keep [true,false] [] rfl ?_
  refine At.ret [] rfl Tryz.func153 rfl trivial ⟨rfl,?_,rfl⟩
  by_cases hf:f=0
  · by_cases he:e=0 <;> simp [hf,he]
  · simp [hf]
theorem Tryz.Fault_w (s:ByteArray) (a0:Nat) (f:Int) (b:Nat) (w:World) (hb:w.heap[b]?=some (.cells (rdr s a0 f).toArray 219 (0,0))) :
    Fun Tryz.prog 155 [.pointer (some ⟨b,0,none⟩)] w (.int .i64 f):=by
  refine Tri.enter (bx:=[]) (hp:=[]) Tryz.func155 rfl (by kernel_rfl) rfl (Own.nil w) ?_
  refine At.run 100 true [false] [hR [.int .i64 f]] rfl ⟨RdW.blkB1 (by simp [kys]) hb rfl,rfl,trivial⟩ ?_
  exact At.ret [] rfl Tryz.func155 rfl trivial ⟨rfl,rfl,rfl⟩
theorem Tryz.Left_w (s:ByteArray) (a0:Nat) (f:Int) (b:Nat) (w:World) (ha:a0≤(bl s).length) (hlen:(bl s).length≤9223372036854775807) (hb:w.heap[b]?=some (.cells (rdr s a0 f).toArray 219 (0,0))) :
    Fun Tryz.prog 156 [.pointer (some ⟨b,0,none⟩)] w (.int .i64 ((bl s).length - a0:Nat)):=by
  refine Tri.enter (bx:=[]) (hp:=[]) Tryz.func156 rfl (by kernel_rfl) rfl (Own.nil w) ?_
  refine At.run 100 true [false] [] rfl oK ?_
  refine At.quiet true [] [hR [.string s],hR [.int .i64 a0]] ⟨by kernel_rfl,by kernel_rfl,rfl,rfl,rfl⟩ rfl rfl rfl ⟨by simp only [inK]; omega,RdW.blkB1 (by simp [kys]) hb rfl,RdW.blkB1 (by simp [kys]) hb rfl,trivial⟩ ?_
  refine At.run 100 true [] [] rfl trivial ?_
  exact At.ret [] rfl Tryz.func156 rfl trivial ⟨int_eq (by omega),rfl,rfl⟩
theorem Tryz.Read_w (s:ByteArray) (w:World) :
    Tri Tryz.prog 151 [.string s] w [] (fun v bx hp=>∃ b,v=.pointer (some ⟨b,0,none⟩)∧bx=[(b,219,rdr s 0 0)]∧hp=[]):=by
  refine Tri.enter (bx:=[]) (hp:=[]) Tryz.func151 rfl (by kernel_rfl) rfl (Own.nil w) ?_
  refine At.run 100 true [] [] rfl oK ?_
  refine At.step [] rfl rfl rfl rfl rfl trivial (OpOk.box rfl rfl rfl fun b hb=>?_)
  refine At.run 100 true [] [] rfl oK ?_
  exact At.ret [] rfl Tryz.func151 rfl trivial ⟨b,rfl,rfl,rfl⟩
@[simp] theorem bl_str (l:List UInt8):bl ⟨l.toArray⟩=l:=rfl
def digR (l:List UInt8):Nat × Nat × Nat:=if (digP l 0 0).2.2=0 then ((digP l 0 0).1,(digP l 0 0).2.1,0) else (0,0,(digP l 0 0).2.2)
theorem Tryz.rdigits_w (l:List UInt8) (w:World) (hlen:l.length≤9223372036854775807) :
    Fun Tryz.prog 171 [str l] w (.tuple #[.int .u64 (digR l).1,.int .i64 (digR l).2.1,.int .i64 (digR l).2.2]):=by
  refine Tri.enter (bx:=[]) (hp:=[]) Tryz.func171 rfl (by kernel_rfl) rfl (Own.nil w) ?_
  refine At.run 100 true [] [] rfl trivial ?_
  refine At.loop (n:=l.length) (env0:=[(0,str l),(5,.int .u64 0),(6,.int .u64 1),(7,.int .i64 0)]) (fun m env bx hp => ∃ (k acc:Nat),m=l.length - k∧k≤l.length∧k≤9∧acc < 128 ^ k∧digP l 0 0=digP (l.drop k) k acc ∧
    env=[(0,str l),(5,.int .u64 acc),(6,.int .u64 ((128 ^ k:Nat):Int)),(7,.int .i64 k)]∧bx=[]∧hp=[]) rfl
    ⟨0,0,by simp,by omega,by omega,by simp,by simp,rfl,rfl,rfl⟩ ⟨rfl,rfl,rfl,rfl,trivial⟩ ?_
  rintro m env bx hp ⟨k,acc,rfl,hk,hk9,hacc,he,rfl,rfl,rfl⟩ ih
  by_cases h:k=l.length
  · refine At.run 100 true [false] [] rfl (by simp only [bl_str]; exact oK) ?_
    have hd:l.drop k=[]:=by rw [h]; simp
    have hr:digP l 0 0=(0,k,2):=by rw [he,hd]; rfl
    exact At.ret [] rfl Tryz.func171 rfl trivial ⟨by unfold digR; rw [hr]; rfl,rfl,rfl⟩
  · obtain⟨c,hc⟩:∃ c,l[k]?=some c:=⟨_,List.getElem?_eq_getElem (by omega)⟩
    have hd:l.drop k=c :: l.drop (k+1):=by
      rw [List.drop_eq_getElem_cons (by omega)]; congr 1; exact (List.getElem?_eq_some_iff.1 hc).2
    rw [hd] at he
    have ec:(bl ⟨l.toArray⟩)[((k:Nat):Int).toNat]?.getD 0=c:=by rw [Int.toNat_natCast,bl_str]; simp [hc]
    have hcl:=c.toNat_lt
    have hp9:(128:Nat) ^ k≤128 ^ 9:=Nat.pow_le_pow_right (by decide) hk9
    have hL:k < (bl ⟨l.toArray⟩).length:=by rw [bl_str]; omega
    have hb64:=hlen
    rw [← bl_str l] at hb64
    have hlt:decide ((k:Int) < (((bl ⟨l.toArray⟩).length:Nat):Int))=true:=decide_eq_true (by omega)
    have hix:(0:Int)≤k∧(k:Int) < (((bl ⟨l.toArray⟩).length:Nat):Int):=by omega
    by_cases h9:k=9
    · subst h9
      by_cases hc1:1 < c.toNat
      · refine At.run 100 true [true,true,true] [] rfl (by simp only [ec]; exact oK) ?_
        have hr:digP l 0 0=(0,9+1,3):=by rw [he]; simp [digP,hc1]
        exact At.ret [] rfl Tryz.func171 rfl trivial ⟨by unfold digR; rw [hr]; rfl,rfl,rfl⟩
      · by_cases hz:c.toNat=0
        · refine At.run 100 true [true,true,false,true,true] [] rfl (by simp only [ec]; exact oK) ?_
          have hr:digP l 0 0=(0,9+1,3):=by rw [he]; simp [digP,hz]
          exact At.ret [] rfl Tryz.func171 rfl trivial ⟨by unfold digR; rw [hr]; rfl,rfl,rfl⟩
        · refine At.run 100 false [true,true,false,true,false,true] [] rfl (by simp only [ec]; exact oK) ?_
          have hr:digP l 0 0=(acc+c.toNat * 128 ^ 9,9+1,0):=by rw [he]; simp [digP,hc1,hz]; omega
          refine At.ret [] rfl Tryz.func171 rfl trivial ⟨?_,rfl,rfl⟩
          unfold digR; rw [hr]
          simp only [ec,tupV,if_true]
          have e1:IntKind.u64.wrap ((acc:Int)+IntKind.u64.wrap (IntKind.u64.wrap ((c.toNat:Int).tmod 128) * ((128 ^ 9:Nat):Int)))=((acc+c.toNat * 128 ^ 9:Nat):Int):=by
            have hc2:c.toNat=1:=by omega
            have e3:((1:Nat):Int).tmod 128=1:=by decide
            rw [hc2,e3]; simp only [wrap_u64]; omega
          have e2:IntKind.i64.wrap (((9:Nat):Int)+1)=((9+1:Nat):Int):=by rw [wrap_i64]; omega
          rw [e1,e2]; rfl
    · have hk8:(128:Nat) ^ k≤128 ^ 8:=Nat.pow_le_pow_right (by decide) (by omega)
      have h3:c.toNat % 128 * 128 ^ k≤127 * 128 ^ k:=Nat.mul_le_mul_right _ (by omega)
      have h3':(c.toNat:Int) % 128 * ((128 ^ k:Nat):Int)=((c.toNat % 128 * 128 ^ k:Nat):Int):=by rw [Int.natCast_mul,Int.natCast_emod]; rfl
      have hpos:0 < (128:Nat) ^ k:=Nat.pow_pos (by decide)
      by_cases hz:0 < k∧c.toNat=0
      · refine At.run 100 true [true,false,false,true,true] [] rfl (by simp only [ec]; exact oK) ?_
        have hr:digP l 0 0=(0,k+1,3):=by rw [he]; simp [digP,hz.2,hz.1,h9]
        exact At.ret [] rfl Tryz.func171 rfl trivial ⟨by unfold digR; rw [hr]; rfl,rfl,rfl⟩
      · by_cases h128:c.toNat < 128
        · have hm:c.toNat % 128=c.toNat:=Nat.mod_eq_of_lt h128
          have hr:digP l 0 0=(acc+c.toNat % 128 * 128 ^ k,k+1,0):=by rw [he,hm,digP,if_neg (by omega),if_pos h128,if_neg (by omega)]
          by_cases hk0:0 < k
          · refine At.run 100 true [true,false,false,true,false,true] [] rfl (by simp only [ec,h3']; exact oK) ?_
            refine At.ret [] rfl Tryz.func171 rfl trivial ⟨?_,rfl,rfl⟩
            unfold digR; rw [hr]
            simp only [ec,h3',tupV,if_true]; rfl
          · refine At.run 100 true [true,false,false,false,false,true] [] rfl (by simp only [ec,h3']; exact oK) ?_
            refine At.ret [] rfl Tryz.func171 rfl trivial ⟨?_,rfl,rfl⟩
            unfold digR; rw [hr]
            simp only [ec,h3',tupV,if_true]; rfl
        · have hr:digP l 0 0=digP (l.drop (k+1)) (k+1) (acc+c.toNat % 128 * 128 ^ k):=by rw [he,digP,if_neg (by omega),if_neg h128]
          have e4:((128 ^ k:Nat):Int) * 128=((128 ^ (k+1):Nat):Int):=by rw [Nat.pow_succ,Int.natCast_mul]; rfl
          have hk9':(128:Nat) ^ (k+1)≤128 ^ 9:=Nat.pow_le_pow_right (by decide) (by omega)
          by_cases hk0:0 < k
          · refine At.run 100 true [true,false,false,true,false,false] [] rfl (by simp only [ec,h3',e4]; exact oK) ?_
            refine At.weak (ih (l.length - (k+1)) _ _ _ (by omega) ⟨k+1,acc+c.toNat % 128 * 128 ^ k,rfl,by omega,by omega,by rw [Nat.pow_succ]; omega,hr,rfl,rfl,rfl⟩) ⟨rfl,some_int_eq (by rw [ec,h3']; rfl),some_int_eq e4,some_int_eq (by omega),trivial⟩
          · refine At.run 100 true [true,false,false,false,false,false] [] rfl (by simp only [ec,h3',e4]; exact oK) ?_
            refine At.weak (ih (l.length - (k+1)) _ _ _ (by omega) ⟨k+1,acc+c.toNat % 128 * 128 ^ k,rfl,by omega,by omega,by rw [Nat.pow_succ]; omega,hr,rfl,rfl,rfl⟩) ⟨rfl,some_int_eq (by rw [ec,h3']; rfl),some_int_eq e4,some_int_eq (by omega),trivial⟩
theorem Tryz.rOf_w (s:ByteArray) (w:World) :
    Tri Tryz.prog 146 [.string s] w [] (fun v bx hp=>∃ b,v=.pointer (some ⟨b,0,none⟩)∧bx=[(b,196,rdr s 0 0)]∧hp=[]):=by
  refine Tri.enter (bx:=[]) (hp:=[]) Tryz.func146 rfl (by kernel_rfl) rfl (Own.nil w) ?_
  refine At.run 100 true [] [] rfl oK ?_
  refine At.step [] rfl rfl rfl rfl rfl trivial (OpOk.box rfl rfl rfl fun b hb=>?_)
  refine At.run 100 true [] [] rfl oK ?_
  exact At.ret [] rfl Tryz.func146 rfl trivial ⟨b,rfl,rfl,rfl⟩
theorem Tryz.rNum_w (s:ByteArray) (a0:Nat) (f:Int) (b most:Nat) (w:World) (ha:a0≤(bl s).length) (hlen:(bl s).length≤9223372036854775807)
    (hown:Own [(b,196,rdr s a0 f)] [] w) :
    FunU Tryz.prog 147 [.pointer (some ⟨b,0,none⟩),.int .u64 most] w (.int .u64 (rdN (bl s) a0 f most).1) (b,196,rdr s (rdN (bl s) a0 f most).2.1 (rdN (bl s) a0 f most).2.2):=by
  refine Tri.enter (bx:=[(b,196,rdr s a0 f)]) (hp:=[]) Tryz.func147 rfl (by kernel_rfl) rfl hown ?_
  by_cases hf:f=0
  · subst hf
    refine At.run 100 true [false] [hB 0] rfl oK ?_
    have hk:=digP_k ((bl s).drop a0) 0 0
    rw [List.length_drop] at hk
    unfold rdN numE
    obtain⟨n,k,e,hD⟩:∃ n k e,digP ((bl s).drop a0) 0 0=(n,k,e):=⟨_,_,_,rfl⟩
    have hd:=fun w'=>Tryz.rdigits_w ((bl s).drop a0) w' (by rw [List.length_drop]; omega)
    unfold digR at hd
    simp only [hD] at hd hk ⊢
    by_cases he:e=0
    · subst he
      simp only [if_true] at hd
      refine At.quiet true [] [hB 0,hB 0,hC (.tuple #[.int .u64 n,.int .i64 k,.int .i64 0])] ⟨by kernel_rfl,by kernel_rfl,rfl,rfl,rfl⟩ rfl rfl rfl ⟨fun w' _=>hd w',⟨by omega,by omega⟩,rfl,rfl,trivial⟩ ?_
      by_cases hm:most < n
      · refine At.run 100 true [true,true,true] [hB 0] rfl ⟨⟨rfl,rfl⟩,rfl,decide_eq_true (by omega),decide_eq_true (by omega),rfl,rfl,rfl,trivial⟩ ?_
        refine At.ret [] rfl Tryz.func147 rfl trivial ⟨?_,?_,rfl⟩
        · simp [hm,tupV]
        · simp [hm,rdr]
      · refine At.run 100 true [true,false,false] [hB 0,hB 0] rfl oK ?_
        refine At.ret [] rfl Tryz.func147 rfl trivial ⟨?_,?_,rfl⟩
        · simp [hm,tupV]
        · simp [hm,rdr]
    · simp only [if_neg he] at hd
      refine At.quiet true [] [hB 0,hB 0,hC (.tuple #[.int .u64 0,.int .i64 0,.int .i64 e])] ⟨by kernel_rfl,by kernel_rfl,rfl,rfl,rfl⟩ rfl rfl rfl ⟨fun w' _=>hd w',⟨by omega,by omega⟩,rfl,rfl,trivial⟩ ?_
      refine At.run 100 true [false,false,true] [hB 0] rfl oK ?_
      refine At.ret [] rfl Tryz.func147 rfl trivial ⟨?_,?_,rfl⟩
      · simp [he,tupV]
      · simp [he,rdr]
  · refine At.run 100 true [true] [hB 0] rfl oK ?_
    refine At.ret [] rfl Tryz.func147 rfl trivial ⟨?_,?_,rfl⟩
    · simp [rdN,hf,tupV]
    · simp [rdN,hf]
end Go.Proofs

/-
  A card's file, opened.
-/
import Derived.Test.YtibdpdlghibijaaGreatDoorMP12
import Derived.Test.YtibdpdlghibijaaGreatDoorProg
import Derived.Test.YtibdpdlghibijaaGreatDoorMP9
import Derived.Test.YtibdpdlghibijaaGreatDoorMP13
import Derived.Test.YtibdpdlghibijaaGreatDoorMP3
namespace Go.Proofs
open Go Go.Eng
set_option maxRecDepth 100000
set_option maxHeartbeats 4000000
attribute [local irreducible] Tri
open Go.WideShapes
theorem Tryz.file21_c {H:Type}{enc:TypeId × Value→H}{w:World}{base:Nat}{sp:Nat→Bool}{held:Bool}{n:Nat}{cs:List Value}{y:DataW H × List MemPlace}(h:DataW.trod enc Tryz.prog w base sp held n 57 cs=some y):∃ p:List UInt8 × List UInt8,cs=flC p∧p.1.length≤9223372036854775807∧p.2.length≤9223372036854775807:=by
  obtain⟨hl,n0,y0,t0⟩:=open_fld h 0 9 0 1 (by kernel_rfl)
  obtain⟨-,n1,y1,t1⟩:=open_fld h 1 9 1 1 (by kernel_rfl)
  have hc:cs.length=2:=by rw [hl]; kernel_rfl
  obtain⟨l0,e0,h0⟩:=open_str_c (by kernel_rfl) t0
  obtain⟨l1,e1,h1⟩:=open_str_c (by kernel_rfl) t1
  match cs,hc with
  | [v0,v1],_ =>
    simp at e0 e1
    subst e0; subst e1
    exact⟨(l0,l1),rfl,h0,h1⟩
theorem Tryz.config_c {H:Type}{enc:TypeId × Value→H}{w:World}{base:Nat}{sp:Nat→Bool}{held:Bool}{n:Nat}{cs:List Value}{y:DataW H × List MemPlace}(h:DataW.trod enc Tryz.prog w base sp held n 23 cs=some y):∃ a b c d:Int,cs=[.int .i64 a,.int .i64 b,.int .i64 c,.int .i64 d]∧inK .i64 a∧inK .i64 b∧inK .i64 c∧inK .i64 d:=by
  obtain⟨L,hcl,hl,hin⟩:=open_rec (sz:=4) (by kernel_rfl) h
  match L,hl with
  | [a,b,c,d],_ => exact⟨a,b,c,d,hcl,hin a (by simp),hin b (by simp),hin c (by simp),hin d (by simp)⟩
end Go.Proofs

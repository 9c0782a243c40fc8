/-
  Walk of layer 2: a block mixed into a state.
-/
import Derived.Test.YtibdpdlghibijaaGreatDoorMP16
import Derived.Test.YtibdpdlghibijaaGreatDoorMP7
import Derived.Test.YtibdpdlghibijaaGreatDoorMP18
import Derived.Test.YtibdpdlghibijaaGreatDoorMP19
import Derived.Test.YtibdpdlghibijaaGreatDoorMP12
import Derived.Test.YtibdpdlghibijaaGreatDoorMP1
import Derived.Test.YtibdpdlghibijaaGreatDoorMP2
namespace Go.Proofs
open Go Go.Eng
set_option maxRecDepth 100000
set_option maxHeartbeats 4000000
attribute [local irreducible] Tri
attribute [local irreducible] fillW mixL
theorem Tryz.mix_w (sa sb sc sd se sf sg sh:BitVec 32) (p:List UInt8) (a:Option Addr) (cap:Nat) (w:World) (hp:p.length=64) (hc64:64≤cap) (hrow:SlOk w a (u8s p)) (hK:SlOk w (some ⟨1,0,none⟩) (w32s K64)) :
    Fun Tryz.prog 169 [.agg ⟨[v32 sa,v32 sb,v32 sc,v32 sd,v32 se,v32 sf,v32 sg,v32 sh]⟩,.slice a 64 cap] w (.agg ⟨w32s (mixS K64 ⟨sa,sb,sc,sd,se,sf,sg,sh⟩ p).l⟩):=by
  obtain⟨g,o,rfl,hc⟩:=hrow.get (by intro e; have:=congrArg List.length e; rw [u8s_len,hp] at this; simp at this)
  have hWl:=wsx_len p 48
  have hlo:=fun i (h:i < 16)=>wsx_lo (p:=p) h
  have hhi:=fun i (h:16≤i) (h2:i < 64)=>wsx_at (p:=p) h h2
  have hmx:mixS K64 ⟨sa,sb,sc,sd,se,sf,sg,sh⟩ p=addS (rnds K64 (wsx p 48) 64 ⟨sa,sb,sc,sd,se,sf,sg,sh⟩) ⟨sa,sb,sc,sd,se,sf,sg,sh⟩:=rfl
  rw [hmx]
  clear hmx
  generalize wsx p 48=W at hWl hlo hhi
  refine Tri.enter (bx:=[]) (hp:=[]) Tryz.func169 rfl (by kernel_rfl) rfl (Own.nil w) ?_
  refine At.go [] [] rfl (by and_intros <;> first | exact trivial | exact oK) ?_
  refine At.bo fun b2 hb2=>?_
  refine At.al fun b4 hb4=>?_
  refine At.go [] [] rfl (by and_intros <;> first | exact trivial | exact oK) ?_
  refine At.al fun b5 hb5=>?_
  refine At.go [] [] rfl (by and_intros <;> first | exact trivial | exact oK) ?_
  rw [z64_eq,← fillW_zero W 64]
  refine At.loop (env0:=[(1,.slice (some ⟨g,o,none⟩) 64 cap),(2,.pointer (some ⟨b2,0,none⟩)),(4,.pointer (some ⟨b4,0,none⟩)),(5,.pointer (some ⟨b5,0,none⟩)),(19,.int .i64 0)]) (fun m_ env bx hp => ∃ (i:Nat),m_=16 - i∧(i≤16)∧env=[(1,.slice (some ⟨g,o,none⟩) 64 cap),(2,.pointer (some ⟨b2,0,none⟩)),(4,.pointer (some ⟨b4,0,none⟩)),(5,.pointer (some ⟨b5,0,none⟩)),(19,.int .i64 i)]∧bx=[(b5,33,fillW W 64 i),(b4,34,[.int .u32 0,.int .u32 0,.int .u32 0,.int .u32 0,.int .u32 0,.int .u32 0,.int .u32 0,.int .u32 0]),(b2,34,[.int .u32 ↑sa.toNat,.int .u32 ↑sb.toNat,.int .u32 ↑sc.toNat,.int .u32 ↑sd.toNat,.int .u32 ↑se.toNat,.int .u32 ↑sf.toNat,.int .u32 ↑sg.toNat,.int .u32 ↑sh.toNat])]∧hp=[]) rfl
    ⟨0,rfl,(by omega),rfl,rfl,rfl⟩ sB ?_
  rintro m_ env bx hp ⟨i,rfl,hi,rfl,rfl,rfl⟩ ih
  by_cases hlt:i < 16
  · have hx:W[i]?=some (at32 W i):=at32_get (by omega)
    have hsl:SlOk w (some ⟨g,o+4 * i,none⟩) (u8s (p.drop (4 * i))):=SlOk.dropU (4 * i) (by omega) hrow
    have fW:∀ {bx:Bx}{hp:List Seg},CallOb Tryz.prog ⟨w,kys [] []⟩ bx hp 187 [.slice (some ⟨g,o+(4 * (i:Int)).toNat * 1,none⟩) (64 - (4 * (i:Int)).toNat) (cap - (4 * (i:Int)).toNat)] (v32 (at32 W i)):=fun {_ _} w' hw'=>by
      rw [hlo i hlt,← wordAt_drop,show o+(4 * (i:Int)).toNat * 1=o+4 * i by omega,show 64 - (4 * (i:Int)).toNat=64 - 4 * i by omega]
      exact Tryz.word_w (p.drop (4 * i)) _ _ _ w' (by rw [List.length_drop]; omega) (by omega) (hsl.ext hw'.ext (by simp [kys]))
    refine At.go [true] [hC (.int .u32 ↑(at32 W i).toNat)] rfl (by and_intros <;> first | exact decide_eq_true (by omega) | omega | exact fW | exact oK) ?_
    have hput:putL (fillW W 64 i) (0+(i:Int).toNat * 1) [.int .u32 ((at32 W i).toNat:Int)]=fillW W 64 (i+1):=by
      rw [show 0+(i:Int).toNat * 1=i by omega]; exact fillW_put hx (by omega)
    refine At.step0 [] rfl rfl rfl rfl trivial (OpOk.storeBlk 0 rfl rfl rfl rfl rfl rfl (by rw [fillW_len (by omega) (by omega)]; simp; omega) ?_)
    rw [hput]
    refine At.go [] [] rfl (by and_intros <;> first | exact trivial | exact oK) ?_
    exact At.weak (ih _ _ _ _ (by omega) ⟨i+1,rfl,by omega,rfl,rfl,rfl⟩) sB
  · obtain rfl:i=16:=by omega
    refine At.go [false] [] rfl (by and_intros <;> first | exact decide_eq_false (by omega) | exact oK) ?_
    refine At.loop (env0:=[(2,.pointer (some ⟨b2,0,none⟩)),(4,.pointer (some ⟨b4,0,none⟩)),(5,.pointer (some ⟨b5,0,none⟩)),(7,.int .i64 16)]) (fun m_ env bx hp => ∃ (i:Nat),m_=64 - i∧(i≤64)∧(16≤i)∧env=[(2,.pointer (some ⟨b2,0,none⟩)),(4,.pointer (some ⟨b4,0,none⟩)),(5,.pointer (some ⟨b5,0,none⟩)),(7,.int .i64 i)]∧bx=[(b5,33,fillW W 64 i),(b4,34,[.int .u32 0,.int .u32 0,.int .u32 0,.int .u32 0,.int .u32 0,.int .u32 0,.int .u32 0,.int .u32 0]),(b2,34,[.int .u32 ↑sa.toNat,.int .u32 ↑sb.toNat,.int .u32 ↑sc.toNat,.int .u32 ↑sd.toNat,.int .u32 ↑se.toNat,.int .u32 ↑sf.toNat,.int .u32 ↑sg.toNat,.int .u32 ↑sh.toNat])]∧hp=[]) rfl
      ⟨16,rfl,(by omega),(by omega),rfl,rfl,rfl⟩ sB ?_
    rintro m_ env bx hp ⟨i,rfl,hi2,h16,rfl,rfl,rfl⟩ ih
    by_cases hlt:i < 64
    · have hx:W[i]?=some (at32 W i):=at32_get (by omega)
      have r:∀ {bx:Bx}{hp:List Seg}(d:Nat),1≤d→d≤16→nth bx 0=some (b5,33,fillW W 64 i)→∀ off,off=i - d→RdW ⟨w,kys [] []⟩ bx hp b5 off [v32 (at32 W (i - d))]:=fun {_ _} d h1 h2 h off ho=>by
        subst ho; exact RdW.blk1 h (fillW_get (by omega) (by omega))
      have f0:∀ {S:Base}{bx:Bx}{hp:List Seg},CallOb Tryz.prog S bx hp 188 [v32 (at32 W (i - 15)),.int .i64 7,.int .i64 18,.int .u32 (((at32 W (i - 15)).toNat:Int) / 2 ^ min (Int.toNat 3) IntKind.u32.bits)] (v32 (sg0 (at32 W (i - 15)))):=fun {_ _ _} w' _=>by
        rw [show min (Int.toNat 3) IntKind.u32.bits=3 from rfl,w_shr]
        exact Tryz.mixed_w _ 7 18 _ (by decide) (by decide) w'
      have f1:∀ {S:Base}{bx:Bx}{hp:List Seg},CallOb Tryz.prog S bx hp 188 [v32 (at32 W (i - 2)),.int .i64 17,.int .i64 19,.int .u32 (((at32 W (i - 2)).toNat:Int) / 2 ^ min (Int.toNat 10) IntKind.u32.bits)] (v32 (sg1 (at32 W (i - 2)))):=fun {_ _ _} w' _=>by
        rw [show min (Int.toNat 10) IntKind.u32.bits=10 from rfl,w_shr]
        exact Tryz.mixed_w _ 17 19 _ (by decide) (by decide) w'
      have hput:putL (fillW W 64 i) (0+(i:Int).toNat * 1) [.int .u32 (IntKind.u32.wrap (IntKind.u32.wrap (IntKind.u32.wrap (((at32 W (i - 16)).toNat:Int)+((at32 W (i - 7)).toNat:Int))+((sg0 (at32 W (i - 15))).toNat:Int))+((sg1 (at32 W (i - 2))).toNat:Int)))]=fillW W 64 (i+1):=by
        rw [w_add,w_add,w_add,← hhi i h16 hlt,show 0+(i:Int).toNat * 1=i by omega]; exact fillW_put hx (by omega)
      refine At.gw [true] [] rfl (by and_intros <;> first | exact decide_eq_true (by omega) | exact oK) ?_
      refine At.dr 34 ?_
      refine AtD.pu [0,1,5,10,14,21,25] 27 rfl oK ?_
      refine AtD.pu [2,6,11,15,22,26] 21 rfl oK ?_
      refine AtD.pu [3,7,12,16,23,27] 15 rfl oK ?_
      refine AtD.lxw [4,8,9,13,17,18,19,20,24,28,29,30,31,32] 1 [] [hR [v32 (at32 W (i - 16))],hR [v32 (at32 W (i - 7))],hR [v32 (at32 W (i - 15))],hR [v32 (at32 W (i - 15))],hC (v32 (sg0 (at32 W (i - 15)))),hR [v32 (at32 W (i - 2))],hR [v32 (at32 W (i - 2))],hC (v32 (sg1 (at32 W (i - 2))))] rfl (by and_intros <;> first | exact r 16 (by decide) (by decide) rfl _ (by omega) | exact r 7 (by decide) (by decide) rfl _ (by omega) | exact r 15 (by decide) (by decide) rfl _ (by omega) | exact r 2 (by decide) (by decide) rfl _ (by omega) | exact f0 | exact f1 | exact oK) ?_
      refine AtD.fork1 33 (by kernel_rfl) (StepD.by0 [] rfl rfl rfl trivial (OpOk.storeBlk 0 rfl rfl rfl rfl rfl rfl (by rw [fillW_len (by omega) (by omega)]; simp; omega) ?_))
      rw [hput]
      refine AtD.dn ?_
      refine At.go [] [] rfl (by and_intros <;> first | exact trivial | exact oK) ?_
      exact At.weak (ih _ _ _ _ (by omega) ⟨i+1,rfl,by omega,by omega,rfl,rfl,rfl⟩) sB
    · obtain rfl:i=64:=by omega
      refine At.go [false] [hB 2] rfl (by and_intros <;> first | exact decide_eq_false (by omega) | exact oK) ?_
      refine At.al fun b8 hb8=>?_
      refine At.go [] [hB 0] rfl (by and_intros <;> first | exact decide_eq_false (by omega) | exact oK) ?_
      refine At.loop (env0:=[(2,.pointer (some ⟨b2,0,none⟩)),(4,.pointer (some ⟨b4,0,none⟩)),(5,.pointer (some ⟨b5,0,none⟩)),(8,.pointer (some ⟨b8,0,none⟩)),(68,.int .i64 0)]) (fun m_ env bx hp => ∃ (i:Nat) (x1:BitVec 32) (x2:BitVec 32) (x3:BitVec 32) (x4:BitVec 32) (x5:BitVec 32) (x6:BitVec 32) (x7:BitVec 32) (x8:BitVec 32),m_=64 - i∧(i≤64)∧(rnds K64 W i ⟨sa,sb,sc,sd,se,sf,sg,sh⟩=⟨x1,x2,x3,x4,x5,x6,x7,x8⟩)∧env=[(2,.pointer (some ⟨b2,0,none⟩)),(4,.pointer (some ⟨b4,0,none⟩)),(5,.pointer (some ⟨b5,0,none⟩)),(8,.pointer (some ⟨b8,0,none⟩)),(68,.int .i64 i)]∧bx=[(b8,34,[v32 x1,v32 x2,v32 x3,v32 x4,v32 x5,v32 x6,v32 x7,v32 x8]),(b5,33,fillW W 64 64),(b4,34,[.int .u32 0,.int .u32 0,.int .u32 0,.int .u32 0,.int .u32 0,.int .u32 0,.int .u32 0,.int .u32 0]),(b2,34,[.int .u32 ↑sa.toNat,.int .u32 ↑sb.toNat,.int .u32 ↑sc.toNat,.int .u32 ↑sd.toNat,.int .u32 ↑se.toNat,.int .u32 ↑sf.toNat,.int .u32 ↑sg.toNat,.int .u32 ↑sh.toNat])]∧hp=[]) rfl
        ⟨0,sa,sb,sc,sd,se,sf,sg,sh,rfl,(by omega),(rfl),rfl,rfl,rfl⟩ sB ?_
      rintro m_ env bx hp ⟨i,x1,x2,x3,x4,x5,x6,x7,x8,rfl,hi3,hs,rfl,rfl,rfl⟩ ih
      by_cases hlt:i < 64
      · have hx:W[i]?=some (at32 W i):=at32_get (by omega)
        have hk:K64[i]?=some (at32 K64 i):=at32_get (by rw [K64_len]; omega)
        obtain⟨T,hT⟩:∃ T,rT ⟨x1,x2,x3,x4,x5,x6,x7,x8⟩ (at32 K64 i) (at32 W i)=T:=⟨_,rfl⟩
        obtain⟨U,hU'⟩:∃ U,rU ⟨x1,x2,x3,x4,x5,x6,x7,x8⟩=U:=⟨_,rfl⟩
        have hs2:rnds K64 W (i+1) ⟨sa,sb,sc,sd,se,sf,sg,sh⟩=⟨T+U,x1,x2,x3,x4+T,x5,x6,x7⟩:=by
          show rnd (rnds K64 W i ⟨sa,sb,sc,sd,se,sf,sg,sh⟩) (at32 K64 i) (at32 W i)=_
          rw [hs,← hT,← hU']; rfl
        have hTT:∀ z:Int,z=IntKind.u32.max→IntKind.u32.wrap (IntKind.u32.wrap (IntKind.u32.wrap (IntKind.u32.wrap ((x8.toNat:Int)+((at32 K64 i).toNat:Int))+((at32 W i).toNat:Int))+((bg1 x5).toNat:Int))+ixor .u32 (iand .u32 x5.toNat x6.toNat) (iand .u32 (ixor .u32 z x5.toNat) x7.toNat))=(T.toNat:Int):=by
          intro z hz
          rw [hz,w_not,w_and,w_and,w_xor,w_add,w_add,w_add,w_add,← hT]; rfl
        have hUU:IntKind.u32.wrap (((bg0 x1).toNat:Int)+ixor .u32 (ixor .u32 (iand .u32 x1.toNat x2.toNat) (iand .u32 x1.toNat x3.toNat)) (iand .u32 x2.toNat x3.toNat))=(U.toNat:Int):=by
          rw [w_and,w_and,w_and,w_xor,w_xor,w_add,← hU']; rfl
        have rK:∀ {bx:Bx}{hp:List Seg},RdW ⟨w,kys [] []⟩ bx hp 1 (0+(i:Int).toNat * 1) [v32 (at32 K64 i)]:=fun {_ _}=>by
          obtain⟨gk,ok,hgk,hck⟩:=hK.get (by decide)
          cases hgk
          exact RdW.base1 (by simp [kys]) (by rw [show 0+(i:Int).toNat * 1=i by omega]; have:=hck i _ (w32s_get hk); rwa [Nat.zero_add] at this)
        have rW:∀ {bx:Bx}{hp:List Seg},nth bx 1=some (b5,33,fillW W 64 64)→RdW ⟨w,kys [] []⟩ bx hp b5 (0+(i:Int).toNat * 1) [v32 (at32 W i)]:=fun {_ _} h=>RdW.blk1 h (by rw [show 0+(i:Int).toNat * 1=i by omega]; exact fillW_get (by omega) (by omega))
        have fT:∀ {S:Base}{bx:Bx}{hp:List Seg},CallOb Tryz.prog S bx hp 189 [v32 x5,.int .i64 25] (v32 (rot x5 25)):=fun {_ _ _} w' _=>Tryz.turned_w x5 25 (by decide) w'
        have fM:∀ {S:Base}{bx:Bx}{hp:List Seg},CallOb Tryz.prog S bx hp 188 [v32 x5,.int .i64 6,.int .i64 11,v32 (rot x5 25)] (v32 (bg1 x5)):=fun {_ _ _} w' _=>Tryz.mixed_w x5 6 11 _ (by decide) (by decide) w'
        have fU:∀ {S:Base}{bx:Bx}{hp:List Seg},CallOb Tryz.prog S bx hp 189 [v32 x1,.int .i64 22] (v32 (rot x1 22)):=fun {_ _ _} w' _=>Tryz.turned_w x1 22 (by decide) w'
        have fN:∀ {S:Base}{bx:Bx}{hp:List Seg},CallOb Tryz.prog S bx hp 188 [v32 x1,.int .i64 2,.int .i64 13,v32 (rot x1 22)] (v32 (bg0 x1)):=fun {_ _ _} w' _=>Tryz.mixed_w x1 2 13 _ (by decide) (by decide) w'
        refine At.go [true] [] rfl (by and_intros <;> first | exact decide_eq_true (by omega) | exact oK) ?_
        refine At.qt [] [hB 0,hB 0,hB 0,hB 0,hB 0,hB 0] rfl rfl (by and_intros <;> first | exact decide_eq_true (by omega) | exact oK) ?_
        refine At.gn 2 [] [] rfl (by and_intros <;> first | exact decide_eq_true (by omega) | exact oK) ?_
        refine At.dr 25 ?_
        refine AtD.pu [0,2,6,10,11,15,16,18,20] 16 rfl oK ?_
        refine AtD.pu [3,7,17,19] 12 rfl oK ?_
        refine AtD.pu [21] 11 rfl oK ?_
        refine AtD.pu [22] 10 rfl oK ?_
        refine AtD.lxw [1,4,5,8,9,12,13,14,23,24] 0 [] [hB 0,hR [v32 (at32 K64 i)],hR [v32 (at32 W i)],hC (v32 (rot x5 25)),hC (v32 (bg1 x5))] rfl (by and_intros <;> first | exact rK | exact rW rfl | exact fT | exact fM | exact oK) ?_
        refine AtD.dn ?_
        refine At.gw [] [hC (v32 (rot x1 22)),hC (v32 (bg0 x1))] rfl (by and_intros <;> first | exact fU | exact fN | exact oK) ?_
        rw [hUU,hTT]
        rotate_left
        · rfl
        refine At.cutU (ι:=Unit) ⟨0,[0,1,1,1,1,1,0,0,1,1,0,0,1,0,1,1,1,1,1],[]⟩ (fun _=>[(2,.pointer (some ⟨b2,0,none⟩)),(4,.pointer (some ⟨b4,0,none⟩)),(5,.pointer (some ⟨b5,0,none⟩)),(8,.pointer (some ⟨b8,0,none⟩)),(16,v32 T),(17,v32 U),(68,.int .i64 i)]) (fun _=>[(b8,34,[v32 x1,v32 x1,v32 x2,v32 x3,v32 x4,v32 x5,v32 x6,v32 x7]),(b5,33,fillW W 64 64),(b4,34,[v32 0,v32 0,v32 0,v32 0,v32 0,v32 0,v32 0,v32 0]),(b2,34,[v32 sa,v32 sb,v32 sc,v32 sd,v32 se,v32 sf,v32 sg,v32 sh])]) ?_ fun hk=>?_
        · rintro -
          refine At.gw [] [hB 0,hB 0,hB 0] rfl (by and_intros <;> first | exact trivial | exact oK) ?_
          rw [w_add,w_add,wrap_of_in (show inK .i64 ((i:Int)+1) by simp only [inK]; omega)]
          exact At.weak (ih _ _ _ _ (by omega) ⟨i+1,T+U,x1,x2,x3,x4+T,x5,x6,x7,rfl,by omega,hs2,rfl,rfl,rfl⟩) sB
        · have hk0:=hk ()
          refine At.dr 3 ?_
          refine AtD.fork2 0 1 (by kernel_rfl) (StepD.by [] rfl rfl rfl rfl trivial (OpOk.sliceLo (n:=8) 1 rfl rfl rfl rfl rfl (by decide) ?_)) (StepD.by [] rfl rfl rfl rfl trivial (OpOk.sliceHi (n:=8) 7 rfl rfl rfl rfl rfl (by decide) ?_))
          · refine AtD.f1r 1 (OpOk.sliceHi (n:=8) 7 rfl rfl rfl rfl rfl (by decide) ?_)
            refine AtD.f1r 2 (OpOk.copyBox (u:=[v32 x1,v32 x2,v32 x3,v32 x4,v32 x5,v32 x6,v32 x7]) (off:=0+1 * 1) (m:=7) 0 rfl rfl rfl rfl (fun w hw=>SrcOk.part (o:=0) (n:=7) (cs:=[v32 x1,v32 x2,v32 x3,v32 x4,v32 x5,v32 x6,v32 x7,v32 x8]) (hw.bx _ (nth_mem (i:=0) rfl)) (by simp) rfl) (w32s_one [x1,x2,x3,x4,x5,x6,x7]) rfl (by simp) ?_)
            refine AtD.dn ?_
            refine At.gn 2 [] [hB 0,hB 0,hB 0] rfl (by and_intros <;> first | exact trivial | exact oK) ?_
            exact At.weak hk0 sB
          · refine AtD.f1r 0 (OpOk.sliceLo (n:=8) 1 rfl rfl rfl rfl rfl (by decide) ?_)
            refine AtD.f1r 2 (OpOk.copyBox (u:=[v32 x1,v32 x2,v32 x3,v32 x4,v32 x5,v32 x6,v32 x7]) (off:=0+1 * 1) (m:=7) 0 rfl rfl rfl rfl (fun w hw=>SrcOk.part (o:=0) (n:=7) (cs:=[v32 x1,v32 x2,v32 x3,v32 x4,v32 x5,v32 x6,v32 x7,v32 x8]) (hw.bx _ (nth_mem (i:=0) rfl)) (by simp) rfl) (w32s_one [x1,x2,x3,x4,x5,x6,x7]) rfl (by simp) ?_)
            refine AtD.dn ?_
            refine At.gn 2 [] [hB 0,hB 0,hB 0] rfl (by and_intros <;> first | exact trivial | exact oK) ?_
            exact At.weak hk0 sB
      · obtain rfl:i=64:=by omega
        rw [hs]
        refine At.go [false] [] rfl (by and_intros <;> first | exact decide_eq_false (by omega) | exact oK) ?_
        have lX:([x1,x2,x3,x4,x5,x6,x7,x8]:List (BitVec 32)).length=8:=rfl
        have lS:([sa,sb,sc,sd,se,sf,sg,sh]:List (BitVec 32)).length=8:=rfl
        rw [show ([v32 x1,v32 x2,v32 x3,v32 x4,v32 x5,v32 x6,v32 x7,v32 x8]:List Value)=mixL [x1,x2,x3,x4,x5,x6,x7,x8] [sa,sb,sc,sd,se,sf,sg,sh] 0 by rw [mixL_zero]; rfl]
        refine At.loop (env0:=[(2,.pointer (some ⟨b2,0,none⟩)),(4,.pointer (some ⟨b4,0,none⟩)),(8,.pointer (some ⟨b8,0,none⟩)),(136,.int .i64 0)]) (fun m_ env bx hp => ∃ (i:Nat),m_=8 - i∧(i≤8)∧env=[(2,.pointer (some ⟨b2,0,none⟩)),(4,.pointer (some ⟨b4,0,none⟩)),(8,.pointer (some ⟨b8,0,none⟩)),(136,.int .i64 i)]∧bx=[(b8,34,mixL [x1,x2,x3,x4,x5,x6,x7,x8] [sa,sb,sc,sd,se,sf,sg,sh] i),(b5,33,fillW W 64 64),(b4,34,[.int .u32 0,.int .u32 0,.int .u32 0,.int .u32 0,.int .u32 0,.int .u32 0,.int .u32 0,.int .u32 0]),(b2,34,[.int .u32 ↑sa.toNat,.int .u32 ↑sb.toNat,.int .u32 ↑sc.toNat,.int .u32 ↑sd.toNat,.int .u32 ↑se.toNat,.int .u32 ↑sf.toNat,.int .u32 ↑sg.toNat,.int .u32 ↑sh.toNat])]∧hp=[]) rfl
          ⟨0,rfl,(by omega),rfl,rfl,rfl⟩ sB ?_
        rintro m_ env bx hp ⟨i,rfl,hi4,rfl,rfl,rfl⟩ ih
        by_cases hlt:i < 8
        · have hput:putL (mixL [x1,x2,x3,x4,x5,x6,x7,x8] [sa,sb,sc,sd,se,sf,sg,sh] i) (0+(i:Int).toNat * 1) [.int .u32 (IntKind.u32.wrap (((at32 [x1,x2,x3,x4,x5,x6,x7,x8] i).toNat:Int)+((at32 [sa,sb,sc,sd,se,sf,sg,sh] i).toNat:Int)))]=mixL [x1,x2,x3,x4,x5,x6,x7,x8] [sa,sb,sc,sd,se,sf,sg,sh] (i+1):=by
            rw [w_add,show 0+(i:Int).toNat * 1=i by omega]; exact mixL_put lX lS hlt
          have rX:∀ {bx:Bx}{hp:List Seg},nth bx 0=some (b8,34,mixL [x1,x2,x3,x4,x5,x6,x7,x8] [sa,sb,sc,sd,se,sf,sg,sh] i)→RdW ⟨w,kys [] []⟩ bx hp b8 (0+(i:Int).toNat * 1) [v32 (at32 [x1,x2,x3,x4,x5,x6,x7,x8] i)]:=fun {_ _} h=>RdW.blk1 h (by rw [show 0+(i:Int).toNat * 1=i by omega]; exact mixL_get lX lS hlt)
          have rS:∀ {bx:Bx}{hp:List Seg},nth bx 3=some (b2,34,[v32 sa,v32 sb,v32 sc,v32 sd,v32 se,v32 sf,v32 sg,v32 sh])→RdW ⟨w,kys [] []⟩ bx hp b2 (0+(i:Int).toNat * 1) [v32 (at32 [sa,sb,sc,sd,se,sf,sg,sh] i)]:=fun {_ _} h=>RdW.blk1 h (by rw [show 0+(i:Int).toNat * 1=i by omega]; exact w32s_get (l:=[sa,sb,sc,sd,se,sf,sg,sh]) (at32_get hlt))
          refine At.gw [true] [] rfl (by and_intros <;> first | exact decide_eq_true (by omega) | exact oK) ?_
          refine At.dr 9 ?_
          refine AtD.pu [0,3] 7 rfl oK ?_
          refine AtD.pu [1,4] 5 rfl oK ?_
          refine AtD.lxw [2,5,6,7] 1 [] [hR [v32 (at32 [x1,x2,x3,x4,x5,x6,x7,x8] i)],hR [v32 (at32 [sa,sb,sc,sd,se,sf,sg,sh] i)]] rfl (by and_intros <;> first | exact rX rfl | exact rS rfl | exact oK) ?_
          refine AtD.fork1 8 (by kernel_rfl) (StepD.by0 [] rfl rfl rfl trivial (OpOk.storeBlk 0 rfl rfl rfl rfl rfl rfl (by rw [mixL_len lX lS (by omega)]; simp; omega) ?_))
          rw [hput]
          refine AtD.dn ?_
          refine At.go [] [] rfl (by and_intros <;> first | exact trivial | exact oK) ?_
          exact At.weak (ih _ _ _ _ (by omega) ⟨i+1,rfl,by omega,rfl,rfl,rfl⟩) sB
        · obtain rfl:i=8:=by omega
          rw [mixL_all lX lS]
          refine At.go [false] [hB 0,hB 2] rfl (by and_intros <;> first | exact decide_eq_false (by omega) | exact fun u hu=>w32s_one (List.zipWith (·+·) [x1,x2,x3,x4,x5,x6,x7,x8] [sa,sb,sc,sd,se,sf,sg,sh]) u hu | exact oK) ?_
          refine At.rt [] [] [hB 2] Tryz.func169 ?_
          exact⟨rfl,rfl,rfl⟩
end Go.Proofs
namespace Go.Proofs
open Go Go.Eng
set_option maxRecDepth 100000
set_option maxHeartbeats 4000000
attribute [local irreducible] Tri
def Tryz.Sha (W:World):Prop:=SlOk W (some ⟨1,0,none⟩) (w32s K64)∧SlOk W (some ⟨0,0,none⟩) (w32s H0.l)
theorem Tryz.sha_ext {w w':World}(h:Tryz.Sha w) (he:Ext [] w w'):Tryz.Sha w':=⟨h.1.ext he (by simp),h.2.ext he (by simp)⟩
def svO (g:Option Nat) (o:Nat):Option Addr:=match g with
  | none => none
  | some g => some ⟨g,o,none⟩
theorem SlOk.take {w:World}{a:Option Addr}{xs:List Value}(n:Nat) (h:SlOk w a xs):SlOk w a (xs.take n):=by
  rcases h with h | ⟨g,o,rfl,h⟩
  · subst h; rw [List.take_nil]; exact SlOk.nil w a
  · refine .inr ⟨g,o,rfl,fun j u hu => h j u ?_⟩
    rw [List.getElem?_take] at hu
    split at hu
    · exact hu
    · cases hu
theorem SlOk.takeU {w:World}{a:Option Addr}{l:List UInt8}(n:Nat) (h:SlOk w a (u8s l)):SlOk w a (u8s (l.take n)):=by
  have:=SlOk.take n h
  rwa [show (u8s l).take n=u8s (l.take n) by simp [u8s]] at this
theorem SlOk.dropO {w:World}{g:Option Nat}{l:List UInt8}(i:Nat) (h:SlOk w (svA g) (u8s l)):SlOk w (svO g i) (u8s (l.drop i)):=by
  by_cases hi:i < l.length
  · obtain⟨b,o,hb,-⟩:=h.get (by intro e; have:=congrArg List.length e; rw [u8s_len] at this; simp only [List.length_nil] at this; omega)
    cases g with
    | none => cases hb
    | some q =>
      have:=SlOk.dropU i hi h
      rwa [Nat.zero_add] at this
  · rw [List.drop_of_length_le (by omega)]; exact SlOk.nil _ _
theorem Tryz.New_w (w:World) (hS:Tryz.Sha w):Tri Tryz.prog 143 [] w [] (fun v bx hp=>∃ b,v=.pointer (some ⟨b,0,none⟩)∧bx=[(b,212,w32s H0.l++[.slice none 0 0,.int .u64 0])]∧hp=[]):=by
  obtain⟨g,o,hg,hc⟩:=hS.2.get (by decide)
  cases hg
  have r:∀ {bx:Bx}{hp:List Seg},RdW ⟨w,kys [] []⟩ bx hp 0 0 [v32 H0.a,v32 H0.b,v32 H0.c,v32 H0.d,v32 H0.e,v32 H0.f,v32 H0.g,v32 H0.h]:=fun {_ _}=>RdW.base (by simp [kys]) hc
  refine Tri.enter (bx:=[]) (hp:=[]) Tryz.func143 rfl (by kernel_rfl) rfl (Own.nil w) ?_
  refine At.go [] [hR [.int .u32 ↑H0.a.toNat,.int .u32 ↑H0.b.toNat,.int .u32 ↑H0.c.toNat,.int .u32 ↑H0.d.toNat,.int .u32 ↑H0.e.toNat,.int .u32 ↑H0.f.toNat,.int .u32 ↑H0.g.toNat,.int .u32 ↑H0.h.toNat]] rfl (by and_intros <;> first | exact r | exact oK) ?_
  refine At.bo fun b3 hb3=>?_
  refine At.go [] [] rfl (by and_intros <;> first | exact r | exact oK) ?_
  refine At.rt [true] [] [] Tryz.func143 ?_
  exact⟨_,rfl,rfl,rfl⟩
theorem u8s_snoc (l:List UInt8) (x:UInt8):u8s l++[.int .u8 (x.toNat:Int)]=u8s (l++[x]):=by simp [u8s]
theorem svO_sl {w:World}{g:Option Nat}{a:Option Addr}{l:List UInt8}{i m:Nat}(h:SlOk w (svA g) (u8s l)) (hm:m=l.length - i) (ha:a=svO g i∨m=0):SlOk w a (u8s (l.drop i)):=by
  rcases ha with rfl | ha
  · exact SlOk.dropO i h
  · rw [List.drop_of_length_le (by omega)]; exact SlOk.nil _ _
theorem Tryz.Write_w (s:List UInt8) (b:Nat) (w:World) (hs:s.length≤1000000) (hne:b≠1) (hS:Tryz.Sha w) (hown:Own [(b,212,w32s H0.l++[.slice none 0 0,.int .u64 0])] [] w) :
    Tri Tryz.prog 144 [.pointer (some ⟨b,0,none⟩),str s] w [b] (fun v bx hp=>∃ (g:Option Nat) (c:Nat) (a:Option Addr) (m k:Nat),v=.tuple #[]∧m=s.length - 64 * (s.length / 64)∧(a=svO g (64 * (s.length / 64))∨m=0)∧bx=[(b,212,w32s (blkN K64 (s.length / 64) H0 s).l++[.slice a m k,.int .u64 (s.length:Int)])]∧hp=[Seg.row g 5 1 s.length c (u8s s)]):=by
  have hbl:(bl ⟨s.toArray⟩).length=s.length:=by rw [bl_of]
  refine Tri.enter Tryz.func144 rfl (by kernel_rfl) rfl hown ?_
  refine At.go [false] [hB 0,hB 0,hB 0] rfl (by and_intros <;> first | omega | exact oK) ?_
  refine At.nilRow 5 1 ?_
  refine At.step [] rfl rfl rfl rfl rfl trivial (OpOk.appendStr 0 rfl rfl rfl rfl rfl rfl rfl (by rw [bl_of]; omega) fun a2 c2=>?_)
  refine At.go [] [hB 0] rfl (by and_intros <;> first | exact trivial | exact oK) ?_
  rw [bl_of,Nat.zero_add s.length,List.nil_append,Int.zero_add]
  have hH0:(⟨H0.a,H0.b,H0.c,H0.d,H0.e,H0.f,H0.g,H0.h⟩:St8)=H0:=rfl
  generalize H0=H at hH0
  refine At.loop (env0:=[(0,.pointer (some ⟨b,0,none⟩))]) (fun m_ env bx hp => ∃ (i:Nat) (a:Option Addr) (m:Nat) (k:Nat) (x1:BitVec 32) (x2:BitVec 32) (x3:BitVec 32) (x4:BitVec 32) (x5:BitVec 32) (x6:BitVec 32) (x7:BitVec 32) (x8:BitVec 32),m_=s.length / 64 - i∧(i≤s.length / 64)∧(blkN K64 i H s=⟨x1,x2,x3,x4,x5,x6,x7,x8⟩)∧(m=s.length - 64 * i)∧(k=c2 - 64 * i)∧(a=svO a2 (64 * i)∨m=0)∧env=[(0,.pointer (some ⟨b,0,none⟩))]∧bx=[(b,212,[v32 x1,v32 x2,v32 x3,v32 x4,v32 x5,v32 x6,v32 x7,v32 x8,.slice a m k,.int .u64 (s.length:Int)])]∧hp=[Seg.row a2 5 1 s.length c2 (u8s s)]) rfl
    ⟨0,svO a2 0,s.length,c2,H.a,H.b,H.c,H.d,H.e,H.f,H.g,H.h,rfl,(by omega),(hH0.symm),(by omega),(by omega),(.inl rfl),rfl,rfl,rfl⟩ sB ?_
  rintro m_ env bx hp ⟨i,a,m,k,x1,x2,x3,x4,x5,x6,x7,x8,rfl,hi,hb,hm,hk,ha,rfl,rfl,rfl⟩ ih
  by_cases hlt:i < s.length / 64
  · refine At.rowSome 0 rfl (by omega) fun q hq=>?_
    subst hq
    refine At.rowCap 0 rfl fun hcap=>?_
    obtain rfl:a=some ⟨q,64 * i,none⟩:=by
      rcases ha with ha | ha
      · exact ha
      · omega
    obtain⟨y1,y2,y3,y4,y5,y6,y7,y8,hy⟩:∃ y1 y2 y3 y4 y5 y6 y7 y8,mixS K64 ⟨x1,x2,x3,x4,x5,x6,x7,x8⟩ ((s.drop (64 * i)).take 64)=⟨y1,y2,y3,y4,y5,y6,y7,y8⟩:=⟨_,_,_,_,_,_,_,_,rfl⟩
    have hb2:blkN K64 (i+1) H s=⟨y1,y2,y3,y4,y5,y6,y7,y8⟩:=by
      rw [blkN_add,hb]; exact hy
    have fM:∀ {bx:Bx}{hp:List Seg}(j:Nat),nth hp j=some (Seg.row (some q) 5 1 s.length c2 (u8s s))→CallOb Tryz.prog ⟨w,kys [(b,212,w32s H.l++[.slice none 0 0,.int .u64 0])] []⟩ bx hp 169 [.agg ⟨[v32 x1,v32 x2,v32 x3,v32 x4,v32 x5,v32 x6,v32 x7,v32 x8]⟩,.slice (some ⟨q,64 * i,none⟩) 64 k] (.agg ⟨[v32 y1,v32 y2,v32 y3,v32 y4,v32 y5,v32 y6,v32 y7,v32 y8]⟩):=fun {_ _} _ h w' hw'=>by
      have:=Tryz.mix_w x1 x2 x3 x4 x5 x6 x7 x8 ((s.drop (64 * i)).take 64) (some ⟨q,64 * i,none⟩) k w' (by rw [List.length_take,List.length_drop]; omega) (by omega) (SlOk.takeU 64 (SlOk.dropO (g:=some q) (64 * i) (SlOk.row (hw'.hp _ (nth_mem h))))) (hS.1.ext hw'.ext (by simpa [kys,slB] using Ne.symm hne))
      rwa [hy] at this
    by_cases hend:k=64
    · obtain rfl:m=64:=by omega
      subst hend
      refine At.go [true] [hB 0] rfl (by and_intros <;> first | exact fM 0 rfl | exact decide_eq_true (by omega) | omega | exact oK) ?_
      refine At.qT 13 1 [] [hB 0,hB 0,hC (.agg ⟨[.int .u32 ↑y1.toNat,.int .u32 ↑y2.toNat,.int .u32 ↑y3.toNat,.int .u32 ↑y4.toNat,.int .u32 ↑y5.toNat,.int .u32 ↑y6.toNat,.int .u32 ↑y7.toNat,.int .u32 ↑y8.toNat]⟩)] rfl rfl (by and_intros <;> first | exact fM 0 rfl | exact decide_eq_true (by omega) | omega | exact oK) ?_
      refine AtD.f1 13 [] [] [hB 0] rfl rfl rfl (by first | exact fM 0 rfl | exact decide_eq_true (by omega) | omega | exact oK) (by first | exact fM 0 rfl | exact decide_eq_true (by omega) | omega | exact oK) ?_
      refine AtD.dn ?_
      refine At.gn 1 [] [hB 0,hB 0] rfl (by and_intros <;> first | exact fM 0 rfl | exact decide_eq_true (by omega) | omega | exact oK) ?_
      refine At.go [] [] rfl oK ?_
      refine At.step [] rfl rfl rfl rfl rfl trivial (OpOk.one true [] [hB 0] rfl rfl ?_)
      refine At.step [] rfl rfl rfl rfl rfl trivial (OpOk.sliceEnd 64 rfl rfl rfl rfl rfl ?_)
      refine At.go [] [hB 0] rfl (by and_intros <;> first | exact trivial | exact oK) ?_
      exact At.weak (ih _ _ _ _ (by omega) ⟨i+1,some ⟨q,64 * i,none⟩,0,0,y1,y2,y3,y4,y5,y6,y7,y8,rfl,by omega,hb2,by omega,by omega,.inr rfl,rfl,rfl,rfl⟩) sB
    · refine At.go [true] [hB 0] rfl (by and_intros <;> first | exact fM 0 rfl | exact decide_eq_true (by omega) | omega | exact oK) ?_
      refine At.qT 13 1 [] [hB 0,hB 0,hC (.agg ⟨[.int .u32 ↑y1.toNat,.int .u32 ↑y2.toNat,.int .u32 ↑y3.toNat,.int .u32 ↑y4.toNat,.int .u32 ↑y5.toNat,.int .u32 ↑y6.toNat,.int .u32 ↑y7.toNat,.int .u32 ↑y8.toNat]⟩)] rfl rfl (by and_intros <;> first | exact fM 0 rfl | exact decide_eq_true (by omega) | omega | exact oK) ?_
      refine AtD.f1 13 [] [] [hB 0] rfl rfl rfl (by first | exact fM 0 rfl | exact decide_eq_true (by omega) | omega | exact oK) (by first | exact fM 0 rfl | exact decide_eq_true (by omega) | omega | exact oK) ?_
      refine AtD.dn ?_
      refine At.go [] [hB 0,hB 0] rfl (by and_intros <;> first | exact fM 0 rfl | exact decide_eq_true (by omega) | omega | exact oK) ?_
      exact At.weak (ih _ _ _ _ (by omega) ⟨i+1,some ⟨q,64 * i+64,none⟩,m - 64,k - 64,y1,y2,y3,y4,y5,y6,y7,y8,rfl,by omega,hb2,by omega,by omega,.inl rfl,rfl,rfl,rfl⟩) sB
  · obtain rfl:i=s.length / 64:=by omega
    refine At.go [false] [hB 0] rfl (by and_intros <;> first | exact decide_eq_false (by omega) | omega | exact oK) ?_
    rw [hb]
    refine At.rt [true] [true] [] Tryz.func144 ?_
    exact⟨a2,c2,a,m,k,rfl,hm,ha,rfl,rfl⟩
theorem Tryz.HSum_w (st:St8) (r:List UInt8) (a:Option Addr) (k n b:Nat) (w:World) (hr:r.length < 64) (hn:n≤1000000) (hnr:n % 64=r.length) (hS:Tryz.Sha w) (hb:SlOk w (some ⟨b,0,none⟩) (w32s st.l++[.slice a r.length k,.int .u64 (n:Int)])) (ha:SlOk w a (u8s r)) :
    Fun Tryz.prog 145 [.pointer (some ⟨b,0,none⟩)] w (str (outB (blkN K64 ((r++padB n).length / 64) st (r++padB n)))):=by
  obtain⟨g0,o0,hg,hc⟩:=hb.get (by simp)
  cases hg
  have r9:∀ {bx:Bx}{hp:List Seg},RdW ⟨w,kys [] []⟩ bx hp b 8 [.slice a r.length k]:=fun {_ _}=>RdW.base1 (by simp [kys]) (hc 8 _ rfl)
  have r10:∀ {bx:Bx}{hp:List Seg},RdW ⟨w,kys [] []⟩ bx hp b 9 [.int .u64 (n:Int)]:=fun {_ _}=>RdW.base1 (by simp [kys]) (hc 9 _ rfl)
  have r0:∀ {bx:Bx}{hp:List Seg},RdW ⟨w,kys [] []⟩ bx hp b 0 [v32 st.a,v32 st.b,v32 st.c,v32 st.d,v32 st.e,v32 st.f,v32 st.g,v32 st.h]:=fun {_ _}=>RdW.base (by simp [kys]) fun j u hu=>by
    refine hc j u ?_
    rw [List.getElem?_append_left (by have:=(List.getElem?_eq_some_iff.1 hu).1; simpa [w32s,St8.l] using this)]
    exact hu
  refine Tri.enter (bx:=[]) (hp:=[]) Tryz.func145 rfl (by kernel_rfl) rfl (Own.nil w) ?_
  refine At.go [false] [] rfl (by and_intros <;> first | exact r9 | exact oK) ?_
  refine At.step [] rfl rfl rfl rfl rfl trivial (OpOk.buildNil rfl rfl rfl fun g hg=>?_)
  refine At.go [] [hR [.slice a r.length k]] rfl (by and_intros <;> first | exact r9 | exact oK) ?_
  refine At.step [] rfl rfl rfl rfl rfl trivial (OpOk.appendS 0 1 1 (u8s r) rfl rfl rfl rfl rfl rfl rfl rfl (fun w' hw'=>ha.ext hw'.ext (by simp [kys])) (by rw [u8s_len]; omega) (u8s_one r) (by omega) (by omega) fun a2 c2=>?_)
  refine At.a1 0 1 1 fun b16 a17 c17=>?_
  refine At.go [] [] rfl (by and_intros <;> first | exact trivial | exact oK) ?_
  rw [List.nil_append,Nat.zero_add,show u8s r++[.int .u8 128]=u8s (r++[128]) by simp [u8s]]
  have hpz:padZ n=(119 - r.length) % 64:=by unfold padZ; rw [hnr]
  refine At.loop (env0:=[(0,.pointer (some ⟨b,0,none⟩)),(3,.slice (svA a17) (r.length+1) c17)]) (fun m_ env bx hp => ∃ (i:Nat) (T:List UInt8) (g:Option Nat) (c:Nat),m_=padZ n - i∧(i≤padZ n)∧(T=r++128 :: List.replicate i 0)∧env=[(0,.pointer (some ⟨b,0,none⟩)),(3,sv g (r.length+1+i) c)]∧bx=[]∧hp=[Seg.row g 5 1 (r.length+1+i) c (u8s T)]) rfl
    ⟨0,r++[128],a17,c17,rfl,(by omega),(rfl),rfl,rfl,rfl⟩ sB ?_
  rintro m_ env bx hp ⟨i,T,g,c,rfl,hi,hT,rfl,rfl,rfl⟩ ih
  by_cases hlt:i < padZ n
  · refine At.go [true] [] rfl (by and_intros <;> first | exact decide_eq_true (by omega) | (rw [Int.tmod_eq_emod_of_nonneg (by omega)]; exact decide_eq_true (by omega)) | exact oK) ?_
    refine At.a1 0 1 1 fun b23 a24 c24=>?_
    refine At.go [] [] rfl (by and_intros <;> first | exact decide_eq_true (by omega) | (rw [Int.tmod_eq_emod_of_nonneg (by omega)]; exact decide_eq_true (by omega)) | exact oK) ?_
    rw [show u8s T++[.int .u8 0]=u8s (T++[0]) from u8s_snoc T 0]
    exact At.weak (ih _ _ _ _ (by omega) ⟨i+1,T++[0],a24,c24,rfl,by omega,by rw [hT,List.replicate_succ']; simp,rfl,rfl,rfl⟩) sB
  · obtain rfl:i=padZ n:=by omega
    refine At.go [false] [hR [.int .u64 ↑n]] rfl (by and_intros <;> first | exact decide_eq_false (by omega) | (rw [Int.tmod_eq_emod_of_nonneg (by omega)]; exact decide_eq_false (by omega)) | exact r10 | exact oK) ?_
    have hTl:T.length=r.length+1+padZ n:=by rw [hT]; simp; omega
    rw [← hTl,show (8:Int) * (n:Int)=((8 * n:Nat):Int) by omega]
    refine At.step [] rfl rfl rfl rfl rfl trivial (OpOk.callO [] [true] rfl rfl (fun w' hw' ho=>Tryz.put2_w T g c (8 * n) 8 w' (by omega) (by omega) (by omega) ho) ?_)
    rintro _ _ _ ⟨g3,c3,rfl,rfl,rfl⟩
    have hM:T++beB (8 * n) 8=r++padB n:=by
      rw [hT]; unfold padB; rw [Nat.mod_eq_of_lt (by omega)]; simp
    have hMl:=padB_len n
    have hMl2:(r++padB n).length=r.length+(padB n).length:=List.length_append
    rw [hM]
    generalize r++padB n=M at hM hMl2
    have hM64:M.length % 64=0:=by omega
    refine At.go [] [hR [.int .u32 ↑st.a.toNat,.int .u32 ↑st.b.toNat,.int .u32 ↑st.c.toNat,.int .u32 ↑st.d.toNat,.int .u32 ↑st.e.toNat,.int .u32 ↑st.f.toNat,.int .u32 ↑st.g.toNat,.int .u32 ↑st.h.toNat]] rfl (by and_intros <;> first | exact r0 | exact oK) ?_
    refine At.al fun b4 hb4=>?_
    refine At.go [] [hB 0] rfl (by and_intros <;> first | exact r0 | exact oK) ?_
    have hst:(⟨st.a,st.b,st.c,st.d,st.e,st.f,st.g,st.h⟩:St8)=st:=rfl
    refine At.loop (env0:=[(3,.slice (svA g3) M.length c3),(4,.pointer (some ⟨b4,0,none⟩))]) (fun m_ env bx hp => ∃ (i:Nat) (a:Option Addr) (m:Nat) (k:Nat) (x1:BitVec 32) (x2:BitVec 32) (x3:BitVec 32) (x4:BitVec 32) (x5:BitVec 32) (x6:BitVec 32) (x7:BitVec 32) (x8:BitVec 32),m_=M.length / 64 - i∧(i≤M.length / 64)∧(blkN K64 i st M=⟨x1,x2,x3,x4,x5,x6,x7,x8⟩)∧(m=M.length - 64 * i)∧(k=c3 - 64 * i)∧(a=svO g3 (64 * i)∨m=0)∧env=[(3,.slice a m k),(4,.pointer (some ⟨b4,0,none⟩))]∧bx=[(b4,34,[v32 x1,v32 x2,v32 x3,v32 x4,v32 x5,v32 x6,v32 x7,v32 x8])]∧hp=[Seg.row g3 5 1 M.length c3 (u8s M)]) rfl
      ⟨0,svO g3 0,M.length,c3,st.a,st.b,st.c,st.d,st.e,st.f,st.g,st.h,rfl,(by omega),(hst.symm),(by omega),(by omega),(.inl rfl),rfl,rfl,rfl⟩ sB ?_
    rintro m_ env bx hp ⟨i,a,m,k,x1,x2,x3,x4,x5,x6,x7,x8,rfl,hi2,hb2,hm,hk,ha2,rfl,rfl,rfl⟩ ih
    by_cases hlt2:i < M.length / 64
    · refine At.rowSome 0 rfl (by omega) fun q hq=>?_
      subst hq
      refine At.rowCap 0 rfl fun hcap=>?_
      obtain rfl:a=some ⟨q,64 * i,none⟩:=by
        rcases ha2 with ha2 | ha2
        · exact ha2
        · omega
      obtain⟨y1,y2,y3,y4,y5,y6,y7,y8,hy⟩:∃ y1 y2 y3 y4 y5 y6 y7 y8,mixS K64 ⟨x1,x2,x3,x4,x5,x6,x7,x8⟩ ((M.drop (64 * i)).take 64)=⟨y1,y2,y3,y4,y5,y6,y7,y8⟩:=⟨_,_,_,_,_,_,_,_,rfl⟩
      have hb3:blkN K64 (i+1) st M=⟨y1,y2,y3,y4,y5,y6,y7,y8⟩:=by
        rw [blkN_add,hb2]; exact hy
      have fM:∀ {bx:Bx}{hp:List Seg}(j:Nat),nth hp j=some (Seg.row (some q) 5 1 M.length c3 (u8s M))→CallOb Tryz.prog ⟨w,kys [] []⟩ bx hp 169 [.agg ⟨[v32 x1,v32 x2,v32 x3,v32 x4,v32 x5,v32 x6,v32 x7,v32 x8]⟩,.slice (some ⟨q,64 * i,none⟩) 64 k] (.agg ⟨[v32 y1,v32 y2,v32 y3,v32 y4,v32 y5,v32 y6,v32 y7,v32 y8]⟩):=fun {_ _} _ h w' hw'=>by
        have:=Tryz.mix_w x1 x2 x3 x4 x5 x6 x7 x8 ((M.drop (64 * i)).take 64) (some ⟨q,64 * i,none⟩) k w' (by rw [List.length_take,List.length_drop]; omega) (by omega) (SlOk.takeU 64 (SlOk.dropO (g:=some q) (64 * i) (SlOk.row (hw'.hp _ (nth_mem h))))) (hS.1.ext hw'.ext (by simp [kys]))
        rwa [hy] at this
      by_cases hend:k=64
      · obtain rfl:m=64:=by omega
        subst hend
        refine At.go [true] [] rfl (by and_intros <;> first | exact fM 0 rfl | exact decide_eq_true (by omega) | omega | exact oK) ?_
        refine At.qT 4 1 [] [hB 0,hC (.agg ⟨[.int .u32 ↑y1.toNat,.int .u32 ↑y2.toNat,.int .u32 ↑y3.toNat,.int .u32 ↑y4.toNat,.int .u32 ↑y5.toNat,.int .u32 ↑y6.toNat,.int .u32 ↑y7.toNat,.int .u32 ↑y8.toNat]⟩)] rfl rfl (by and_intros <;> first | exact fM 0 rfl | exact decide_eq_true (by omega) | omega | exact oK) ?_
        refine AtD.f1 4 [] [] [hB 0] rfl rfl rfl (by first | exact fM 0 rfl | exact decide_eq_true (by omega) | omega | exact oK) (by first | exact fM 0 rfl | exact decide_eq_true (by omega) | omega | exact oK) ?_
        refine AtD.dn ?_
        refine At.gn 2 [] [] rfl (by and_intros <;> first | exact fM 0 rfl | exact decide_eq_true (by omega) | omega | exact oK) ?_
        refine At.gn 1 [] [] rfl oK ?_
        refine At.step [] rfl rfl rfl rfl rfl trivial (OpOk.one true [] [] rfl trivial ?_)
        refine At.step [] rfl rfl rfl rfl rfl trivial (OpOk.sliceEnd 64 rfl rfl rfl rfl rfl ?_)
        refine At.go [] [] rfl (by and_intros <;> first | exact trivial | exact oK) ?_
        exact At.weak (ih _ _ _ _ (by omega) ⟨i+1,some ⟨q,64 * i,none⟩,0,0,y1,y2,y3,y4,y5,y6,y7,y8,rfl,by omega,hb3,by omega,by omega,.inr rfl,rfl,rfl,rfl⟩) sB
      · refine At.go [true] [] rfl (by and_intros <;> first | exact fM 0 rfl | exact decide_eq_true (by omega) | omega | exact oK) ?_
        refine At.qT 4 1 [] [hB 0,hC (.agg ⟨[.int .u32 ↑y1.toNat,.int .u32 ↑y2.toNat,.int .u32 ↑y3.toNat,.int .u32 ↑y4.toNat,.int .u32 ↑y5.toNat,.int .u32 ↑y6.toNat,.int .u32 ↑y7.toNat,.int .u32 ↑y8.toNat]⟩)] rfl rfl (by and_intros <;> first | exact fM 0 rfl | exact decide_eq_true (by omega) | omega | exact oK) ?_
        refine AtD.f1 4 [] [] [hB 0] rfl rfl rfl (by first | exact fM 0 rfl | exact decide_eq_true (by omega) | omega | exact oK) (by first | exact fM 0 rfl | exact decide_eq_true (by omega) | omega | exact oK) ?_
        refine AtD.dn ?_
        refine At.go [] [] rfl (by and_intros <;> first | exact fM 0 rfl | exact decide_eq_true (by omega) | omega | exact oK) ?_
        exact At.weak (ih _ _ _ _ (by omega) ⟨i+1,some ⟨q,64 * i+64,none⟩,m - 64,k - 64,y1,y2,y3,y4,y5,y6,y7,y8,rfl,by omega,hb3,by omega,by omega,.inl rfl,rfl,rfl,rfl⟩) sB
    · obtain rfl:i=M.length / 64:=by omega
      refine At.go [false] [hB 0] rfl (by and_intros <;> first | exact decide_eq_false (by omega) | omega | exact oK) ?_
      refine At.nilRow 5 1 ?_
      have hl:([x1,x2,x3,x4,x5,x6,x7,x8]:List (BitVec 32)).length=8:=rfl
      refine At.loop (env0:=[(5,.slice none 0 0),(45,.agg ⟨[.int .u32 ↑x1.toNat,.int .u32 ↑x2.toNat,.int .u32 ↑x3.toNat,.int .u32 ↑x4.toNat,.int .u32 ↑x5.toNat,.int .u32 ↑x6.toNat,.int .u32 ↑x7.toNat,.int .u32 ↑x8.toNat]⟩),(46,.int .i64 0)]) (fun m_ env bx hp => ∃ (i:Nat) (O:List UInt8) (g:Option Nat) (c:Nat),m_=8 - i∧(i≤8)∧(O=([x1,x2,x3,x4,x5,x6,x7,x8].take i).flatMap fun x => beB x.toNat 4)∧(O.length=4 * i)∧env=[(5,sv g O.length c),(45,.agg ⟨[.int .u32 ↑x1.toNat,.int .u32 ↑x2.toNat,.int .u32 ↑x3.toNat,.int .u32 ↑x4.toNat,.int .u32 ↑x5.toNat,.int .u32 ↑x6.toNat,.int .u32 ↑x7.toNat,.int .u32 ↑x8.toNat]⟩),(46,.int .i64 i)]∧bx=[(b4,34,[.int .u32 ↑x1.toNat,.int .u32 ↑x2.toNat,.int .u32 ↑x3.toNat,.int .u32 ↑x4.toNat,.int .u32 ↑x5.toNat,.int .u32 ↑x6.toNat,.int .u32 ↑x7.toNat,.int .u32 ↑x8.toNat])]∧hp=[Seg.row g 5 1 O.length c (u8s O),Seg.row g3 5 1 M.length c3 (u8s M)]) rfl
        ⟨0,[],none,0,rfl,(by omega),(rfl),(rfl),rfl,rfl,rfl⟩ sB ?_
      rintro m_ env bx hp ⟨i,O,g,c,rfl,hi3,hO,hOl,rfl,rfl,rfl⟩ ih
      by_cases hlt3:i < 8
      · have hx:=at32_get (show i < ([x1,x2,x3,x4,x5,x6,x7,x8]:List (BitVec 32)).length by rw [hl]; exact hlt3)
        refine At.go [true] [] rfl (by and_intros <;> first | exact decide_eq_true (by omega) | exact oK) ?_
        have hv:pPart Tryz.prog 32 [v32 x1,v32 x2,v32 x3,v32 x4,v32 x5,v32 x6,v32 x7,v32 x8] (i * 1)=some (v32 (at32 [x1,x2,x3,x4,x5,x6,x7,x8] i)):=by
          rw [Nat.mul_one]; unfold pPart
          rw [show aggT Tryz.prog 32=some false by rfl]
          simp only [nth_eq]
          exact w32s_get (l:=[x1,x2,x3,x4,x5,x6,x7,x8]) hx
        refine At.step [] rfl rfl rfl rfl rfl trivial (OpOk.indexArr i rfl rfl rfl rfl rfl hlt3 hv ?_)
        refine At.go [] [] rfl (by and_intros <;> first | exact trivial | exact oK) ?_
        refine At.step [] rfl rfl rfl rfl rfl trivial (OpOk.callO [false] [true,false] rfl rfl (fun w' hw' ho=>Tryz.put2_w O g c (at32 [x1,x2,x3,x4,x5,x6,x7,x8] i).toNat 4 w' (by have:=(at32 [x1,x2,x3,x4,x5,x6,x7,x8] i).isLt; omega) (by omega) (by omega) ho) ?_)
        rintro _ _ _ ⟨g5,c5,rfl,rfl,rfl⟩
        refine At.go [] [] rfl (by and_intros <;> first | exact trivial | exact oK) ?_
        exact At.weak (ih _ _ _ _ (by omega) ⟨i+1,O++beB (at32 [x1,x2,x3,x4,x5,x6,x7,x8] i).toNat 4,g5,c5,rfl,by omega,by rw [List.take_add_one,hx,List.flatMap_append,hO]; simp,by rw [List.length_append,beB_len]; omega,rfl,rfl,rfl⟩) sB
      · obtain rfl:i=8:=by omega
        refine At.go [false] [] rfl (by and_intros <;> first | exact decide_eq_false (by omega) | exact oK) ?_
        refine At.step [] rfl rfl rfl rfl rfl trivial (OpOk.toStr 0 (l:=O) rfl rfl rfl rfl rfl rfl ?_)
        rw [hb2]
        refine At.go [] [] rfl (by and_intros <;> first | exact trivial | exact oK) ?_
        refine At.rt [false] [false,false] [] Tryz.func145 ?_
        exact⟨by rw [hO]; rfl,rfl,rfl⟩
theorem Tryz.Sum_w (s:List UInt8) (w:World) (hs:s.length≤1000000) (hS:Tryz.Sha w):Fun Tryz.prog 128 [str s] w (str (shaH s)):=by
  obtain⟨gk,ok,hgk,hck⟩:=hS.1.get (by decide)
  cases hgk
  have hlt:1 < w.heap.size:=by
    have:=hck 0 _ rfl
    rw [World.cell?] at this
    exact Classical.byContradiction fun h=>by simp [Array.getElem?_eq_none (show w.heap.size≤1 by omega)] at this
  refine Tri.enter (bx:=[]) (hp:=[]) Tryz.func128 rfl (by kernel_rfl) rfl (Own.nil w) ?_
  refine At.go [] [] rfl (by and_intros <;> first | exact trivial | exact oK) ?_
  refine At.step [] rfl rfl rfl rfl rfl trivial (OpOk.call rfl (fun w' hw'=>Tryz.New_w w' (Tryz.sha_ext hS hw'.ext)) ?_)
  rintro _ _ _ ⟨b,rfl,rfl,rfl⟩
  have hne:∀ {bx:Bx}{hp:List Seg}{cs:List Value}{w':World},WOk ⟨w,kys [] []⟩ ((b,212,cs) :: bx) hp w'→b≠1:=fun {_ _ _ _} hw'=>by
    rcases hw'.own b (by simp [kys]) with h | h
    · simp [kys] at h
    · have:w.heap.size≤b:=h
      omega
  refine At.go [] [] rfl (by and_intros <;> first | exact trivial | exact oK) ?_
  refine At.step [] rfl rfl rfl rfl rfl trivial (OpOk.callO [true] [] rfl rfl (fun w' hw' ho=>Tryz.Write_w s b w' hs (hne hw') (Tryz.sha_ext hS hw'.ext) ho) ?_)
  rintro _ _ _ ⟨g,c,a,m,k,rfl,hm,ha,rfl,rfl⟩
  have hdl:(s.drop (64 * (s.length / 64))).length=m:=by rw [List.length_drop]; omega
  have fS:∀ {bx:Bx}{hp:List Seg},nth bx 0=some (b,212,w32s (blkN K64 (s.length / 64) H0 s).l++[.slice a m k,.int .u64 (s.length:Int)])→nth hp 0=some (Seg.row g 5 1 s.length c (u8s s))→CallOb Tryz.prog ⟨w,kys [] []⟩ bx hp 145 [.pointer (some ⟨b,0,none⟩)] (str (shaH s)):=fun {_ _} h1 h2 w' hw'=>by
    have:=Tryz.HSum_w (blkN K64 (s.length / 64) H0 s) (s.drop (64 * (s.length / 64))) a k s.length b w' (by omega) hs (by omega) (Tryz.sha_ext hS hw'.ext) (by rw [hdl]; exact SlOk.blk (hw'.bx _ (nth_mem h1))) (svO_sl (SlOk.row (hw'.hp _ (nth_mem h2))) hm ha)
    unfold shaH; rwa [← shaB_two] at this
  refine At.go [] [hC (.string { data:=(shaH s).toArray })] rfl (by and_intros <;> first | exact fS rfl rfl | exact oK) ?_
  refine At.rt [false] [false] [] Tryz.func128 ?_
  exact⟨rfl,rfl,rfl⟩
theorem Tryz.Cut_w (s:List UInt8) (n:Nat) (w:World) (hs:s.length≤1000000) (h1:1≤n) (h32:n≤32) (hS:Tryz.Sha w):Fun Tryz.prog 101 [str s,.int .i64 n] w (.tuple #[str (cutH n s),.int .i64 0]):=by
  have fS:∀ {bx:Bx}{hp:List Seg},CallOb Tryz.prog ⟨w,kys [] []⟩ bx hp 128 [str s] (str (shaH s)):=fun {_ _} w' hw'=>Tryz.Sum_w s w' hs (Tryz.sha_ext hS hw'.ext)
  have hl:=shaH_len s
  refine Tri.enter (bx:=[]) (hp:=[]) Tryz.func101 rfl (by kernel_rfl) rfl (Own.nil w) ?_
  refine At.go [false,false] [hC (.string { data:=(shaH s).toArray })] rfl (by and_intros <;> first | exact fS | exact decide_eq_false (by omega) | (rw [bl_of]; omega) | exact oK) ?_
  refine At.rt [] [] [] Tryz.func101 ?_
  exact⟨by simp only [bl_of]; rfl,rfl,rfl⟩
end Go.Proofs

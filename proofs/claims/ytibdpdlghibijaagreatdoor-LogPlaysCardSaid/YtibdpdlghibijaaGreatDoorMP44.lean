/-
  Walks of layer 9: names.
-/
import Derived.Test.YtibdpdlghibijaaGreatDoorMP7
import Derived.Test.YtibdpdlghibijaaGreatDoorMP18
import Derived.Laws.RangeAny
import Derived.Laws.RangeString
import Derived.Test.YtibdpdlghibijaaGreatDoorMP12
import Derived.Test.YtibdpdlghibijaaGreatDoorMP2
import Derived.Test.YtibdpdlghibijaaGreatDoorMP5
namespace Go.Proofs
open Go Go.Eng
set_option maxRecDepth 100000
set_option maxHeartbeats 4000000
attribute [local irreducible] Tri
def okR (c:Nat):Bool:=decide (48≤c∧c≤57∨97≤c∧c≤122)
def namedB (s:List UInt8):Bool:=Nat.ble 1 s.length && Nat.ble s.length 16 && s.all fun b=>okR b.toNat
theorem Tryz.named1_w (c:Nat) (w:World) (hc:c≤2147483647):Fun Tryz.prog 115 [.int .i32 c] w (.bool (!okR c)):=by
  refine Tri.enter (bx:=[]) (hp:=[]) Tryz.func115 rfl (by kernel_rfl) rfl (Own.nil w) ?_
  by_cases h1:c < 48
  · by_cases h2:c < 97
    · refine At.run 100 true [true,true,true] [] rfl oK ?_
      refine At.retK [] [] [] rfl rfl Tryz.func115 rfl trivial ⟨?_,rfl,rfl⟩
      have:okR c=false:=decide_eq_false (by omega)
      rw [this]; simp [tupV] <;> omega
    · omega
  · by_cases h2:57 < c
    · by_cases h3:c < 97
      · refine At.run 100 true [false,true,true] [] rfl oK ?_
        refine At.retK [] [] [] rfl rfl Tryz.func115 rfl trivial ⟨?_,rfl,rfl⟩
        have:okR c=false:=decide_eq_false (by omega)
        rw [this]; simp [tupV] <;> omega
      · refine At.run 100 true [false,true,false] [] rfl oK ?_
        refine At.retK [] [] [] rfl rfl Tryz.func115 rfl trivial ⟨?_,rfl,rfl⟩
        by_cases h4:122 < c
        · have:okR c=false:=decide_eq_false (by omega)
          rw [this]; simp [tupV] <;> omega
        · have:okR c=true:=decide_eq_true (by omega)
          rw [this]; simp [tupV] <;> omega
    · refine At.run 100 true [false,false] [] rfl oK ?_
      refine At.retK [] [] [] rfl rfl Tryz.func115 rfl trivial ⟨?_,rfl,rfl⟩
      have:okR c=true:=decide_eq_true (by omega)
      rw [this]; simp [tupV] <;> omega
theorem Tryz.indexFunc_w (s:List UInt8) (w:World) (hs:s.length≤9223372036854775807) :
    Tri Tryz.prog 149 [str s,.func (.func 115) ⟨[]⟩ ⟨[]⟩,.bool true] w [] (fun v bx hp=>∃ k:Int,v=.int .i64 k∧(k < 0↔(s.all fun b=>okR b.toNat)=true)∧-1≤k∧k≤9223372036854775807∧bx=[]∧hp=[]):=by
  refine Tri.enter (bx:=[]) (hp:=[]) Tryz.func149 rfl (by kernel_rfl) rfl (Own.nil w) ?_
  refine At.run 100 true [] [] rfl oK ?_
  refine At.step [] rfl rfl rfl rfl rfl trivial (OpOk.rangeStr (s:=⟨s.toArray⟩) rfl rfl Tryz.strT fun r=>?_)
  refine At.run 100 true [] [] rfl oK ?_
  have hsz:(⟨s.toArray⟩:ByteArray).size=s.length:=by simp [ByteArray.size]
  refine At.loop (n:=s.length) (env0:=[(1,.func (.func 115) ⟨[]⟩ ⟨[]⟩),(2,.bool true),(10,.pointer (some ⟨r,0,none⟩))]) (fun m env bx hp => ∃ pos:Nat,m=s.length - pos∧pos≤s.length∧((s.take pos).all fun b => okR b.toNat)=true ∧
    env=[(1,.func (.func 115) ⟨[]⟩ ⟨[]⟩),(2,.bool true),(10,.pointer (some ⟨r,0,none⟩))]∧bx=[]∧hp=[Seg.obj r (.stringIter ⟨s.toArray⟩ pos)]) rfl ⟨0,by simp,by omega,by simp,rfl,rfl,rfl⟩ ⟨rfl,rfl,rfl,trivial⟩ ?_
  rintro m env bx hp ⟨pos,rfl,hpos,hall,rfl,rfl,rfl⟩ ih
  refine At.run 100 true [] [] rfl trivial ?_
  refine At.step [] rfl rfl rfl rfl rfl trivial (OpOk.nextStr 0 rfl rfl rfl (fun hd=>?_) (fun hlt c width hdec=>?_))
  · rw [hsz] at hd
    have:pos=s.length:=by omega
    subst this
    rw [List.take_length] at hall
    refine At.run 100 true [false] [] rfl oK ?_
    exact At.retK [] [] [] rfl rfl Tryz.func149 rfl trivial ⟨-1,rfl,by simp only [hall]; simp,by omega,by omega,rfl,rfl⟩
  · have hlt':pos < s.length:=by rw [hsz] at hlt; exact hlt
    obtain⟨x,hx⟩:∃ x,s[pos]?=some x:=⟨_,List.getElem?_eq_getElem hlt'⟩
    have hxe:(⟨s.toArray⟩:ByteArray)[pos]'hlt=x:=by
      have:=(List.getElem?_eq_some_iff.1 hx).2
      rw [← this]; rfl
    have hcm:c≤2147483647:=by have:=decode_le ⟨s.toArray⟩ pos; rw [hdec] at this; exact this
    have hcall:∀ {bx:Bx}{hp:List Seg},CallOb Tryz.prog ⟨w,kys [] []⟩ bx hp 115 [.int .i32 c] (.bool (!okR c)):=fun {_ _} w' hw'=>Tryz.named1_w c w' hcm
    have hbad:okR c=false→okR x.toNat=false:=by
      intro h
      rcases Nat.lt_or_ge x.toNat 128 with h8 | h8
      · have:=decode_ascii ⟨s.toArray⟩ pos hlt (by rw [hxe]; exact h8)
        rw [hdec,hxe] at this
        simp only [Prod.mk.injEq] at this
        rw [← this.1]; exact h
      · exact decide_eq_false (by omega)
    cases hok:okR c with
    | false =>
      rw [hok] at hcall
      refine At.run 100 true [true,true] [hC (.bool true)] rfl (by and_intros <;> first | exact hcall | exact oK) ?_
      refine At.keep [] [] (by simp only [forceL_eq]; exact Prod.ext rfl (selL_no _)) ?_
      refine At.retK [] [] [] rfl rfl Tryz.func149 rfl trivial ⟨pos,rfl,?_,by omega,by omega,rfl,rfl⟩
      constructor
      · intro h; omega
      · intro h
        have:=List.all_eq_true.1 h x (List.mem_of_getElem? hx)
        rw [hbad hok] at this; cases this
    | true =>
      have h8:x.toNat < 128:=by
        rcases Nat.lt_or_ge x.toNat 128 with h8 | h8
        · exact h8
        · have:=(decode_high ⟨s.toArray⟩ pos hlt (by rw [hxe]; exact h8)).1
          rw [hdec] at this
          have:=of_decide_eq_true hok; omega
      have hda:=decode_ascii ⟨s.toArray⟩ pos hlt (by rw [hxe]; exact h8)
      rw [hdec,hxe] at hda
      simp only [Prod.mk.injEq] at hda
      obtain⟨rfl,rfl⟩:=hda
      rw [hok] at hcall
      refine At.run 100 true [true,false] [hC (.bool false)] rfl (by and_intros <;> first | exact hcall | exact oK) ?_
      refine At.weak (ih _ _ _ _ (by omega) ⟨pos+1,rfl,by omega,?_,rfl,rfl,rfl⟩) ⟨rfl,rfl,rfl,trivial⟩
      rw [List.take_add_one,hx,List.all_append,hall]
      simp [hok]
theorem Tryz.containsFunc_w (s:List UInt8) (w:World) (hs:s.length≤9223372036854775807) :
    Fun Tryz.prog 116 [str s,.func (.func 115) ⟨[]⟩ ⟨[]⟩] w (.bool (!(s.all fun b=>okR b.toNat))):=by
  have hI:∀ w,Tri Tryz.prog 134 [str s,.func (.func 115) ⟨[]⟩ ⟨[]⟩] w [] (fun v bx hp=>∃ k:Int,v=.int .i64 k∧(k < 0↔(s.all fun b=>okR b.toNat)=true)∧-1≤k∧k≤9223372036854775807∧bx=[]∧hp=[]):=by
    intro w
    refine Tri.enter (bx:=[]) (hp:=[]) Tryz.func134 rfl (by kernel_rfl) rfl (Own.nil w) ?_
    refine At.run 100 true [] [] rfl oK ?_
    refine At.step [] rfl rfl rfl rfl rfl trivial (OpOk.call rfl (fun w' hw'=>Tryz.indexFunc_w s w' hs) ?_)
    rintro v bx' hp' ⟨k,rfl,hk,h1,h2,rfl,rfl⟩
    refine At.run 100 true [] [] rfl oK ?_
    exact At.retK [] [] [] rfl rfl Tryz.func134 rfl trivial ⟨k,rfl,hk,h1,h2,rfl,rfl⟩
  refine Tri.enter (bx:=[]) (hp:=[]) Tryz.func116 rfl (by kernel_rfl) rfl (Own.nil w) ?_
  refine At.run 100 true [] [] rfl oK ?_
  refine At.step [] rfl rfl rfl rfl rfl trivial (OpOk.call rfl (fun w' hw'=>hI w') ?_)
  rintro v bx' hp' ⟨k,rfl,hk,h1,h2,rfl,rfl⟩
  refine At.run 100 true [] [] rfl oK ?_
  refine At.retK [] [] [] rfl rfl Tryz.func116 rfl trivial ⟨?_,rfl,rfl⟩
  cases ha:s.all fun b=>okR b.toNat with
  | true => have:=hk.2 ha; simp [tupV]; omega
  | false =>
    have:¬ k < 0:=fun h=>by have:=hk.1 h; rw [ha] at this; cases this
    simp [tupV]; omega
theorem Tryz.dkNamed_w (s:List UInt8) (w:World) (hs:s.length≤9223372036854775807):Fun Tryz.prog 85 [str s] w (.bool (namedB s)):=by
  refine Tri.enter (bx:=[]) (hp:=[]) Tryz.func85 rfl (by kernel_rfl) rfl (Own.nil w) ?_
  have hsz:(bl ⟨s.toArray⟩).length=s.length:=by rw [bl_of]
  by_cases h1:s.length < 1
  · refine At.run 100 true [true,true] [] rfl oK ?_
    have:namedB s=false:=by simp [namedB]; omega
    exact At.retK [] [] [] rfl rfl Tryz.func85 rfl trivial ⟨by rw [this]; rfl,rfl,rfl⟩
  · by_cases h2:16 < s.length
    · refine At.run 100 true [false,true] [] rfl oK ?_
      have:namedB s=false:=by simp [namedB]; omega
      exact At.retK [] [] [] rfl rfl Tryz.func85 rfl trivial ⟨by rw [this]; rfl,rfl,rfl⟩
    · have hC1:∀ {bx:Bx}{hp:List Seg},CallOb Tryz.prog ⟨w,kys [] []⟩ bx hp 116 [str s,.func (.func 115) ⟨[]⟩ ⟨[]⟩] (.bool (!(s.all fun b => okR b.toNat))):=fun {_ _} w' hw' => Tryz.containsFunc_w s w' hs
      refine At.run 100 true [false,false] [hC (.bool (!(s.all fun b=>okR b.toNat)))] rfl (by and_intros <;> first | exact hC1 | exact oK) ?_
      refine At.retK [] [] [] rfl rfl Tryz.func85 rfl trivial ⟨?_,rfl,rfl⟩
      have h3:Nat.ble 1 s.length=true:=by simp; omega
      have h4:Nat.ble s.length 16=true:=by simp; omega
      simp only [namedB,h3,h4,tupV,Bool.not_not,Bool.true_and]
def dkV (room:Nat) (bs:Nat) (kv pv:Value):List Value:=[.int .i64 room,.map (some bs),kv,pv]
theorem Tryz.Room_w (d room bs:Nat) (kv pv:Value) (FS:List FileE) (w:World) (hb:w.heap[d]?=some (.cells (dkV room bs kv pv).toArray 93 (0,0))) (hF:FilesOk w 5 bs FS) (hr:room≤4611686018427387904) (hu:usedF FS≤4611686018427387904) :
    Fun Tryz.prog 45 [.pointer (some ⟨d,0,none⟩)] w (.int .i64 ((room:Int) - (usedF FS:Int))):=by
  refine Tri.enter (bx:=[]) (hp:=[]) Tryz.func45 rfl (by kernel_rfl) rfl (Own.nil w) ?_
  have rd0:∀ {bx:Bx}{hp:List Seg},RdW ⟨w,kys [] []⟩ bx hp d 0 [.int .i64 room]:=fun {_ _}=>RdW.blkB1 (by simp [kys]) hb rfl
  have rd1:∀ {bx:Bx}{hp:List Seg},RdW ⟨w,kys [] []⟩ bx hp d 1 [.map (some bs)]:=fun {_ _}=>RdW.blkB1 (by simp [kys]) hb rfl
  have rd2:∀ {bx:Bx}{hp:List Seg},RdW ⟨w,kys [] []⟩ bx hp d 2 [kv]:=fun {_ _}=>RdW.blkB1 (by simp [kys]) hb rfl
  have rd3:∀ {bx:Bx}{hp:List Seg},RdW ⟨w,kys [] []⟩ bx hp d 3 [pv]:=fun {_ _}=>RdW.blkB1 (by simp [kys]) hb rfl
  have hU:∀ {bx:Bx}{hp:List Seg},CallOb Tryz.prog ⟨w,kys [] []⟩ bx hp 86 [.map (some bs)] (.int .i64 (usedF FS)):=fun {_ _} w' hw'=>Tryz.used_w bs FS w' (hF.ext hw'.ext (by simp [kys])) (by omega)
  refine At.run 100 true [false] [] rfl oK ?_
  refine At.quiet true [] [hR [.int .i64 room],hR [.map (some bs)],hC (.int .i64 (usedF FS))] ⟨by kernel_rfl,by kernel_rfl,rfl,rfl,rfl⟩ rfl rfl rfl (by and_intros <;> first | exact rd0 | exact rd1 | exact hU | exact oK) ?_
  refine At.run 100 true [] [] rfl oK ?_
  exact At.retK [] [] [] rfl rfl Tryz.func45 rfl trivial ⟨rfl,rfl,rfl⟩
theorem Tryz.Used_w (d room bs:Nat) (kv pv:Value) (FS:List FileE) (w:World) (hb:w.heap[d]?=some (.cells (dkV room bs kv pv).toArray 93 (0,0))) (hF:FilesOk w 5 bs FS) (hu:usedF FS≤4611686018427387904) :
    Fun Tryz.prog 74 [.pointer (some ⟨d,0,none⟩)] w (.int .i64 (usedF FS)):=by
  refine Tri.enter (bx:=[]) (hp:=[]) Tryz.func74 rfl (by kernel_rfl) rfl (Own.nil w) ?_
  have rd0:∀ {bx:Bx}{hp:List Seg},RdW ⟨w,kys [] []⟩ bx hp d 0 [.int .i64 room]:=fun {_ _}=>RdW.blkB1 (by simp [kys]) hb rfl
  have rd1:∀ {bx:Bx}{hp:List Seg},RdW ⟨w,kys [] []⟩ bx hp d 1 [.map (some bs)]:=fun {_ _}=>RdW.blkB1 (by simp [kys]) hb rfl
  have rd2:∀ {bx:Bx}{hp:List Seg},RdW ⟨w,kys [] []⟩ bx hp d 2 [kv]:=fun {_ _}=>RdW.blkB1 (by simp [kys]) hb rfl
  have rd3:∀ {bx:Bx}{hp:List Seg},RdW ⟨w,kys [] []⟩ bx hp d 3 [pv]:=fun {_ _}=>RdW.blkB1 (by simp [kys]) hb rfl
  have hU:∀ {bx:Bx}{hp:List Seg},CallOb Tryz.prog ⟨w,kys [] []⟩ bx hp 86 [.map (some bs)] (.int .i64 (usedF FS)):=fun {_ _} w' hw'=>Tryz.used_w bs FS w' (hF.ext hw'.ext (by simp [kys])) (by omega)
  refine At.run 100 true [false] [hR [.map (some bs)],hC (.int .i64 (usedF FS))] rfl (by and_intros <;> first | exact rd1 | exact hU | exact oK) ?_
  exact At.retK [] [] [] rfl rfl Tryz.func74 rfl trivial ⟨rfl,rfl,rfl⟩
theorem Tryz.Pending_w (d room bs:Nat) (kv:Value) (a:Option Addr) (n c:Nat) (w:World) (hb:w.heap[d]?=some (.cells (dkV room bs kv (.slice a n c)).toArray 93 (0,0))) :
    Fun Tryz.prog 31 [.pointer (some ⟨d,0,none⟩)] w (.int .i64 n):=by
  refine Tri.enter (bx:=[]) (hp:=[]) Tryz.func31 rfl (by kernel_rfl) rfl (Own.nil w) ?_
  have rd3:∀ {bx:Bx}{hp:List Seg},RdW ⟨w,kys [] []⟩ bx hp d 3 [.slice a n c]:=fun {_ _}=>RdW.blkB1 (by simp [kys]) hb rfl
  refine At.run 100 true [false] [hR [.slice a n c]] rfl (by and_intros <;> first | exact rd3 | exact oK) ?_
  exact At.retK [] [] [] rfl rfl Tryz.func31 rfl trivial ⟨rfl,rfl,rfl⟩
theorem Tryz.DRead_w (d room bs:Nat) (kv pv:Value) (FS:List FileE) (n:List UInt8) (w:World) (hb:w.heap[d]?=some (.cells (dkV room bs kv pv).toArray 93 (0,0))) (hF:FilesOk w 5 bs FS) (_hne:∀ f,f∈FS→0 < f.bytes.length) :
    Fun Tryz.prog 24 [.pointer (some ⟨d,0,none⟩),str n] w (str (bytesF FS n)):=by
  refine Tri.enter (bx:=[]) (hp:=[]) Tryz.func24 rfl (by kernel_rfl) rfl (Own.nil w) ?_
  have rd0:∀ {bx:Bx}{hp:List Seg},RdW ⟨w,kys [] []⟩ bx hp d 0 [.int .i64 room]:=fun {_ _}=>RdW.blkB1 (by simp [kys]) hb rfl
  have rd1:∀ {bx:Bx}{hp:List Seg},RdW ⟨w,kys [] []⟩ bx hp d 1 [.map (some bs)]:=fun {_ _}=>RdW.blkB1 (by simp [kys]) hb rfl
  have rd2:∀ {bx:Bx}{hp:List Seg},RdW ⟨w,kys [] []⟩ bx hp d 2 [kv]:=fun {_ _}=>RdW.blkB1 (by simp [kys]) hb rfl
  have rd3:∀ {bx:Bx}{hp:List Seg},RdW ⟨w,kys [] []⟩ bx hp d 3 [pv]:=fun {_ _}=>RdW.blkB1 (by simp [kys]) hb rfl
  have hLk:∀ {bx:Bx}{hp:List Seg},LookOb Tryz.prog ⟨w,kys [] []⟩ bx hp 90 (.map (some bs)) (str n) false (valF FS n):=fun {_ _}=>LookOb.file Tryz.filesT Tryz.strT Tryz.zeroBytes (fun w' hw'=>hF.ext (t:=5) hw'.ext (by simp [kys]))
  cases hg:getF FS n with
  | none =>
    have hv:valF FS n=sv none 0 0:=by simp [valF,hg]
    have hby:bytesF FS n=[]:=by simp [bytesF,hg]
    rw [hv] at hLk
    refine At.run 100 true [false] [hR [.map (some bs)],hL (sv none 0 0)] rfl (by and_intros <;> first | exact rd1 | exact hLk | exact oK) ?_
    refine At.nilRow 5 1 ?_
    refine At.step [] rfl rfl rfl rfl rfl trivial (OpOk.toStr (l:=[]) 0 rfl rfl rfl rfl rfl rfl ?_)
    refine At.run 100 true [] [] rfl oK ?_
    refine At.keep [] [] rfl ?_
    exact At.ret [] rfl Tryz.func24 rfl trivial ⟨by rw [hby]; rfl,rfl,rfl⟩
  | some f =>
    have hv:valF FS n=sv (some f.g) f.bytes.length f.cap:=by simp [valF,hg]
    have hby:bytesF FS n=f.bytes:=by simp [bytesF,hg]
    have hfm:=(getF_some hg).1
    rw [hv] at hLk
    refine At.run 100 true [false] [hR [.map (some bs)],hL (sv (some f.g) f.bytes.length f.cap)] rfl (by and_intros <;> first | exact rd1 | exact hLk | exact oK) ?_
    refine At.step [] rfl rfl rfl rfl rfl trivial (OpOk.toStrR f.bytes rfl rfl rfl rfl rfl rfl (fun w' hw'=>?_) ?_)
    · have hrow:=(hF.ext hw'.ext (by simp [kys])).row f hfm
      intro j u hu
      rw [Nat.zero_add]; exact hrow.cell hu
    refine At.run 100 true [] [] rfl oK ?_
    exact At.ret [] rfl Tryz.func24 rfl trivial ⟨by rw [hby]; rfl,rfl,rfl⟩
def cutW (F:List FileE) (n:List UInt8) (at0:Nat) (s:List UInt8) (k:Int) (g c:Nat):List FileE:=if 0 < k then putF F ⟨n,wrB (bytesF F n) at0 (s.take k.toNat),g,c⟩ else F
theorem Tryz.write1_w (b:Nat) (F:List FileE) (k:Int) (n:List UInt8) (at0:Nat) (s:List UInt8) (b1 b2 b3:Nat) (w:World) (hown:Own [] [Seg.files 5 b F] w)
    (h1:w.heap[b1]?=some (.cells ([str n]:List Value).toArray 9 (0,0))) (h2:w.heap[b2]?=some (.cells ([.int .i64 at0]:List Value).toArray 3 (0,0))) (h3:w.heap[b3]?=some (.cells ([str s]:List Value).toArray 9 (0,0)))
    (m1:b1 ∉ kys [] [Seg.files 5 b F]) (m2:b2 ∉ kys [] [Seg.files 5 b F]) (m3:b3 ∉ kys [] [Seg.files 5 b F]) (hk:k≤s.length) (hb:at0+s.length≤16777216) (hF:(bytesF F n).length≤16777216) :
    Tri Tryz.prog 102 [.map (some b),.int .i64 k,.pointer (some ⟨b1,0,none⟩),.pointer (some ⟨b2,0,none⟩),.pointer (some ⟨b3,0,none⟩)] w (kys [] [Seg.files 5 b F])
      (fun v bx hp=>v=.tuple #[]∧bx=[]∧∃ g c,hp=[Seg.files 5 b (cutW F n at0 s k g c)]):=by
  refine Tri.enter (bx:=[]) (hp:=[Seg.files 5 b F]) Tryz.func102 rfl (by kernel_rfl) rfl hown ?_
  have r1:∀ {bx:Bx}{hp:List Seg},RdW ⟨w,kys [] [Seg.files 5 b F]⟩ bx hp b1 0 [str n]:=fun {_ _}=>RdW.blkB1 m1 h1 rfl
  have r2:∀ {bx:Bx}{hp:List Seg},RdW ⟨w,kys [] [Seg.files 5 b F]⟩ bx hp b2 0 [.int .i64 at0]:=fun {_ _}=>RdW.blkB1 m2 h2 rfl
  have r3:∀ {bx:Bx}{hp:List Seg},RdW ⟨w,kys [] [Seg.files 5 b F]⟩ bx hp b3 0 [str s]:=fun {_ _}=>RdW.blkB1 m3 h3 rfl
  have hsz:(bl ⟨s.toArray⟩).length=s.length:=by rw [bl_of]
  by_cases hk0:0 < k
  · refine At.run 100 true [true] [] rfl oK ?_
    refine At.quietT 6 1 true [] [hR [str n],hR [.int .i64 at0],hR [str s]] ⟨by kernel_rfl,by kernel_rfl,rfl,by kernel_rfl,by kernel_rfl,by kernel_rfl,rfl,rfl,rfl⟩ rfl rfl rfl (by and_intros <;> first | exact r1 | exact r2 | exact r3 | exact oK) rfl ?_
    have hlt:(s.take k.toNat).length=k.toNat:=by rw [List.length_take]; omega
    simp only [bl_of]
    refine AtD.fork1 6 (by kernel_rfl) (StepD.by [] rfl rfl rfl rfl trivial (OpOk.callAll rfl (fun w' hw'=>Tryz.write_w b F n at0 (s.take k.toNat) w' hw'.toOwn (by omega) (by omega) hF) ?_))
    · rintro v bx' hp' ⟨rfl,rfl,g,c,rfl⟩
      refine AtD.done (by kernel_rfl) ?_
      refine At.run 100 true [] [] rfl oK ?_
      exact At.ret [] rfl Tryz.func102 rfl trivial ⟨rfl,rfl,g,c,by rw [cutW,if_pos hk0]⟩
  · refine At.run 100 true [false] [] rfl oK ?_
    exact At.ret [] rfl Tryz.func102 rfl trivial ⟨rfl,rfl,0,0,by rw [cutW,if_neg hk0]⟩
def mayS (S:FL):Bool:=decide (S.length≤4096) && (S.all (okE namedB) && risN S)
theorem mayF1 {S:FL}{i:Nat}{p:List UInt8 × List UInt8}(h:S[i]?=some p) (hp:okE namedB p=false):mayS S=false:=by
  have:S.all (okE namedB)=false:=by rw [List.all_eq_false]; exact⟨p,List.mem_of_getElem? h,by rw [hp]; simp⟩
  simp [mayS,this]
theorem mayF2 {S:FL}(h:risN S=false):mayS S=false:=by simp [mayS,h]
theorem Tryz.dMay_w (S:FL) (a:Option Addr) (cap:Nat) (w:World) (hlen:S.length≤9223372036854775807) (hrow:SlOk w a (fl S)) (hns:∀ p,p∈S→p.1.length≤9223372036854775807) :
    Fun Tryz.prog 44 [.slice a S.length cap] w (.bool (mayS S)):=by
  refine Tri.enter (bx:=[]) (hp:=[]) Tryz.func44 rfl (by kernel_rfl) rfl (Own.nil w) ?_
  refine At.run 100 true [] [] rfl oK ?_
  refine At.loop (n:=S.length) (env0:=[(0,.slice a S.length cap),(5,.slice a S.length cap),(6,.int .i64 S.length),(7,.int .i64 0)]) (fun m env bx hp => ∃ i:Nat,m=S.length - i∧i≤S.length∧(S.take i).all (okE namedB)=true∧(∀ t x y,t+1 < i→S[t]?=some x→S[t+1]?=some y→ltN x y=true) ∧
    env=[(0,.slice a S.length cap),(5,.slice a S.length cap),(6,.int .i64 S.length),(7,.int .i64 i)]∧bx=[]∧hp=[]) rfl ⟨0,by simp,by omega,by simp,by omega,rfl,rfl,rfl⟩ ⟨rfl,rfl,rfl,rfl,trivial⟩ ?_
  rintro m env bx hp ⟨i,rfl,hi,hall,hris,rfl,rfl,rfl⟩ ih
  by_cases hlt:i < S.length
  · obtain⟨p,hp⟩:∃ p,S[i]?=some p:=⟨_,List.getElem?_eq_getElem hlt⟩
    have hne:S≠[]:=by intro h; rw [h] at hlt; simp at hlt
    obtain⟨g,o,rfl,hc⟩:=hrow.get (fl_ne hne)
    have hm:g ∉ (⟨w,kys [] []⟩:Base).mods:=by simp [kys]
    have rE:∀ {bx:Bx}{hp:List Seg},RdW ⟨w,kys [] []⟩ bx hp g (o+(i:Int).toNat * 2) [str p.1,str p.2]:=fun {_ _}=>RdW.fileE hc hm hp (by omega)
    have hN:∀ {bx:Bx}{hp:List Seg},CallOb Tryz.prog ⟨w,kys [] []⟩ bx hp 85 [str p.1] (.bool (namedB p.1)):=fun {_ _} w' hw'=>Tryz.dkNamed_w p.1 w' (hns p (List.mem_of_getElem? hp))
    refine At.run 100 true [true] [hR [str p.1,str p.2]] rfl (by and_intros <;> first | exact rE | exact oK) ?_
    refine At.step [] rfl rfl rfl rfl rfl trivial (OpOk.alloc (cs:=[str [],str []]) rfl (by kernel_rfl) fun b4 hb4=>?_)
    refine At.run 100 true [] [hB 0] rfl (by and_intros <;> first | simp [Value.oneCell',str]; done | exact oK) ?_
    cases hn:namedB p.1 with
    | false =>
      rw [hn] at hN
      have hF:=mayF1 hp (by simp [okE,hn])
      refine At.quiet true [true,true] [hB 0,hC (.bool false)] ⟨by kernel_rfl,by kernel_rfl,rfl,rfl,rfl⟩ rfl rfl rfl (by and_intros <;> first | exact hN | exact oK) ?_
      refine At.run 100 true [true] [] rfl oK ?_
      refine At.keep [] [] rfl ?_
      exact At.ret [] rfl Tryz.func44 rfl trivial ⟨by rw [hF]; rfl,rfl,rfl⟩
    | true =>
      rw [hn] at hN
      by_cases hb:p.2=[]
      · have hF:=mayF1 hp (by simp [okE,hb])
        have hbe:decide (bl ⟨p.2.toArray⟩=bl ⟨#[]⟩)=true:=by rw [bl_of,hb]; rfl
        refine At.quiet true [false,true] [hB 0,hC (.bool true),hB 0] ⟨by kernel_rfl,by kernel_rfl,rfl,rfl,rfl⟩ rfl rfl rfl (by and_intros <;> first | exact hN | exact hbe | exact oK) ?_
        refine At.run 100 true [true] [] rfl (by and_intros <;> first | exact hbe | exact oK) ?_
        refine At.keep [] [] rfl ?_
        exact At.ret [] rfl Tryz.func44 rfl trivial ⟨by rw [hF]; rfl,rfl,rfl⟩
      · have hok:okE namedB p=true:=by simp [okE,hn,hb]
        have hbe:decide (bl ⟨p.2.toArray⟩=bl ⟨#[]⟩)=false:=by rw [bl_of]; exact decide_eq_false hb
        have hall':(S.take (i+1)).all (okE namedB)=true:=by rw [List.take_add_one,hp,List.all_append,hall]; simp [hok]
        by_cases hi0:0 < i
        · obtain⟨q,hq⟩:∃ q,S[i - 1]?=some q:=⟨_,List.getElem?_eq_getElem (by omega)⟩
          have rQ:∀ {bx:Bx}{hp:List Seg},RdW ⟨w,kys [] []⟩ bx hp g (o+((i:Int) - 1).toNat * 2+0) [str q.1]:=fun {_ _}=>RdW.fileN hc hm hq (by omega)
          have hpi:S[i - 1+1]?=some p:=by rw [show i - 1+1=i by omega]; exact hp
          cases hl:ltN q p with
          | false =>
            have hF:=mayF2 (risN_false hq hpi hl)
            refine At.quiet true [false,false,true] [hB 0,hC (.bool true),hB 0,hR [str q.1],hB 0] ⟨by kernel_rfl,by kernel_rfl,rfl,rfl,rfl⟩ rfl rfl rfl (by and_intros <;> first | exact hN | exact rQ | exact hbe | exact oK) ?_
            refine At.run 100 true [true] [] rfl (by and_intros <;> first | (simp only [bl_of]; rw [show Op.bytesLess q.1 p.1=false from hl]; rfl) | exact oK) ?_
            refine At.keep [] [] rfl ?_
            exact At.ret [] rfl Tryz.func44 rfl trivial ⟨by rw [hF]; rfl,rfl,rfl⟩
          | true =>
            refine At.quiet true [false,false,true] [hB 0,hC (.bool true),hB 0,hR [str q.1],hB 0] ⟨by kernel_rfl,by kernel_rfl,rfl,rfl,rfl⟩ rfl rfl rfl (by and_intros <;> first | exact hN | exact rQ | exact hbe | exact oK) ?_
            refine At.run 100 true [false] [] rfl (by and_intros <;> first | (simp only [bl_of]; rw [show Op.bytesLess q.1 p.1=true from hl]; rfl) | exact oK) ?_
            refine At.keep [] [] rfl ?_
            refine At.weak (ih _ _ _ _ (by omega) ⟨i+1,rfl,by omega,hall',fun t x y ht hx hy=>?_,rfl,rfl,rfl⟩) ⟨rfl,rfl,rfl,some_int_eq (by omega),trivial⟩
            by_cases hti:t+1 < i
            · exact hris t x y hti hx hy
            · have:t=i - 1:=by omega
              subst this
              rw [hq] at hx; rw [hpi] at hy
              cases hx; cases hy; exact hl
        · have:i=0:=by omega
          subst this
          refine At.quiet true [false,false,false] [hB 0,hC (.bool true),hB 0] ⟨by kernel_rfl,by kernel_rfl,rfl,rfl,rfl⟩ rfl rfl rfl (by and_intros <;> first | exact hN | exact hbe | exact oK) ?_
          refine At.run 100 true [false] [] rfl oK ?_
          refine At.keep [] [] rfl ?_
          exact At.weak (ih _ _ _ _ (by omega) ⟨0+1,rfl,by omega,hall',by omega,rfl,rfl,rfl⟩) ⟨rfl,rfl,rfl,some_int_eq (by omega),trivial⟩
  · have hi':S.length≤i:=by omega
    have h1:S.all (okE namedB)=true:=by rw [List.take_of_length_le hi'] at hall; exact hall
    have h2:=risN_ok hris hi'
    refine At.run 100 true [false] [] rfl oK ?_
    refine At.retK [] [] [] rfl rfl Tryz.func44 rfl trivial ⟨?_,rfl,rfl⟩
    simp only [tupV,mayS,h1,h2,Bool.and_true]
    congr 1
    rw [Bool.eq_iff_iff]; simp <;> omega
theorem wrB_nil (s:List UInt8):wrB [] 0 s=s:=by
  unfold wrB
  have h0:max ([]:List UInt8).length (0+s.length)=s.length:=by simp
  rw [h0]
  show putL (List.replicate s.length 0) 0 s=s
  exact putL_all (by simp)
theorem usedF_nbs (F:List FileE):usedF F=sumB (nbs F):=by simp only [usedF,sumB,nbs,List.map_map]; rfl
theorem getF_new {F:List FileE}{n:List UInt8}(h:∀ f,f∈F→f.name≠n):getF F n=none:=List.find?_eq_none.2 (fun f hf=>by simpa using h f hf)
theorem bytesF_new {F:List FileE}{n:List UInt8}(h:∀ f,f∈F→f.name≠n):bytesF F n=[]:=by unfold bytesF; rw [getF_new h]
theorem mem_nbs {F:List FileE}{f:FileE}(h:f∈F):(f.name,f.bytes)∈nbs F:=List.mem_map_of_mem (f:=FileE.nb) h
structure MayOk (S:FL):Prop where
  len:S.length≤4096
  all:∀ p,p∈S→namedB p.1=true∧p.2≠[]
  ris:risN S=true
theorem mayS_iff {S:FL}:mayS S=true↔MayOk S:=by
  unfold mayS
  rw [Bool.and_eq_true,Bool.and_eq_true,decide_eq_true_iff,List.all_eq_true]
  constructor
  · rintro⟨h1,h2,h3⟩
    refine⟨h1,fun p hp=>?_,h3⟩
    have:=h2 p hp
    simp only [okE,Bool.and_eq_true,Bool.not_eq_true',decide_eq_false_iff_not] at this
    exact this
  · rintro⟨h1,h2,h3⟩
    refine⟨h1,fun p hp=>?_,h3⟩
    simp only [okE,Bool.and_eq_true,Bool.not_eq_true',decide_eq_false_iff_not]
    exact h2 p hp
def Tryz.OfR (S:FL) (room:Int) (v:Value) (bx:Bx) (hp:List Seg):Prop :=
  if room < 0∨1048576 < room∨mayS S=false then v=.tuple #[.pointer none,.int .i64 1]∧bx=[]∧hp=[]
  else if room < sumB S then v=.tuple #[.pointer none,.int .i64 6]∧bx=[]∧hp=[]
  else ∃ d bs bk FS FK,v=.tuple #[.pointer (some ⟨d,0,none⟩),.int .i64 0]∧bx=[(d,93,dkV room.toNat bs (.map (some bk)) (.slice none 0 0))]∧hp=[Seg.files 5 bk FK,Seg.files 5 bs FS]∧nbs FS=S∧(nbs FK).Perm S
theorem Tryz.Of_w (S:FL) (a:Option Addr) (cap:Nat) (room:Int) (w:World) (hlen:S.length≤9223372036854775807) (hrow:SlOk w a (fl S)) (hns:∀ p,p∈S→p.1.length≤9223372036854775807) (hbs:∀ p,p∈S→p.2.length≤9223372036854775807) :
    Tri Tryz.prog 14 [.slice a S.length cap,.int .i64 room] w [] (Tryz.OfR S room):=by
  refine Tri.enter (bx:=[]) (hp:=[]) Tryz.func14 rfl (by kernel_rfl) rfl (Own.nil w) ?_
  have hMay:∀ {bx:Bx}{hp:List Seg},CallOb Tryz.prog ⟨w,kys [] []⟩ bx hp 44 [.slice a S.length cap] (.bool (mayS S)):=fun {_ _} w' hw'=>Tryz.dMay_w S a cap w' hlen (hrow.ext hw'.ext (by simp [kys])) hns
  by_cases h1:room < 0
  · refine At.run 100 true [true,true,true] [] rfl oK ?_
    exact At.retK [] [] [] rfl rfl Tryz.func14 rfl trivial (by unfold Tryz.OfR; rw [if_pos (.inl h1)]; exact⟨rfl,rfl,rfl⟩)
  by_cases h2:1048576 < room
  · refine At.run 100 true [false,true,true] [] rfl oK ?_
    exact At.retK [] [] [] rfl rfl Tryz.func14 rfl trivial (by unfold Tryz.OfR; rw [if_pos (.inr (.inl h2))]; exact⟨rfl,rfl,rfl⟩)
  cases hm:mayS S with
  | false =>
    rw [hm] at hMay
    refine At.run 100 true [false,false,true] [hC (.bool false)] rfl (by and_intros <;> first | exact hMay | exact oK) ?_
    exact At.retK [] [] [] rfl rfl Tryz.func14 rfl trivial (by unfold Tryz.OfR; rw [if_pos (.inr (.inr hm))]; exact⟨rfl,rfl,rfl⟩)
  | true =>
    rw [hm] at hMay
    obtain⟨hS1,hS2,hS3⟩:=mayS_iff.1 hm
    obtain⟨r,rfl⟩:∃ r:Nat,room=r:=⟨room.toNat,by omega⟩
    have hif1:¬ ((r:Int) < 0∨1048576 < (r:Int)∨mayS S=false):=by rw [hm]; simp; omega
    refine At.run 100 true [false,false,false] [hC (.bool true)] rfl (by and_intros <;> first | exact hMay | exact oK) ?_
    refine At.step [] rfl rfl rfl rfl rfl trivial (OpOk.makeFiles 5 rfl fun bs=>?_)
    refine At.run 100 true [] [] rfl oK ?_
    refine At.step [] rfl rfl rfl rfl rfl trivial (OpOk.box rfl rfl rfl fun d hd=>?_)
    refine At.run 100 true [] [] rfl oK ?_
    refine At.loop (n:=S.length) (env0:=[(0,.slice a S.length cap),(6,.pointer (some ⟨d,0,none⟩)),(24,.slice a S.length cap),(25,.int .i64 S.length),(26,.int .i64 0)]) (fun m env bx hp => ∃ (i:Nat) (FS:List FileE),m=S.length - i∧i≤S.length∧nbs FS=S.take i∧sumB (S.take i)≤r ∧
      env=[(0,.slice a S.length cap),(6,.pointer (some ⟨d,0,none⟩)),(24,.slice a S.length cap),(25,.int .i64 S.length),(26,.int .i64 i)]∧bx=[(d,93,dkV r bs (.map none) (.slice none 0 0))]∧hp=[Seg.files 5 bs FS]) rfl ⟨0,[],by simp,by omega,rfl,by simp [sumB],rfl,rfl,rfl⟩ ⟨rfl,rfl,rfl,rfl,rfl,trivial⟩ ?_
    rintro m env bx hp ⟨i,FS,rfl,hi,hFS,hsum,rfl,rfl,rfl⟩ ih
    have huF:usedF FS=sumB (S.take i):=by rw [usedF_nbs,hFS]
    by_cases hlt:i < S.length
    · obtain⟨p,hp⟩:∃ p,S[i]?=some p:=⟨_,List.getElem?_eq_getElem hlt⟩
      have hpm:=List.mem_of_getElem? hp
      have hne:S≠[]:=by intro h; rw [h] at hlt; simp at hlt
      obtain⟨g,o,rfl,hc⟩:=hrow.get (fl_ne hne)
      have hmg:g ∉ (⟨w,kys [] []⟩:Base).mods:=by simp [kys]
      have rE:∀ {bx:Bx}{hp:List Seg},RdW ⟨w,kys [] []⟩ bx hp g (o+(i:Int).toNat * 2) [str p.1,str p.2]:=fun {_ _}=>RdW.fileE hc hmg hp (by omega)
      have hsn:sumB (S.take (i+1))=sumB (S.take i)+p.2.length:=by rw [List.take_add_one,hp]; exact sumB_snoc _ _
      have hbl:(bl ⟨p.2.toArray⟩).length=p.2.length:=by rw [bl_of]
      have hp2:=hbs p hpm
      refine At.run 100 true [true] [hR [str p.1,str p.2]] rfl (by and_intros <;> first | exact rE | exact oK) ?_
      refine At.step [] rfl rfl rfl rfl rfl trivial (OpOk.alloc (cs:=[str [],str []]) rfl (by kernel_rfl) fun b8 hb8=>?_)
      refine At.run 100 true [] [hB 0] rfl (by and_intros <;> first | simp [Value.oneCell',str]; done | exact oK) ?_
      have hRoom:CallOb Tryz.prog ⟨w,kys [] []⟩ [(b8,57,[str p.1,str p.2]),(d,93,dkV r bs (.map none) (.slice none 0 0))] [Seg.files 5 bs FS] 45 [.pointer (some ⟨d,0,none⟩)] (.int .i64 ((r:Int) - (usedF FS:Int))) :=
        fun w' hw'=>Tryz.Room_w d r bs (.map none) (.slice none 0 0) FS w' (hw'.bx (d,93,dkV r bs (.map none) (.slice none 0 0)) (by simp)) (hw'.files (by simp)) (by omega) (by omega)
      refine At.quiet true [] [hB 0,hC (.int .i64 ((r:Int) - (usedF FS:Int)))] ⟨by kernel_rfl,by kernel_rfl,rfl,rfl,rfl⟩ rfl rfl rfl (by and_intros <;> first | exact hRoom | exact oK) ?_
      by_cases hfull:r < sumB (S.take (i+1))
      · refine At.run 100 true [true] [] rfl oK ?_
        refine At.keep [] [] rfl ?_
        have hif2:(r:Int) < sumB S:=by have:=@sumB_take S (i+1); omega
        exact At.ret [] rfl Tryz.func14 rfl trivial (by unfold Tryz.OfR; rw [if_neg hif1,if_pos hif2]; exact⟨rfl,rfl,rfl⟩)
      · refine At.run 100 true [false] [] rfl oK ?_
        have hnew:∀ f,f∈FS→f.name≠p.1:=by
          intro f hf
          have h3:=mem_nbs hf
          rw [hFS] at h3
          obtain⟨k,hk,hke⟩:=List.mem_take_iff_getElem.1 h3
          have h4:=risN_lt hS3 (i:=k) (k:=i) (by omega) (List.getElem?_eq_getElem (by omega)) hp
          rw [hke] at h4
          exact less_ne h4
        have hby:=bytesF_new hnew
        have hpl:0 < p.2.length:=List.length_pos_iff.2 (hS2 p hpm).2
        refine At.quietT 8 1 true [] [hB 1,hB 0,hB 0] ⟨by kernel_rfl,by kernel_rfl,rfl,by kernel_rfl,by kernel_rfl,by kernel_rfl,rfl,rfl,rfl⟩ rfl rfl rfl oK rfl ?_
        have hw0:∀ w',Own [] [Seg.files 5 bs FS] w'→Tri Tryz.prog 46 [.map (some bs),str p.1,.int .i64 0,str p.2] w' (kys [] [Seg.files 5 bs FS]) _:=fun w' ho=>Tryz.write_w bs FS p.1 0 p.2 w' ho hpl (by omega) (by rw [hby]; simp)
        refine AtD.fork1 8 (by kernel_rfl) (StepD.by [] rfl rfl rfl rfl trivial (OpOk.callO [] [true] rfl rfl (fun w' _ ho=>hw0 w' ho) ?_))
        rintro v bx' hp' ⟨rfl,rfl,g',c',rfl⟩
        rw [hby,wrB_nil,putF_new (f:=⟨p.1,p.2,g',c'⟩) hnew]
        refine AtD.done (by kernel_rfl) ?_
        refine At.run 100 true [] [] rfl oK ?_
        refine At.keep [false,true] [true] rfl ?_
        refine At.weak (ih _ _ _ _ (by omega) ⟨i+1,_,rfl,by omega,?_,by omega,rfl,rfl,rfl⟩) ⟨rfl,rfl,rfl,rfl,some_int_eq (by omega),trivial⟩
        rw [List.take_add_one,hp,← hFS]
        simp [nbs,FileE.nb]
    · have hti:S.take i=S:=List.take_of_length_le (by omega)
      rw [hti] at hFS hsum huF
      have hif2:¬ ((r:Int) < sumB S):=by omega
      have hFb:∀ f,f∈FS→0 < f.bytes.length∧f.bytes.length≤16777216:=by
        intro f hf
        have h3:=mem_nbs hf
        rw [hFS] at h3
        have h4:=(hS2 _ h3).2
        have h5:=sumB_mem h3
        exact⟨List.length_pos_iff.2 h4,by simp at h5; omega⟩
      refine At.run 100 true [false] [hB 0] rfl oK ?_
      refine At.step [] rfl rfl rfl rfl rfl trivial (OpOk.call rfl (fun w' hw'=>Tryz.copied_w bs FS w' (hw'.files (by simp)) hFb) ?_)
      rintro v bx' hp' ⟨bk,FK,rfl,rfl,rfl,hperm⟩
      refine At.run 100 true [] [hB 0] rfl oK ?_
      refine At.keep [true] [true,true] rfl ?_
      exact At.ret [] rfl Tryz.func14 rfl trivial (by
        unfold Tryz.OfR
        rw [if_neg hif1,if_neg hif2]
        exact⟨d,bs,bk,FS,FK,rfl,rfl,rfl,hFS,by rw [← hFS]; exact hperm⟩)
theorem Tryz.dkNew_w (room:Int) (w:World):Tri Tryz.prog 22 [.int .i64 room] w [] (Tryz.OfR [] room):=by
  refine Tri.enter (bx:=[]) (hp:=[]) Tryz.func22 rfl (by kernel_rfl) rfl (Own.nil w) ?_
  refine At.run 100 true [] [] rfl oK ?_
  refine At.step [] rfl rfl rfl rfl rfl trivial (OpOk.call rfl (fun w' hw'=>Tryz.Of_w [] none 0 room w' (by simp) (.inl rfl) (by simp) (by simp)) ?_)
  intro v bx' hp' h
  have h0:=h
  unfold Tryz.OfR at h
  split at h
  · obtain⟨rfl,rfl,rfl⟩:=h
    refine At.run 100 true [] [] rfl oK ?_
    exact At.retK [] [] [] rfl rfl Tryz.func22 rfl trivial h0
  split at h
  · obtain⟨rfl,rfl,rfl⟩:=h
    refine At.run 100 true [] [] rfl oK ?_
    exact At.retK [] [] [] rfl rfl Tryz.func22 rfl trivial h0
  · obtain⟨d,bs,bk,FS,FK,rfl,rfl,rfl,h1,h2⟩:=h
    refine At.run 100 true [] [] rfl oK ?_
    exact At.ret [] rfl Tryz.func22 rfl trivial h0
structure PendE where
  name:List UInt8
  at0:Nat
  s:List UInt8
  b1:Nat
  b2:Nat
  b3:Nat
def Tryz.wrC (e:PendE):List Value:=[.int .i64 e.s.length,.func (.func 102) ⟨[]⟩ ⟨[.pointer (some ⟨e.b1,0,none⟩),.pointer (some ⟨e.b2,0,none⟩),.pointer (some ⟨e.b3,0,none⟩)]⟩]
def Tryz.bxE (e:PendE):Bx:=[(e.b1,9,[str e.name]),(e.b2,3,[.int .i64 e.at0]),(e.b3,9,[str e.s])]
def Tryz.boxesS (W:List PendE):Seg:=Seg.pack (W.flatMap Tryz.bxE) []
theorem Tryz.wrC_one (e:PendE):∀ v,v∈Tryz.wrC e→v.oneCell'=true:=by
  intro v hv
  simp only [Tryz.wrC,List.mem_cons,List.not_mem_nil,or_false] at hv
  rcases hv with rfl | rfl <;> rfl
theorem WOk.apart {S:Base}{bx:Bx}{hp:List Seg}{w:World}(h:WOk S bx hp w) {e:Nat × TypeId × List Value}{s:Seg}(he:e∈bx) (hs:s∈hp):e.1 ∉ kys [] [s]:=by
  intro hk
  have hk2:e.1∈s.keys:=by simpa [kys] using hk
  have hnd:=List.nodup_append.1 h.nd
  exact hnd.2.2 _ (List.mem_map_of_mem (f:=(·.1)) he) _ (List.mem_flatMap.2 ⟨s,hs,hk2⟩) rfl
theorem RdW.blk0' {S:Base}{bx:Bx}{hp:List Seg}{b t i:Nat}{l cs:List Value}(hi:nth bx i=some (b,t,l)) (h:l=cs):RdW S bx hp b 0 cs:=by
  subst h
  intro w hw j u hu
  rw [Nat.zero_add]
  exact cell_blk (hw.bx _ (nth_mem hi)) hu
theorem Tryz.boxesAdd {S:Base}{w:World}{x:Nat × TypeId × List Value}{s1 s2:Seg}{W:List PendE}(e:PendE)
    (h:WOk S [(e.b3,9,[str e.s]),(e.b2,3,[.int .i64 e.at0]),(e.b1,9,[str e.name]),x] [s1,s2,Tryz.boxesS W] w):WOk S [x] [s1,s2,Tryz.boxesS (W++[e])] w:=by
  have h1:=h.permB (hr:=[Tryz.boxesS W,s1,s2]) (List.Perm.refl _) (List.perm_append_comm (l₁:=[s1,s2]) (l₂:=[Tryz.boxesS W]))
  have h2:WOk S ([(e.b3,9,[str e.s]),(e.b2,3,[.int .i64 e.at0]),(e.b1,9,[str e.name]),x]++W.flatMap Tryz.bxE) [s1,s2] w:=WOk.unpackS h1
  have hp:([(e.b3,9,[str e.s]),(e.b2,3,[.int .i64 e.at0]),(e.b1,9,[str e.name]),x]++W.flatMap Tryz.bxE).Perm ([x]++(W++[e]).flatMap Tryz.bxE):=by
    rw [List.flatMap_append,List.flatMap_singleton]
    have e1:([(e.b3,9,[str e.s]),(e.b2,3,[.int .i64 e.at0]),(e.b1,9,[str e.name]),x]:Bx).Perm (x :: Tryz.bxE e):=by
      have:=List.reverse_perm ([(e.b3,9,[str e.s]),(e.b2,3,[.int .i64 e.at0]),(e.b1,9,[str e.name]),x]:Bx)
      simp only [List.reverse_cons,List.reverse_nil,List.nil_append,List.cons_append] at this
      exact this.symm
    refine (e1.append_right _).trans ?_
    rw [List.cons_append,List.singleton_append]
    exact (List.perm_append_comm).cons _
  have h3:=WOk.packS (h2.permB hp (List.Perm.refl _))
  exact h3.permB (List.Perm.refl _) (List.perm_append_comm (l₁:=[Tryz.boxesS (W++[e])]) (l₂:=[s1,s2]))
def wrE (r:Nat) (FS:List FileE) (n:List UInt8) (at0:Int) (s:List UInt8):Int :=
  if namedB n=false∨s=[] then 1
  else if at0 < 0∨((bytesF FS n).length:Int) < at0 then 11
  else if getF FS n=none∧FS.length=4096 then 4
  else if (r:Int) - usedF FS < s.length - ((bytesF FS n).length - at0) then 6 else 0
theorem Tryz.DWrite_w (d r bs:Nat) (kv:Value) (a:Option Nat) (pc:Nat) (FS:List FileE) (W:List PendE) (n:List UInt8) (at0:Int) (s:List UInt8) (w:World)
    (hown:Own [(d,93,dkV r bs kv (sv a W.length pc))] [Seg.files 5 bs FS,Seg.row a 112 2 W.length pc (W.flatMap Tryz.wrC),Tryz.boxesS W] w) (hr:r≤1048576) (hu:usedF FS≤4611686018427387904) (hFb:∀ f,f∈FS→f.bytes.length≤1048576) (hW:W.length≤1000000) (hn:n.length≤9223372036854775807) (hs:s.length≤4611686018427387904) (hat:inK .i64 at0) :
    Tri Tryz.prog 59 [.pointer (some ⟨d,0,none⟩),str n,.int .i64 at0,str s] w (kys [(d,93,dkV r bs kv (sv a W.length pc))] [Seg.files 5 bs FS,Seg.row a 112 2 W.length pc (W.flatMap Tryz.wrC),Tryz.boxesS W])
      (fun v bx hp => v=.int .i64 (wrE r FS n at0 s)∧if wrE r FS n at0 s≠0 then bx=[(d,93,dkV r bs kv (sv a W.length pc))]∧hp=[Seg.files 5 bs FS,Seg.row a 112 2 W.length pc (W.flatMap Tryz.wrC),Tryz.boxesS W]
        else ∃ a' pc' g c b1 b2 b3,bx=[(d,93,dkV r bs kv (sv a' (W.length+1) pc'))]∧hp=[Seg.files 5 bs (putF FS ⟨n,wrB (bytesF FS n) at0.toNat s,g,c⟩),Seg.row a' 112 2 (W.length+1) pc' ((W++[(⟨n,at0.toNat,s,b1,b2,b3⟩:PendE)]).flatMap Tryz.wrC),Tryz.boxesS (W++[⟨n,at0.toNat,s,b1,b2,b3⟩])]):=by
  refine Tri.enter Tryz.func59 rfl (by kernel_rfl) rfl hown ?_
  refine At.run 100 true [] [] rfl trivial ?_
  refine At.step [] rfl rfl rfl rfl rfl trivial (OpOk.box rfl rfl rfl fun b5 hb5=>?_)
  refine At.step [] rfl rfl rfl rfl rfl trivial (OpOk.box rfl rfl rfl fun b6 hb6=>?_)
  refine At.step [] rfl rfl rfl rfl rfl trivial (OpOk.box rfl rfl rfl fun b7 hb7=>?_)
  have hN:∀ {bx:Bx}{hp:List Seg},CallOb Tryz.prog ⟨w,kys [(d,93,dkV r bs kv (sv a W.length pc))] [Seg.files 5 bs FS,Seg.row a 112 2 W.length pc (W.flatMap Tryz.wrC),Tryz.boxesS W]⟩ bx hp 85 [str n] (.bool (namedB n)):=fun {_ _} w' hw'=>Tryz.dkNamed_w n w' hn
  have hsz:(bl ⟨s.toArray⟩).length=s.length:=by rw [bl_of]
  by_cases h1:namedB n=false
  · have hE:wrE r FS n at0 s=1:=by unfold wrE; rw [if_pos (.inl h1)]
    rw [h1] at hN
    refine At.run 100 true [false,true,true] [hB 2,hC (.bool false)] rfl (by and_intros <;> first | exact hN | exact oK) ?_
    refine At.keep [false,false,false,true] [true,true,true] rfl ?_
    exact At.ret [] rfl Tryz.func59 rfl trivial ⟨by rw [hE]; rfl,by rw [hE,if_pos (by decide)]; exact⟨rfl,rfl⟩⟩
  have h1':namedB n=true:=by simpa using h1
  rw [h1'] at hN
  by_cases h2:s=[]
  · have hE:wrE r FS n at0 s=1:=by unfold wrE; rw [if_pos (.inr h2)]
    have hbe:decide (bl ⟨s.toArray⟩=bl ⟨#[]⟩)=true:=by rw [bl_of,h2]; rfl
    refine At.run 100 true [false,false,true] [hB 2,hC (.bool true),hB 0] rfl (by and_intros <;> first | exact hN | exact hbe | exact oK) ?_
    refine At.keep [false,false,false,true] [true,true,true] rfl ?_
    exact At.ret [] rfl Tryz.func59 rfl trivial ⟨by rw [hE]; rfl,by rw [hE,if_pos (by decide)]; exact⟨rfl,rfl⟩⟩
  have hbe:decide (bl ⟨s.toArray⟩=bl ⟨#[]⟩)=false:=by rw [bl_of]; exact decide_eq_false h2
  have hif1:¬ (namedB n=false∨s=[]):=by rw [h1']; simp [h2]
  have hspos:0 < s.length:=List.length_pos_iff.2 h2
  refine At.run 100 true [false,false,false] [hB 2,hC (.bool true),hB 0] rfl (by and_intros <;> first | exact hN | exact hbe | exact oK) ?_
  have hF0:=hown.files (t:=5) (b:=bs) (F:=FS) (by simp)
  obtain⟨ao,co,hv,-⟩:=hF0.slF n
  have hol:(bytesF FS n).length≤1048576:=by
    unfold bytesF
    cases hg:getF FS n with
    | none => simp
    | some f => exact hFb f (getF_some hg).1
  have hLk:LookOb Tryz.prog ⟨w,kys [(d,93,dkV r bs kv (sv a W.length pc))] [Seg.files 5 bs FS,Seg.row a 112 2 W.length pc (W.flatMap Tryz.wrC),Tryz.boxesS W]⟩ [(b7,9,[str s]),(b6,3,[.int .i64 at0]),(b5,9,[str n]),(d,93,dkV r bs kv (sv a W.length pc))] [Seg.files 5 bs FS,Seg.row a 112 2 W.length pc (W.flatMap Tryz.wrC),Tryz.boxesS W] 90 (.map (some bs)) (str n) true (.tuple #[valF FS n,.bool (getF FS n).isSome]):=LookOb.fileOk Tryz.filesT Tryz.strT Tryz.zeroBytes (fun w' hw'=>hw'.files (t:=5) (by simp))
  rw [hv] at hLk
  simp only [inK] at hat
  refine At.quiet true [] [hB 3,hB 2,hL (.tuple #[.slice ao (bytesF FS n).length co,.bool (getF FS n).isSome])] ⟨by kernel_rfl,by kernel_rfl,rfl,rfl,rfl⟩ rfl rfl rfl (by and_intros <;> first | exact hLk | exact oK) ?_
  by_cases h3:at0 < 0
  · have hE:wrE r FS n at0 s=11:=by unfold wrE; rw [if_neg hif1,if_pos (.inl h3)]
    refine At.run 100 true [true,true] [hB 1] rfl oK ?_
    refine At.keep [false,false,false,true] [true,true,true] rfl ?_
    exact At.ret [] rfl Tryz.func59 rfl trivial ⟨by rw [hE]; rfl,by rw [hE,if_pos (by decide)]; exact⟨rfl,rfl⟩⟩
  by_cases h4:((bytesF FS n).length:Int) < at0
  · have hE:wrE r FS n at0 s=11:=by unfold wrE; rw [if_neg hif1,if_pos (.inr h4)]
    refine At.run 100 true [false,true] [hB 1,hB 1] rfl oK ?_
    refine At.keep [false,false,false,true] [true,true,true] rfl ?_
    exact At.ret [] rfl Tryz.func59 rfl trivial ⟨by rw [hE]; rfl,by rw [hE,if_pos (by decide)]; exact⟨rfl,rfl⟩⟩
  have hif2:¬ (at0 < 0∨((bytesF FS n).length:Int) < at0):=by omega
  obtain⟨at0,rfl⟩:∃ k:Nat,at0=k:=⟨at0.toNat,by omega⟩
  rw [Int.toNat_natCast]
  refine At.cutU (ι:=PLift (¬ (getF FS n=none∧FS.length=4096))) ⟨0,[0,1,1,1,1,0,0,1,1,1],[]⟩ (fun _=>[(0,.pointer (some ⟨d,0,none⟩)),(5,.pointer (some ⟨b5,0,none⟩)),(6,.pointer (some ⟨b6,0,none⟩)),(7,.pointer (some ⟨b7,0,none⟩)),(9,.slice ao (bytesF FS n).length co),(10,.bool (getF FS n).isSome)]) (fun _=>[(b7,9,[str s]),(b6,3,[.int .i64 at0]),(b5,9,[str n]),(d,93,dkV r bs kv (sv a W.length pc))]) ?_ (fun hz=>?_)
  · rintro⟨hif3⟩
    have hRoom:CallOb Tryz.prog ⟨w,kys [(d,93,dkV r bs kv (sv a W.length pc))] [Seg.files 5 bs FS,Seg.row a 112 2 W.length pc (W.flatMap Tryz.wrC),Tryz.boxesS W]⟩ [(b7,9,[str s]),(b6,3,[.int .i64 at0]),(b5,9,[str n]),(d,93,dkV r bs kv (sv a W.length pc))] [Seg.files 5 bs FS,Seg.row a 112 2 W.length pc (W.flatMap Tryz.wrC),Tryz.boxesS W] 45 [.pointer (some ⟨d,0,none⟩)] (.int .i64 ((r:Int) - (usedF FS:Int))) :=
      fun w' hw'=>Tryz.Room_w d r bs kv (sv a W.length pc) FS w' (hw'.bx (d,93,dkV r bs kv (sv a W.length pc)) (by simp)) (hw'.files (by simp)) (by omega) hu
    refine At.quiet true [] [hB 0,hB 1,hC (.int .i64 ((r:Int) - (usedF FS:Int)))] ⟨by kernel_rfl,by kernel_rfl,rfl,rfl,rfl⟩ rfl rfl rfl (by and_intros <;> first | exact hRoom | exact oK) ?_
    by_cases h6:(r:Int) - usedF FS < s.length - ((bytesF FS n).length - (at0:Int))
    · have hE:wrE r FS n at0 s=6:=by unfold wrE; rw [if_neg hif1,if_neg hif2,if_neg hif3,if_pos h6]
      refine At.run 100 true [true] [] rfl oK ?_
      refine At.keep [false,false,false,true] [true,true,true] rfl ?_
      exact At.ret [] rfl Tryz.func59 rfl trivial ⟨by rw [hE]; rfl,by rw [hE,if_pos (by decide)]; exact⟨rfl,rfl⟩⟩
    · have hE:wrE r FS n at0 s=0:=by unfold wrE; rw [if_neg hif1,if_neg hif2,if_neg hif3,if_neg h6]
      refine At.run 100 true [false] [] rfl oK ?_
      refine At.quietT 7 1 true [] [hB 3,hB 0] ⟨by kernel_rfl,by kernel_rfl,rfl,by kernel_rfl,by kernel_rfl,by kernel_rfl,rfl,rfl,rfl⟩ rfl rfl rfl oK rfl ?_
      simp only [bl_of]
      refine AtD.fork1 7 (by kernel_rfl) (StepD.by [] rfl rfl rfl rfl trivial (OpOk.callO [] [true] rfl rfl (fun w' hw' ho => Tryz.write1_w bs FS s.length n at0 s b5 b6 b7 w' ho (hw'.bx (b5,9,[str n]) (by simp)) (hw'.bx (b6,3,[.int .i64 at0]) (by simp)) (hw'.bx (b7,9,[str s]) (by simp))
        (WOk.apart hw' (e:=(b5,9,[str n])) (by simp) (by simp)) (WOk.apart hw' (e:=(b6,3,[.int .i64 at0])) (by simp) (by simp)) (WOk.apart hw' (e:=(b7,9,[str s])) (by simp) (by simp)) (by omega) (by omega) (by omega)) ?_))
      rintro v bx' hp' ⟨rfl,rfl,g,c,rfl⟩
      have hcut:cutW FS n at0 s s.length g c=putF FS ⟨n,wrB (bytesF FS n) at0 s,g,c⟩:=by
        unfold cutW; rw [if_pos (by omega),Int.toNat_natCast,List.take_length]
      rw [hcut]
      refine AtD.done (by kernel_rfl) ?_
      refine At.run 100 true [] [] rfl trivial ?_
      obtain⟨F2,hF2⟩:∃ F2,F2=putF FS ⟨n,wrB (bytesF FS n) at0 s,g,c⟩:=⟨_,rfl⟩
      rw [← hF2]
      refine At.draw 14 rfl rfl rfl rfl ?_
      refine AtD.cut (ι:=Nat) 4 #[true,true,true,true,true,true,true,true,true,true,false,false,false,false] (fun bb=>[(0,.pointer (some ⟨d,0,none⟩)),(7,.pointer (some ⟨b7,0,none⟩)),(11,.func (.func 102) ⟨[]⟩ ⟨[.pointer (some ⟨b5,0,none⟩),.pointer (some ⟨b6,0,none⟩),.pointer (some ⟨b7,0,none⟩)]⟩),(72,.pointer (some ⟨d,0,none⟩)),(73,.pointer (some ⟨d,0,none⟩)),(74,.pointer (some ⟨d,0,none⟩)),(75,.pointer (some ⟨d,3,none⟩)),(76,sv a W.length pc),(77,str s),(78,.int .i64 (bl ⟨s.toArray⟩).length),(79,.func (.func 102) ⟨[]⟩ ⟨[.pointer (some ⟨b5,0,none⟩),.pointer (some ⟨b6,0,none⟩),.pointer (some ⟨b7,0,none⟩)]⟩),(80,.agg ⟨[.int .i64 (bl ⟨s.toArray⟩).length,.func (.func 102) ⟨[]⟩ ⟨[.pointer (some ⟨b5,0,none⟩),.pointer (some ⟨b6,0,none⟩),.pointer (some ⟨b7,0,none⟩)]⟩]⟩),(81,.slice (some ⟨bb,0,none⟩) 1 1)]) (fun bb=>[(bb,112,[.int .i64 (bl ⟨s.toArray⟩).length,.func (.func 102) ⟨[]⟩ ⟨[.pointer (some ⟨b5,0,none⟩),.pointer (some ⟨b6,0,none⟩),.pointer (some ⟨b7,0,none⟩)]⟩]),(b7,9,[str s]),(b6,3,[.int .i64 at0]),(b5,9,[str n]),(d,93,dkV r bs kv (sv a W.length pc))]) ?_ (fun hd3=>?_)
      · rintro bb
        refine AtD.fork1 10 (by kernel_rfl) (StepD.by [] rfl rfl rfl rfl trivial (OpOk.append 1 2 16 (Tryz.wrC ⟨n,at0,s,b5,b6,b7⟩) rfl rfl rfl rfl rfl rfl rfl (RdW.blk0' (i:=0) rfl (by rw [bl_of]; rfl)) rfl (Tryz.wrC_one _) (by omega) (by omega) fun q p=>?_))
        refine AtD.pures (ob:=True) true (by kernel_rfl) [11,12] (fuel:=1) (by kernel_rfl) rfl oK ?_
        refine AtD.fork1 13 (by kernel_rfl) (StepD.by0 [] rfl rfl rfl trivial (OpOk.one true [] [hB 4] rfl oK ?_))
        refine AtD.done (by kernel_rfl) ?_
        refine At.run 100 true [] [] rfl oK ?_
        refine At.keep [false,true,true,true,true] [true,true,true] rfl ?_
        refine At.reshape (fun w' hw'=>Tryz.boxesAdd ⟨n,at0,s,b5,b6,b7⟩ hw') ?_
        exact At.ret [] rfl Tryz.func59 rfl trivial ⟨by rw [hE]; rfl,by rw [hE,if_neg (by decide)]; exact⟨q,p,g,c,b5,b6,b7,rfl,by rw [List.flatMap_append,List.flatMap_singleton,hF2]⟩⟩
      refine AtD.cut (ι:=Unit) 5 #[true,true,true,true,true,true,true,true,true,false,false,false,false,false] (fun _=>[(0,.pointer (some ⟨d,0,none⟩)),(7,.pointer (some ⟨b7,0,none⟩)),(11,.func (.func 102) ⟨[]⟩ ⟨[.pointer (some ⟨b5,0,none⟩),.pointer (some ⟨b6,0,none⟩),.pointer (some ⟨b7,0,none⟩)]⟩),(72,.pointer (some ⟨d,0,none⟩)),(73,.pointer (some ⟨d,0,none⟩)),(74,.pointer (some ⟨d,0,none⟩)),(75,.pointer (some ⟨d,3,none⟩)),(76,sv a W.length pc),(77,str s),(78,.int .i64 (bl ⟨s.toArray⟩).length),(79,.func (.func 102) ⟨[]⟩ ⟨[.pointer (some ⟨b5,0,none⟩),.pointer (some ⟨b6,0,none⟩),.pointer (some ⟨b7,0,none⟩)]⟩),(80,.agg ⟨[.int .i64 (bl ⟨s.toArray⟩).length,.func (.func 102) ⟨[]⟩ ⟨[.pointer (some ⟨b5,0,none⟩),.pointer (some ⟨b6,0,none⟩),.pointer (some ⟨b7,0,none⟩)]⟩]⟩)]) (fun _=>[(b7,9,[str s]),(b6,3,[.int .i64 at0]),(b5,9,[str n]),(d,93,dkV r bs kv (sv a W.length pc))]) ?_ (fun hd2=>?_)
      · rintro⟨⟩
        refine AtD.fork1 9 (by kernel_rfl) ?_
        refine StepD.by [] rfl rfl rfl rfl trivial (OpOk.buildSlice rfl rfl rfl rfl rfl rfl rfl (fun bb hbb=>?_))
        exact AtD.weak (hd3 (bb)) ⟨rfl,rfl,rfl,rfl,rfl,rfl,rfl,rfl,rfl,rfl,rfl,rfl,rfl,trivial⟩
      refine AtD.cut (ι:=Unit) 8 #[true,true,true,true,true,false,false,true,false,false,false,false,false,false] (fun _=>[(0,.pointer (some ⟨d,0,none⟩)),(7,.pointer (some ⟨b7,0,none⟩)),(11,.func (.func 102) ⟨[]⟩ ⟨[.pointer (some ⟨b5,0,none⟩),.pointer (some ⟨b6,0,none⟩),.pointer (some ⟨b7,0,none⟩)]⟩),(72,.pointer (some ⟨d,0,none⟩)),(73,.pointer (some ⟨d,0,none⟩)),(74,.pointer (some ⟨d,0,none⟩)),(75,.pointer (some ⟨d,3,none⟩)),(76,sv a W.length pc),(79,.func (.func 102) ⟨[]⟩ ⟨[.pointer (some ⟨b5,0,none⟩),.pointer (some ⟨b6,0,none⟩),.pointer (some ⟨b7,0,none⟩)]⟩)]) (fun _=>[(b7,9,[str s]),(b6,3,[.int .i64 at0]),(b5,9,[str n]),(d,93,dkV r bs kv (sv a W.length pc))]) ?_ (fun hd1=>?_)
      · rintro⟨⟩
        refine AtD.fork1 5 (by kernel_rfl) ?_
        refine StepD.by [] rfl rfl rfl rfl trivial (OpOk.one true [] [hB 0] rfl rfl ?_)
        refine AtD.pures (ob:=True) true (by kernel_rfl) [6,8] (fuel:=5) (by kernel_rfl) rfl oK ?_
        exact AtD.weak (hd2 ()) ⟨rfl,rfl,rfl,rfl,rfl,rfl,rfl,rfl,rfl,rfl,rfl,rfl,trivial⟩
      refine AtD.cut (ι:=Nat) 5 #[true,true,true,true,false,true,true,true,true,true,false,false,false,false] (fun bb=>[(0,.pointer (some ⟨d,0,none⟩)),(7,.pointer (some ⟨b7,0,none⟩)),(11,.func (.func 102) ⟨[]⟩ ⟨[.pointer (some ⟨b5,0,none⟩),.pointer (some ⟨b6,0,none⟩),.pointer (some ⟨b7,0,none⟩)]⟩),(72,.pointer (some ⟨d,0,none⟩)),(73,.pointer (some ⟨d,0,none⟩)),(74,.pointer (some ⟨d,0,none⟩)),(75,.pointer (some ⟨d,3,none⟩)),(77,str s),(78,.int .i64 (bl ⟨s.toArray⟩).length),(79,.func (.func 102) ⟨[]⟩ ⟨[.pointer (some ⟨b5,0,none⟩),.pointer (some ⟨b6,0,none⟩),.pointer (some ⟨b7,0,none⟩)]⟩),(80,.agg ⟨[.int .i64 (bl ⟨s.toArray⟩).length,.func (.func 102) ⟨[]⟩ ⟨[.pointer (some ⟨b5,0,none⟩),.pointer (some ⟨b6,0,none⟩),.pointer (some ⟨b7,0,none⟩)]⟩]⟩),(81,.slice (some ⟨bb,0,none⟩) 1 1)]) (fun bb=>[(bb,112,[.int .i64 (bl ⟨s.toArray⟩).length,.func (.func 102) ⟨[]⟩ ⟨[.pointer (some ⟨b5,0,none⟩),.pointer (some ⟨b6,0,none⟩),.pointer (some ⟨b7,0,none⟩)]⟩]),(b7,9,[str s]),(b6,3,[.int .i64 at0]),(b5,9,[str n]),(d,93,dkV r bs kv (sv a W.length pc))]) ?_ (fun hd5=>?_)
      · rintro bb
        refine AtD.fork1 4 (by kernel_rfl) ?_
        refine StepD.by [] rfl rfl rfl rfl trivial (OpOk.one true [] [hB 4] rfl rfl ?_)
        exact AtD.weak (hd3 (bb)) ⟨rfl,rfl,rfl,rfl,rfl,rfl,rfl,rfl,rfl,rfl,rfl,rfl,rfl,trivial⟩
      refine AtD.cut (ι:=Unit) 6 #[true,true,true,true,false,true,true,true,true,false,false,false,false,false] (fun _=>[(0,.pointer (some ⟨d,0,none⟩)),(7,.pointer (some ⟨b7,0,none⟩)),(11,.func (.func 102) ⟨[]⟩ ⟨[.pointer (some ⟨b5,0,none⟩),.pointer (some ⟨b6,0,none⟩),.pointer (some ⟨b7,0,none⟩)]⟩),(72,.pointer (some ⟨d,0,none⟩)),(73,.pointer (some ⟨d,0,none⟩)),(74,.pointer (some ⟨d,0,none⟩)),(75,.pointer (some ⟨d,3,none⟩)),(77,str s),(78,.int .i64 (bl ⟨s.toArray⟩).length),(79,.func (.func 102) ⟨[]⟩ ⟨[.pointer (some ⟨b5,0,none⟩),.pointer (some ⟨b6,0,none⟩),.pointer (some ⟨b7,0,none⟩)]⟩),(80,.agg ⟨[.int .i64 (bl ⟨s.toArray⟩).length,.func (.func 102) ⟨[]⟩ ⟨[.pointer (some ⟨b5,0,none⟩),.pointer (some ⟨b6,0,none⟩),.pointer (some ⟨b7,0,none⟩)]⟩]⟩)]) (fun _=>[(b7,9,[str s]),(b6,3,[.int .i64 at0]),(b5,9,[str n]),(d,93,dkV r bs kv (sv a W.length pc))]) ?_ (fun hd4=>?_)
      · rintro⟨⟩
        refine AtD.fork [4,9] (by kernel_rfl) (by simp) (fun i hi=>?_)
        simp only [List.mem_cons,List.not_mem_nil,or_false] at hi
        rcases hi with rfl | rfl
        · refine StepD.by [] rfl rfl rfl rfl trivial (OpOk.one true [] [hB 3] rfl rfl ?_)
          exact AtD.weak (hd2 ()) ⟨rfl,rfl,rfl,rfl,rfl,rfl,rfl,rfl,rfl,rfl,rfl,rfl,trivial⟩
        · refine StepD.by [] rfl rfl rfl rfl trivial (OpOk.buildSlice rfl rfl rfl rfl rfl rfl rfl (fun bb hbb=>?_))
          exact AtD.weak (hd5 (bb)) ⟨rfl,rfl,rfl,rfl,rfl,rfl,rfl,rfl,rfl,rfl,rfl,rfl,trivial⟩
      refine AtD.cut (ι:=Unit) 9 #[true,true,true,true,false,false,false,true,false,false,false,false,false,false] (fun _=>[(0,.pointer (some ⟨d,0,none⟩)),(7,.pointer (some ⟨b7,0,none⟩)),(11,.func (.func 102) ⟨[]⟩ ⟨[.pointer (some ⟨b5,0,none⟩),.pointer (some ⟨b6,0,none⟩),.pointer (some ⟨b7,0,none⟩)]⟩),(72,.pointer (some ⟨d,0,none⟩)),(73,.pointer (some ⟨d,0,none⟩)),(74,.pointer (some ⟨d,0,none⟩)),(75,.pointer (some ⟨d,3,none⟩)),(79,.func (.func 102) ⟨[]⟩ ⟨[.pointer (some ⟨b5,0,none⟩),.pointer (some ⟨b6,0,none⟩),.pointer (some ⟨b7,0,none⟩)]⟩)]) (fun _=>[(b7,9,[str s]),(b6,3,[.int .i64 at0]),(b5,9,[str n]),(d,93,dkV r bs kv (sv a W.length pc))]) ?_ (fun hd0=>?_)
      · rintro⟨⟩
        refine AtD.fork [4,5] (by kernel_rfl) (by simp) (fun i hi=>?_)
        simp only [List.mem_cons,List.not_mem_nil,or_false] at hi
        rcases hi with rfl | rfl
        · refine StepD.by [] rfl rfl rfl rfl trivial (OpOk.one true [] [hB 3] rfl rfl ?_)
          exact AtD.weak (hd1 ()) ⟨rfl,rfl,rfl,rfl,rfl,rfl,rfl,rfl,rfl,trivial⟩
        · refine StepD.by [] rfl rfl rfl rfl trivial (OpOk.one true [] [hB 0] rfl rfl ?_)
          refine AtD.pures (ob:=True) true (by kernel_rfl) [6,8] (fuel:=6) (by kernel_rfl) rfl oK ?_
          exact AtD.weak (hd4 ()) ⟨rfl,rfl,rfl,rfl,rfl,rfl,rfl,rfl,rfl,rfl,rfl,trivial⟩
      refine AtD.pures (ob:=True) true (by kernel_rfl) [0,1,2,3,7] (fuel:=9) (by kernel_rfl) rfl oK ?_
      exact AtD.weak (hd0 ()) ⟨rfl,rfl,rfl,rfl,rfl,rfl,rfl,rfl,trivial⟩
  · cases hg:getF FS n with
    | some f =>
      rw [hg] at hz
      refine At.run 100 true [false,false,false,false] [hB 1,hB 1] rfl oK ?_
      exact At.weak (hz ⟨fun h=>by cases h.1⟩) ⟨rfl,rfl,rfl,rfl,rfl,rfl,trivial⟩
    | none =>
      rw [hg] at hz
      refine At.run 100 true [false,false,true] [hB 1,hB 1,hB 3] rfl oK ?_
      refine At.step [true] rfl rfl rfl rfl rfl rfl (OpOk.mapLen (L:=FS.map FileE.ent) rfl Tryz.filesT (fun w' hw'=>(hw'.files (t:=5) (b:=bs) (F:=FS) (by simp)).map) ?_)
      by_cases h5:FS.length=4096
      · have hE:wrE r FS n at0 s=4:=by unfold wrE; rw [if_neg hif1,if_neg hif2,if_pos ⟨hg,h5⟩]
        refine At.run 100 true [true,true] [] rfl (by and_intros <;> first | (simp [h5]; done) | exact oK) ?_
        refine At.keep [false,false,false,true] [true,true,true] rfl ?_
        exact At.ret [] rfl Tryz.func59 rfl trivial ⟨by rw [hE]; rfl,by rw [hE,if_pos (by decide)]; exact⟨rfl,rfl⟩⟩
      · refine At.run 100 true [true,false] [] rfl (by and_intros <;> first | (simp; omega) | exact oK) ?_
        exact At.weak (hz ⟨fun h=>h5 h.2⟩) ⟨rfl,rfl,rfl,rfl,rfl,rfl,trivial⟩
def PendE.wn (e:PendE):List UInt8 × Nat × List UInt8:=(e.name,e.at0,e.s)
theorem cutW_nbs (F:List FileE) (n:List UInt8) (at0:Nat) (s:List UInt8) (k:Int) (g c:Nat):nbs (cutW F n at0 s k g c)=cutN (nbs F) n at0 s k:=by
  unfold cutW cutN
  split
  · rw [putN_nbs,readN_nbs]; rfl
  · rfl
theorem WOk.apartH {S:Base}{bx:Bx}{s1:Seg}{l:List Seg}{w:World}(h:WOk S bx (s1 :: l) w) {s:Seg}(hs:s∈l) {k:Nat}(hk:k∈s.keys):k ∉ kys [] [s1]:=by
  intro hk1
  have hk1:k∈s1.keys:=by simpa [kys] using hk1
  have h1:=(List.nodup_append.1 h.nd).2.1
  rw [List.flatMap_cons] at h1
  exact (List.nodup_append.1 h1).2.2 k hk1 k (List.mem_flatMap.2 ⟨s,hs,hk⟩) rfl
theorem Tryz.boxesS_ok {S:Base}{bx:Bx}{hp:List Seg}{w:World}{W:List PendE}(h:WOk S bx hp w) (hm:Tryz.boxesS W∈hp) {e:PendE}(he:e∈W) :
    w.heap[e.b1]?=some (.cells ([str e.name]:List Value).toArray 9 (0,0))∧w.heap[e.b2]?=some (.cells ([.int .i64 e.at0]:List Value).toArray 3 (0,0))∧w.heap[e.b3]?=some (.cells ([str e.s]:List Value).toArray 9 (0,0)):=by
  have h1:=(h.hp _ hm).1
  have hin:∀ x,x∈Tryz.bxE e→x∈W.flatMap Tryz.bxE:=fun x hx=>List.mem_flatMap.2 ⟨e,he,hx⟩
  exact⟨h1 (e.b1,9,[str e.name]) (hin _ (by simp [Tryz.bxE])),h1 (e.b2,3,[.int .i64 e.at0]) (hin _ (by simp [Tryz.bxE])),h1 (e.b3,9,[str e.s]) (hin _ (by simp [Tryz.bxE]))⟩
theorem Tryz.boxesS_keys {W:List PendE}{e:PendE}(he:e∈W):e.b1∈(Tryz.boxesS W).keys∧e.b2∈(Tryz.boxesS W).keys∧e.b3∈(Tryz.boxesS W).keys:=by
  have hin:∀ x,x∈Tryz.bxE e→x.1∈(Tryz.boxesS W).keys:=fun x hx=>mem_kys_bx (List.mem_flatMap.2 ⟨e,he,hx⟩)
  exact⟨hin (e.b1,9,[str e.name]) (by simp [Tryz.bxE]),hin (e.b2,3,[.int .i64 e.at0]) (by simp [Tryz.bxE]),hin (e.b3,9,[str e.s]) (by simp [Tryz.bxE])⟩
theorem Tryz.Crash_w (d r bs bk:Nat) (a:Option Nat) (pc:Nat) (FK:List FileE) (W:List PendE) (F:Nat) (ca:List Value) (K:Nat→Int) (w:World)
    (hown:Own [(d,93,dkV r bs (.map (some bk)) (sv a W.length pc))] [Seg.files 5 bk FK,Seg.row a 112 2 W.length pc (W.flatMap Tryz.wrC),Tryz.boxesS W] w)
    (hch:∀ i w',i < W.length→Ext (kys [(d,93,dkV r bs (.map (some bk)) (sv a W.length pc))] [Seg.files 5 bk FK,Seg.row a 112 2 W.length pc (W.flatMap Tryz.wrC),Tryz.boxesS W]) w w'→Fun Tryz.prog F (.int .i64 i :: ca) w' (.int .i64 (K i)))
    (hFK:FOK (nbs FK)) (hW:∀ e,e∈W→e.at0+e.s.length≤1048576) (hWn:W.length≤1000000) :
    Tri Tryz.prog 26 [.pointer (some ⟨d,0,none⟩),.func (.func F) ⟨[]⟩ ⟨ca⟩] w (kys [(d,93,dkV r bs (.map (some bk)) (sv a W.length pc))] [Seg.files 5 bk FK,Seg.row a 112 2 W.length pc (W.flatMap Tryz.wrC),Tryz.boxesS W])
      (fun v bx hp=>v=.int .i64 0∧∃ b3 F3 F2,bx=[(d,93,dkV r b3 (.map (some bk)) (.slice none 0 0))]∧hp=[Seg.files 5 b3 F3,Seg.files 5 bk F2]∧nbs F2=crashN (nbs FK) (W.map PendE.wn) K 0∧(nbs F3).Perm (nbs F2)∧FOK (nbs F2)):=by
  refine Tri.enter Tryz.func26 rfl (by kernel_rfl) rfl hown ?_
  refine At.run 100 true [false] [hB 0] rfl oK ?_
  refine At.loop (n:=W.length) (env0:=[(0,.pointer (some ⟨d,0,none⟩)),(1,.func (.func F) ⟨[]⟩ ⟨ca⟩),(12,sv a W.length pc),(13,.int .i64 W.length),(14,.int .i64 0)]) (fun m env bx hp => ∃ (i:Nat) (F2:List FileE),m=W.length - i∧i≤W.length∧crashN (nbs F2) ((W.drop i).map PendE.wn) K i=crashN (nbs FK) (W.map PendE.wn) K 0∧FOK (nbs F2) ∧
    env=[(0,.pointer (some ⟨d,0,none⟩)),(1,.func (.func F) ⟨[]⟩ ⟨ca⟩),(12,sv a W.length pc),(13,.int .i64 W.length),(14,.int .i64 i)]∧bx=[(d,93,dkV r bs (.map (some bk)) (sv a W.length pc))]∧hp=[Seg.files 5 bk F2,Seg.row a 112 2 W.length pc (W.flatMap Tryz.wrC),Tryz.boxesS W]) rfl
    ⟨0,FK,by simp,by omega,rfl,hFK,rfl,rfl,rfl⟩ ⟨rfl,rfl,rfl,rfl,rfl,trivial⟩ ?_
  rintro m env bx hp ⟨i,F2,rfl,hi,hcr,hF2,rfl,rfl,rfl⟩ ih
  by_cases hlt:i < W.length
  · refine At.rowSome 1 rfl (by omega) (fun ga hga=>?_)
    subst hga
    obtain⟨e,he⟩:∃ e,W[i]?=some e:=⟨_,List.getElem?_eq_getElem hlt⟩
    have hem:=List.mem_of_getElem? he
    have hdrop:W.drop i=e :: W.drop (i+1):=by
      rw [List.drop_eq_getElem_cons hlt,(List.getElem?_eq_some_iff.1 he).2]
    have rE:∀ {bx:Bx},RdW ⟨w,kys [(d,93,dkV r bs (.map (some bk)) (sv (some ga) W.length pc))] [Seg.files 5 bk FK,Seg.row (some ga) 112 2 W.length pc (W.flatMap Tryz.wrC),Tryz.boxesS W]⟩ bx [Seg.files 5 bk F2,Seg.row (some ga) 112 2 W.length pc (W.flatMap Tryz.wrC),Tryz.boxesS W] ga (0+(i:Int).toNat * 2) (Tryz.wrC e) :=
      fun {_}=>RdW.row (j:=1) rfl (fun k u hu=>by rw [Nat.zero_add,Int.toNat_natCast]; exact flat_get (f:=Tryz.wrC) (sz:=2) (fun _ _=>rfl) he k u hu)
    refine At.run 100 true [true] [hR (Tryz.wrC e)] rfl (by and_intros <;> first | exact rE | exact oK) ?_
    refine At.step [] rfl rfl rfl rfl rfl trivial (OpOk.alloc (cs:=[.int .i64 0,.nilFunc]) rfl (by kernel_rfl) fun b6 hb6=>?_)
    refine At.run 100 true [] [hB 0] rfl (by and_intros <;> first | exact Tryz.wrC_one e | exact oK) ?_
    have hK:=hch i
    have hCh:∀ {bx:Bx},CallOb Tryz.prog ⟨w,kys [(d,93,dkV r bs (.map (some bk)) (sv (some ga) W.length pc))] [Seg.files 5 bk FK,Seg.row (some ga) 112 2 W.length pc (W.flatMap Tryz.wrC),Tryz.boxesS W]⟩ bx [Seg.files 5 bk F2,Seg.row (some ga) 112 2 W.length pc (W.flatMap Tryz.wrC),Tryz.boxesS W] F (allArgs [] [.int .i64 i] ca) (.int .i64 (K i)) :=
      fun {_} w' hw'=>by rw [allArgs_eq]; exact hch i w' hlt hw'.ext
    refine At.quietT 13 1 true [] [hB 0,hB 1,hC (.int .i64 (K i)),hB 0] ⟨by kernel_rfl,by kernel_rfl,rfl,by kernel_rfl,by kernel_rfl,by kernel_rfl,rfl,rfl,rfl⟩ rfl rfl rfl (by and_intros <;> first | exact hCh | exact oK) rfl ?_
    have hby:(bytesF F2 e.name).length≤1048576:=by rw [← readN_nbs]; exact hF2.read e.name
    have hWe:=hW e hem
    refine AtD.fork1 13 (by kernel_rfl) (StepD.by [] rfl rfl rfl rfl trivial (OpOk.callO [] [true] rfl rfl (fun w' hw' ho => Tryz.write1_w bk F2 (min (max (K i) 0) e.s.length) e.name e.at0 e.s e.b1 e.b2 e.b3 w' ho (Tryz.boxesS_ok hw' (by simp) hem).1 (Tryz.boxesS_ok hw' (by simp) hem).2.1 (Tryz.boxesS_ok hw' (by simp) hem).2.2
      (WOk.apartH hw' (s:=Tryz.boxesS W) (by simp) (Tryz.boxesS_keys hem).1) (WOk.apartH hw' (s:=Tryz.boxesS W) (by simp) (Tryz.boxesS_keys hem).2.1) (WOk.apartH hw' (s:=Tryz.boxesS W) (by simp) (Tryz.boxesS_keys hem).2.2) (by omega) (by omega) (by omega)) ?_))
    rintro v bx' hp' ⟨rfl,rfl,g,c,rfl⟩
    refine AtD.done (by kernel_rfl) ?_
    refine At.run 100 true [] [] rfl oK ?_
    refine At.keep [false,true] [true,true,true] rfl ?_
    refine At.weak (ih _ _ _ _ (by omega) ⟨i+1,_,rfl,by omega,?_,?_,rfl,rfl,rfl⟩) ⟨rfl,rfl,rfl,rfl,some_int_eq (by omega),trivial⟩
    · rw [← hcr,hdrop,cutW_nbs]; rfl
    · rw [cutW_nbs]; exact hF2.cut (by omega) hWe
  · have hd:W.drop i=[]:=List.drop_of_length_le (by omega)
    rw [hd] at hcr
    have hcr':nbs F2=crashN (nbs FK) (W.map PendE.wn) K 0:=hcr
    have hFb:∀ f,f∈F2→0 < f.bytes.length∧f.bytes.length≤16777216:=fun f hf=>by have:=hF2 _ (mem_nbs hf); simp only at this; omega
    refine At.run 100 true [false] [hB 0] rfl oK ?_
    refine At.step [] rfl rfl rfl rfl rfl trivial (OpOk.call rfl (fun w' hw'=>Tryz.copied_w bk F2 w' (hw'.files (by simp)) hFb) ?_)
    rintro v bx' hp' ⟨b3,F3,rfl,rfl,rfl,hperm⟩
    refine At.run 100 true [] [hB 0,hB 0] rfl oK ?_
    refine At.keep [true] [true,true] rfl ?_
    exact At.ret [] rfl Tryz.func26 rfl trivial ⟨rfl,b3,F3,F2,rfl,rfl,hcr',hperm,hF2⟩
theorem WOk.nilBoxes {S:Base}{bx:Bx}{hp:List Seg}{w:World}(h:WOk S bx hp w):WOk S bx (Tryz.boxesS [] :: hp) w :=
  WOk.packS (bx1:=[]) (by rw [List.append_nil]; exact h)
def keepN (xs:List Int) (i:Nat):Int:=match xs[i]? with
  | some x => x
  | none => 1073741824
theorem Tryz.Keep1_w (xs:List Int) (a:Option Addr) (cap i b:Nat) (w:World) (hb:w.heap[b]?=some (.cells ([.slice a xs.length cap]:List Value).toArray 59 (0,0))) (hrow:SlOk w a (i64s xs)) (_hl:xs.length≤9223372036854775807) :
    Fun Tryz.prog 60 [.int .i64 i,.pointer (some ⟨b,0,none⟩)] w (.int .i64 (keepN xs i)):=by
  refine Tri.enter (bx:=[]) (hp:=[]) Tryz.func60 rfl (by kernel_rfl) rfl (Own.nil w) ?_
  have rb:∀ {bx:Bx}{hp:List Seg},RdW ⟨w,kys [] []⟩ bx hp b 0 [.slice a xs.length cap]:=fun {_ _}=>RdW.blkB1 (by simp [kys]) hb rfl
  by_cases hi:i < xs.length
  · obtain⟨x,hx⟩:∃ x,xs[i]?=some x:=⟨_,List.getElem?_eq_getElem hi⟩
    have hk:keepN xs i=x:=by simp [keepN,hx]
    have hne:i64s xs≠[]:=by intro h; have:=congrArg List.length h; rw [i64s_len] at this; change xs.length=0 at this; omega
    obtain⟨g,o,rfl,hc⟩:=hrow.get hne
    have rx:∀ {bx:Bx}{hp:List Seg},RdW ⟨w,kys [] []⟩ bx hp g (o+(i:Int).toNat * 1) [.int .i64 x]:=fun {_ _}=>RdW.sl hc (by simp [kys]) i (by omega) (fun j u hu=>by
      match j,hu with
      | 0,hu => simp at hu; subst hu; simpa using i64s_get hx)
    refine At.run 100 true [true] [hR [.slice (some ⟨g,o,none⟩) xs.length cap],hR [.slice (some ⟨g,o,none⟩) xs.length cap],hR [.int .i64 x]] rfl (by and_intros <;> first | exact rb | exact rx | exact oK) ?_
    exact At.retK [] [] [] rfl rfl Tryz.func60 rfl trivial ⟨by rw [hk]; rfl,rfl,rfl⟩
  · have hk:keepN xs i=1073741824:=by simp [keepN,List.getElem?_eq_none (show xs.length≤i by omega)]
    refine At.run 100 true [false] [hR [.slice a xs.length cap]] rfl (by and_intros <;> first | exact rb | exact oK) ?_
    exact At.retK [] [] [] rfl rfl Tryz.func60 rfl trivial ⟨by rw [hk]; rfl,rfl,rfl⟩
theorem Tryz.Keep_w (v0:Value) (w:World) (h1:v0.oneCell'=true) (h2:∃ a n c,v0=.slice a n c):Tri Tryz.prog 27 [v0] w [] (fun v bx hp=>∃ b,v=.func (.func 60) ⟨[]⟩ ⟨[.pointer (some ⟨b,0,none⟩)]⟩∧bx=[(b,59,[v0])]∧hp=[]):=by
  obtain⟨a,n,c,rfl⟩:=h2
  refine Tri.enter (bx:=[]) (hp:=[]) Tryz.func27 rfl (by kernel_rfl) rfl (Own.nil w) ?_
  refine At.run 100 true [] [] rfl trivial ?_
  refine At.step [] rfl rfl rfl rfl rfl trivial (OpOk.box rfl rfl rfl fun b hb=>?_)
  refine At.run 100 true [] [] rfl oK ?_
  exact At.ret [] rfl Tryz.func27 rfl trivial ⟨b,rfl,rfl,rfl⟩
theorem Tryz.rNamed_w (s:List UInt8) (w:World) (hs:s.length≤9223372036854775807):Fun Tryz.prog 48 [str s] w (.bool (namedB s)):=by
  refine Tri.enter (bx:=[]) (hp:=[]) Tryz.func48 rfl (by kernel_rfl) rfl (Own.nil w) ?_
  have hsz:(bl ⟨s.toArray⟩).length=s.length:=by rw [bl_of]
  refine At.run 100 true [] [] rfl oK ?_
  refine At.loop (n:=s.length) (env0:=[(0,str s),(3,.int .i64 0)]) (fun m env bx hp => ∃ i:Nat,m=s.length - i∧i≤s.length∧((s.take i).all fun b => okR b.toNat)=true ∧
    env=[(0,str s),(3,.int .i64 i)]∧bx=[]∧hp=[]) rfl ⟨0,by simp,by omega,by simp,rfl,rfl,rfl⟩ ⟨rfl,rfl,trivial⟩ ?_
  rintro m env bx hp ⟨i,rfl,hi,hall,rfl,rfl,rfl⟩ ih
  by_cases hlt:i < s.length
  · obtain⟨c,hc⟩:∃ c,s[i]?=some c:=⟨_,List.getElem?_eq_getElem hlt⟩
    have ec:(bl ⟨s.toArray⟩)[((i:Nat):Int).toNat]?.getD 0=c:=by rw [Int.toNat_natCast,bl_of]; simp [hc]
    have hbad:okR c.toNat=false→namedB s=false:=by
      intro h
      have:(s.all fun b=>okR b.toNat)=false:=by rw [List.all_eq_false]; exact⟨c,List.mem_of_getElem? hc,by rw [h]; simp⟩
      simp [namedB,this]
    have hgood:okR c.toNat=true→((s.take (i+1)).all fun b=>okR b.toNat)=true:=by
      intro h
      rw [List.take_add_one,hc,List.all_append,hall]; simp [h]
    have hix:(0:Int)≤i∧(i:Int) < (((bl ⟨s.toArray⟩).length:Nat):Int):=by omega
    have hltd:decide ((i:Int) < (((bl ⟨s.toArray⟩).length:Nat):Int))=true:=decide_eq_true (by omega)
    by_cases h1:c.toNat < 48
    · refine At.run 100 true [true,false,false,false,true] [] rfl (by simp only [ec]; exact oK) ?_
      exact At.retK [] [] [] rfl rfl Tryz.func48 rfl trivial ⟨by rw [hbad (decide_eq_false (by omega))]; rfl,rfl,rfl⟩
    by_cases h2:c.toNat≤57
    · refine At.run 100 true [true,true,true,false] [] rfl (by simp only [ec]; exact oK) ?_
      refine At.weak (ih _ _ _ _ (by omega) ⟨i+1,rfl,by omega,hgood (decide_eq_true (by omega)),rfl,rfl,rfl⟩) ⟨rfl,some_int_eq (by omega),trivial⟩
    by_cases h3:c.toNat < 97
    · refine At.run 100 true [true,true,false,false,true] [] rfl (by simp only [ec]; exact oK) ?_
      exact At.retK [] [] [] rfl rfl Tryz.func48 rfl trivial ⟨by rw [hbad (decide_eq_false (by omega))]; rfl,rfl,rfl⟩
    by_cases h4:c.toNat≤122
    · refine At.run 100 true [true,true,false,true,false] [] rfl (by simp only [ec]; exact oK) ?_
      refine At.weak (ih _ _ _ _ (by omega) ⟨i+1,rfl,by omega,hgood (decide_eq_true (by omega)),rfl,rfl,rfl⟩) ⟨rfl,some_int_eq (by omega),trivial⟩
    · refine At.run 100 true [true,true,false,true,true] [] rfl (by simp only [ec]; exact oK) ?_
      exact At.retK [] [] [] rfl rfl Tryz.func48 rfl trivial ⟨by rw [hbad (decide_eq_false (by omega))]; rfl,rfl,rfl⟩
  · have hi':s.length≤i:=by omega
    rw [List.take_of_length_le hi'] at hall
    by_cases h5:1≤s.length
    · refine At.run 100 true [false,true] [] rfl oK ?_
      refine At.retK [] [] [] rfl rfl Tryz.func48 rfl trivial ⟨?_,rfl,rfl⟩
      have h3:Nat.ble 1 s.length=true:=by simp; omega
      simp only [tupV,namedB,hall,h3,Bool.and_true,Bool.true_and]
      congr 1
      rw [Bool.eq_iff_iff,hsz]; simp <;> omega
    · refine At.run 100 true [false,false] [] rfl oK ?_
      refine At.retK [] [] [] rfl rfl Tryz.func48 rfl trivial ⟨?_,rfl,rfl⟩
      have h3:namedB s=false:=by simp [namedB]; omega
      rw [h3]; rfl
theorem Tryz.rSame9_w (S R:FL) (a b:Option Addr) (ca cb:Nat) (w:World) (hS:S.length≤9223372036854775807) (hR0:R.length≤9223372036854775807) (hrS:SlOk w a (fl S)) (hrR:SlOk w b (fl R)) :
    Fun Tryz.prog 20 [.slice a S.length ca,.slice b R.length cb] w (.bool (decide (S=R))):=by
  refine Tri.enter (bx:=[]) (hp:=[]) Tryz.func20 rfl (by kernel_rfl) rfl (Own.nil w) ?_
  by_cases hl:S.length=R.length
  · refine At.run 100 true [false] [] rfl (by and_intros <;> first | (simp [hl]; done) | exact oK) ?_
    refine At.loop (n:=S.length) (env0:=[(0,.slice a S.length ca),(1,.slice b R.length cb),(5,.int .i64 0)]) (fun m env bx hp => ∃ i:Nat,m=S.length - i∧i≤S.length∧S.take i=R.take i ∧
      env=[(0,.slice a S.length ca),(1,.slice b R.length cb),(5,.int .i64 i)]∧bx=[]∧hp=[]) rfl ⟨0,by simp,by omega,by simp,rfl,rfl,rfl⟩ ⟨rfl,rfl,rfl,trivial⟩ ?_
    rintro m env bx hp ⟨i,rfl,hi,hti,rfl,rfl,rfl⟩ ih
    by_cases hlt:i < S.length
    · obtain⟨p,hp⟩:∃ p,S[i]?=some p:=⟨_,List.getElem?_eq_getElem hlt⟩
      obtain⟨q,hq⟩:∃ q,R[i]?=some q:=⟨_,List.getElem?_eq_getElem (by omega)⟩
      obtain⟨g,o,rfl,hc⟩:=hrS.get (fl_ne (by intro h; rw [h] at hlt; simp at hlt))
      obtain⟨g2,o2,rfl,hc2⟩:=hrR.get (fl_ne (by intro h; rw [h] at hl; rw [hl] at hlt; simp at hlt))
      have rP:∀ {bx:Bx}{hp:List Seg},RdW ⟨w,kys [] []⟩ bx hp g (o+(i:Int).toNat * 2) [str p.1,str p.2]:=fun {_ _}=>RdW.fileE hc (by simp [kys]) hp (by omega)
      have rQ:∀ {bx:Bx}{hp:List Seg},RdW ⟨w,kys [] []⟩ bx hp g2 (o2+(i:Int).toNat * 2) [str q.1,str q.2]:=fun {_ _}=>RdW.fileE hc2 (by simp [kys]) hq (by omega)
      refine At.run 100 true [true] [] rfl oK ?_
      refine At.quiet true [] [hR [str p.1,str p.2],hR [str q.1,str q.2]] ⟨by kernel_rfl,by kernel_rfl,rfl,rfl,rfl⟩ rfl rfl rfl (by and_intros <;> first | exact rP | exact rQ | exact oK) ?_
      by_cases hpq:p=q
      · subst hpq
        refine At.run 100 true [false] [] rfl oK ?_
        refine At.weak (ih _ _ _ _ (by omega) ⟨i+1,rfl,by omega,?_,rfl,rfl,rfl⟩) ⟨rfl,rfl,some_int_eq (by omega),trivial⟩
        rw [List.take_add_one,List.take_add_one,hti,hp,hq]
      · have hd:(!(decide (bl ⟨p.1.toArray⟩=bl ⟨q.1.toArray⟩) && decide (bl ⟨p.2.toArray⟩=bl ⟨q.2.toArray⟩)))=true:=by
          simp only [bl_of]
          obtain⟨p1,p2⟩:=p
          obtain⟨q1,q2⟩:=q
          simp only [Prod.mk.injEq] at hpq
          simp only [Bool.not_eq_true',Bool.and_eq_false_iff,decide_eq_false_iff_not]
          by_cases h1:p1=q1
          · exact .inr fun h2=>hpq ⟨h1,h2⟩
          · exact .inl h1
        refine At.run 100 true [true] [] rfl (by and_intros <;> first | exact hd | exact oK) ?_
        have hF:decide (S=R)=false:=decide_eq_false (by rintro rfl; rw [hp] at hq; exact hpq (Option.some.inj hq))
        exact At.retK [] [] [] rfl rfl Tryz.func20 rfl trivial ⟨by rw [hF]; rfl,rfl,rfl⟩
    · have hSR:S=R:=by
        rw [List.take_of_length_le (by omega),List.take_of_length_le (by omega)] at hti; exact hti
      refine At.run 100 true [false] [] rfl oK ?_
      have hT:decide (S=R)=true:=decide_eq_true hSR
      exact At.retK [] [] [] rfl rfl Tryz.func20 rfl trivial ⟨by rw [hT]; rfl,rfl,rfl⟩
  · have hF:decide (S=R)=false:=decide_eq_false (fun h => hl (by rw [h]))
    refine At.run 100 true [true] [] rfl (by and_intros <;> first | (simp; omega) | exact oK) ?_
    exact At.retK [] [] [] rfl rfl Tryz.func20 rfl trivial ⟨by rw [hF]; rfl,rfl,rfl⟩
def greatS (S:FL):Bool:=decide (60 < S.length) || decide (6000 < (S.map fun p=>min p.2.length 10000+min p.1.length 100).sum)
theorem greatS_lens {S:FL}(h:greatS S=false):S.length≤60∧sumB S≤6000:=by
  unfold greatS at h
  simp only [Bool.or_eq_false_iff,decide_eq_false_iff_not] at h
  refine⟨by omega,?_⟩
  have h2:∀ R:FL,(R.map fun p=>min p.2.length 10000+min p.1.length 100).sum≤6000→sumB R≤(R.map fun p=>min p.2.length 10000+min p.1.length 100).sum:=by
    intro R
    induction R with
    | nil => simp [sumB]
    | cons p R ih =>
      simp only [sumB,List.map_cons,List.sum_cons]
      intro hs
      have:=ih (by omega)
      simp only [sumB] at this
      omega
  have:=h2 S (by omega)
  omega
def capS (S:FL):Nat:=(S.map fun p=>min p.2.length 10000+min p.1.length 100).sum
theorem capS_le (S:FL):capS S≤10100 * S.length:=by
  induction S with
  | nil => simp [capS]
  | cons p S ih => simp only [capS,List.map_cons,List.sum_cons,List.length_cons] at *; omega
theorem Tryz.great9_w (S:FL) (a:Option Addr) (cap:Nat) (w:World) (hlen:S.length≤9223372036854775807) (hrow:SlOk w a (fl S)) (hns:∀ p,p∈S→p.1.length≤9223372036854775807∧p.2.length≤9223372036854775807) :
    Fun Tryz.prog 13 [.slice a S.length cap] w (.bool (greatS S)):=by
  refine Tri.enter (bx:=[]) (hp:=[]) Tryz.func13 rfl (by kernel_rfl) rfl (Own.nil w) ?_
  by_cases hbig:60 < S.length
  · refine At.run 100 true [true] [] rfl oK ?_
    have:greatS S=true:=by simp [greatS,hbig]
    exact At.retK [] [] [] rfl rfl Tryz.func13 rfl trivial ⟨by rw [this]; rfl,rfl,rfl⟩
  refine At.run 100 true [false] [] rfl oK ?_
  refine At.loop (n:=S.length) (env0:=[(0,.slice a S.length cap),(3,.int .i64 0),(4,.int .i64 0)]) (fun m env bx hp => ∃ i:Nat,m=S.length - i∧i≤S.length ∧
    env=[(0,.slice a S.length cap),(3,.int .i64 (capS (S.take i))),(4,.int .i64 i)]∧bx=[]∧hp=[]) rfl ⟨0,by simp,by omega,rfl,rfl,rfl⟩ ⟨rfl,rfl,rfl,trivial⟩ ?_
  rintro m env bx hp ⟨i,rfl,hi,rfl,rfl,rfl⟩ ih
  have hcl:=capS_le (S.take i)
  rw [List.length_take] at hcl
  by_cases hlt:i < S.length
  · obtain⟨p,hp⟩:∃ p,S[i]?=some p:=⟨_,List.getElem?_eq_getElem hlt⟩
    obtain⟨g,o,rfl,hc⟩:=hrow.get (fl_ne (by intro h; rw [h] at hlt; simp at hlt))
    have hpm:=hns p (List.mem_of_getElem? hp)
    have rN:∀ {bx:Bx}{hp:List Seg},RdW ⟨w,kys [] []⟩ bx hp g (o+(i:Int).toNat * 2+0) [str p.1]:=fun {_ _}=>RdW.fileN hc (by simp [kys]) hp (by omega)
    have rB:∀ {bx:Bx}{hp:List Seg},RdW ⟨w,kys [] []⟩ bx hp g (o+(i:Int).toNat * 2+1) [str p.2]:=fun {_ _}=>RdW.fileB hc (by simp [kys]) hp (by omega)
    have h1:(bl ⟨p.1.toArray⟩).length=p.1.length:=by rw [bl_of]
    have h2:(bl ⟨p.2.toArray⟩).length=p.2.length:=by rw [bl_of]
    have hsn:capS (S.take (i+1))=capS (S.take i)+(min p.2.length 10000+min p.1.length 100):=by rw [List.take_add_one,hp]; simp [capS]
    refine At.run 100 true [true] [] rfl oK ?_
    refine At.quiet true [] [hR [str p.2],hR [str p.1]] ⟨by kernel_rfl,by kernel_rfl,rfl,rfl,rfl⟩ rfl rfl rfl (by and_intros <;> first | exact rN | exact rB | exact oK) ?_
    refine At.run 100 true [] [] rfl oK ?_
    refine At.weak (ih _ _ _ _ (by omega) ⟨i+1,rfl,by omega,rfl,rfl,rfl⟩) ⟨rfl,some_int_eq (by omega),some_int_eq (by omega),trivial⟩
  · refine At.run 100 true [false] [] rfl oK ?_
    refine At.retK [] [] [] rfl rfl Tryz.func13 rfl trivial ⟨?_,rfl,rfl⟩
    have h60:decide (60 < S.length)=false:=decide_eq_false (by omega)
    rw [List.take_of_length_le (by omega)]
    simp only [tupV,greatS,h60,Bool.false_or]
    congr 1
    rw [Bool.eq_iff_iff,decide_eq_true_iff,decide_eq_true_iff]
    show (6000:Int) < ((capS S:Nat):Int)↔6000 < capS S
    omega
theorem readN_no {S:FL}{n:List UInt8}(h:∀ p,p∈S→p.1≠n):readN S n=[]:=by
  unfold readN
  rw [List.find?_eq_none.2 (fun p hp=>by simpa using h p hp)]
theorem sum_del (n:List UInt8):∀ {B:FL},(B.map (·.1)).Nodup→sumB (B.filter fun q => !decide (q.1=n))+(readN B n).length=sumB B
  | [],_ => by simp [sumB,readN]
  | q :: B,h => by
    rw [List.map_cons,List.nodup_cons] at h
    rw [readN_cons,sumB_cons]
    by_cases hq:q.1=n
    · have h1:∀ p,p∈B→p.1≠n:=fun p hp e => h.1 (by rw [hq,← e]; exact List.mem_map_of_mem (f:=fun y:List UInt8 × List UInt8 => y.1) hp)
      have h2:B.filter (fun q=>!decide (q.1=n))=B:=List.filter_eq_self.2 (fun p hp=>by simpa using h1 p hp)
      rw [if_pos hq,List.filter_cons_of_neg (by simpa using hq),h2]; omega
    · rw [if_neg hq,List.filter_cons_of_pos (by simpa using hq),sumB_cons]
      have:=sum_del n h.2
      omega
theorem readN_del {n m:List UInt8}(hm:m≠n):∀ B:FL,readN (B.filter fun q => !decide (q.1=n)) m=readN B m
  | [] => rfl
  | q :: B => by
    rw [readN_cons]
    by_cases hq:q.1=n
    · rw [List.filter_cons_of_neg (by simpa using hq),if_neg (by rw [hq]; exact fun e=>hm e.symm)]; exact readN_del hm B
    · rw [List.filter_cons_of_pos (by simpa using hq),readN_cons,readN_del hm B]
theorem del_nodup {n:List UInt8}{B:FL}(h:(B.map (·.1)).Nodup):((B.filter fun q=>!decide (q.1=n)).map (·.1)).Nodup :=
  List.Nodup.sublist (List.Sublist.map _ List.filter_sublist) h
theorem sum_le:∀ {A B:FL},(A.map (·.1)).Nodup→(B.map (·.1)).Nodup→(∀ p,p∈A→0 < p.2.length)→(∀ n,(readN A n).length≤(readN B n).length)→sumB A≤sumB B
  | [],B,_,_,_,_ => by simp [sumB]
  | p :: A,B,hA,hB,hp,hr => by
    rw [List.map_cons,List.nodup_cons] at hA
    have h1:=hr p.1
    rw [readN_cons,if_pos rfl] at h1
    have h2:=sum_del p.1 hB
    have h3:=sum_le hA.2 (del_nodup (n:=p.1) hB) (fun q hq=>hp q (List.mem_cons_of_mem _ hq)) (fun m=>by
      by_cases hm:m=p.1
      · rw [readN_no (S:=A) (fun q hq e=>hA.1 (by rw [← hm,← e]; exact List.mem_map_of_mem (f:=fun y:List UInt8 × List UInt8=>y.1) hq))]; simp
      · have:=hr m
        rw [readN_cons,if_neg (fun e=>hm e.symm)] at this
        rw [readN_del hm]; exact this)
    rw [sumB_cons]
    omega
theorem crash_snoc:∀ (W:List (List UInt8 × Nat × List UInt8)) (T:FL) (K:Nat→Int) (i:Nat) (e:List UInt8 × Nat × List UInt8),crashN T (W++[e]) K i=cutN (crashN T W K i) e.1 e.2.1 e.2.2 (min (max (K (i+W.length)) 0) e.2.2.length)
  | [],T,K,i,(n,a,s) => rfl
  | (m,b,t) :: W,T,K,i,e => by
    have:=crash_snoc W (cutN T m b t (min (max (K i) 0) t.length)) K (i+1) e
    show crashN (cutN T m b t (min (max (K i) 0) t.length)) (W++[e]) K (i+1)=_
    rw [this,List.length_cons,show i+1+W.length=i+(W.length+1) by omega]
    rfl
theorem crash_fok:∀ (W:List (List UInt8 × Nat × List UInt8)) (T:FL) (K:Nat→Int) (i:Nat),FOK T→(∀ e,e∈W→e.2.1+e.2.2.length≤1048576)→FOK (crashN T W K i)
  | [],T,K,i,h,_ => h
  | (n,a,s) :: W,T,K,i,h,hW => crash_fok W _ K (i+1) (h.cut (by omega) (hW (n,a,s) (by simp))) (fun e he => hW e (List.mem_cons_of_mem _ he))
structure PInv (r i:Nat) (FS FK:List FileE) (W:List PendE):Prop where
  hr:r≤1048576
  dS:((nbs FS).map (·.1)).Nodup
  dK:((nbs FK).map (·.1)).Nodup
  fs:FOK (nbs FS)
  fk:FOK (nbs FK)
  used:sumB (nbs FS)≤r
  lS:FS.length≤60+30 * i
  lK:FK.length≤60+30 * i
  wn:W.length≤i
  w:∀ e,e∈W→e.at0+e.s.length≤1048576
  grow:∀ (K:Nat→Int) n,(readN (crashN (nbs FK) (W.map PendE.wn) K 0) n).length≤(readN (nbs FS) n).length
theorem PInv.next {r i:Nat}{FS FK:List FileE}{W:List PendE}(h:PInv r i FS FK W):PInv r (i+1) FS FK W :=
  ⟨h.hr,h.dS,h.dK,h.fs,h.fk,h.used,by have:=h.lS; omega,by have:=h.lK; omega,by have:=h.wn; omega,h.w,h.grow⟩
theorem PInv.calm {r i:Nat}{FS FK:List FileE}(hr:r≤1048576) (hd:((nbs FS).map (·.1)).Nodup) (hp:(nbs FK).Perm (nbs FS)) (hf:FOK (nbs FS)) (hu:sumB (nbs FS)≤r) (hl:FS.length≤60+30 * i):PInv r i FS FK []:=by
  have hl2:FK.length=FS.length:=by have:=hp.length_eq; simpa [nbs] using this
  refine⟨hr,hd,(hp.map (·.1)).nodup_iff.2 hd,hf,hf.perm hp,hu,hl,by omega,by simp,by simp,fun K n=>?_⟩
  show (readN (nbs FK) n).length≤_
  rw [readN_perm ((hp.map (·.1)).nodup_iff.2 hd) hp]
  exact Nat.le_refl _
theorem ordN_len {S:FL}(h:(S.map (·.1)).Nodup):(ordN S).length=S.length:=(ordN_perm h).length_eq
theorem nbs_len (F:List FileE):(nbs F).length=F.length:=by simp [nbs]
theorem getF_bytes {F:List FileE}(hF:FOK (nbs F)) {n:List UInt8}:getF F n=none↔bytesF F n=[]:=by
  unfold bytesF
  cases h:getF F n with
  | none => simp
  | some f =>
    have h1:=(hF _ (mem_nbs (getF_some h).1)).1
    simp only [reduceCtorEq,false_iff]
    intro e
    rw [e] at h1; simp at h1
def wrR (r:Nat) (S:FL) (n:List UInt8) (at0:Int) (s:List UInt8):Int :=
  if namedB n=false∨s=[] then 1
  else if at0 < 0∨((readN S n).length:Int) < at0 then 11
  else if readN S n=[]∧S.length=4096 then 4
  else if r < sumB (setN n (wrB (readN S n) at0.toNat s) S) then 6 else 0
theorem wrE_R {r i:Nat}{FS FK:List FileE}{W:List PendE}(h:PInv r i FS FK W) (n:List UInt8) (at0:Int) (s:List UInt8):wrE r FS n at0 s=wrR r (ordN (nbs FS)) n at0 s:=by
  unfold wrE wrR
  by_cases h1:namedB n=false∨s=[]
  · rw [if_pos h1,if_pos h1]
  rw [if_neg h1,if_neg h1,read_ord h.dS,readN_nbs]
  by_cases h2:at0 < 0∨((bytesF FS n).length:Int) < at0
  · rw [if_pos h2,if_pos h2]
  rw [if_neg h2,if_neg h2]
  have h3:(getF FS n=none∧FS.length=4096)↔(bytesF FS n=[]∧(ordN (nbs FS)).length=4096):=by rw [getF_bytes h.fs,ordN_len h.dS,nbs_len]
  by_cases h4:getF FS n=none∧FS.length=4096
  · rw [if_pos h4,if_pos (h3.1 h4)]
  rw [if_neg h4,if_neg (fun e=>h4 (h3.2 e))]
  have hs:s≠[]:=fun e=>h1 (.inr e)
  rw [← ord_put h.dS (wrB_ne hs),sum_ord (putN_nodup h.dS)]
  have h5:=sumB_putN (nbs FS) (n,wrB (bytesF FS n) at0.toNat s)
  have h6:=wrB_len (bytesF FS n) at0.toNat s
  have h7:=h.used
  simp only [readN_nbs] at h5
  rw [usedF_nbs]
  have hle:(bytesF FS n).length≤sumB (nbs FS):=by
    rw [← readN_nbs]
    rcases @readN_mem (nbs FS) n with h5 | h5
    · rw [h5]; simp
    · exact sumB_mem h5
  split
  · rw [if_pos (by omega)]
  · rw [if_neg (by omega)]
theorem PInv.put {r i:Nat}{FS FK:List FileE}{W:List PendE}(h:PInv r i FS FK W) {n s:List UInt8}{at0:Int}{g c b1 b2 b3:Nat}(he:wrR r (ordN (nbs FS)) n at0 s=0) :
    PInv r (i+1) (putF FS ⟨n,wrB (bytesF FS n) at0.toNat s,g,c⟩) FK (W++[⟨n,at0.toNat,s,b1,b2,b3⟩]):=by
  have hif:s≠[]∧sumB (setN n (wrB (readN (ordN (nbs FS)) n) at0.toNat s) (ordN (nbs FS)))≤r:=by
    unfold wrR at he
    split at he
    · cases he
    · rename_i h1
      split at he
      · cases he
      · split at he
        · cases he
        · split at he
          · cases he
          · exact⟨fun e=>h1 (.inr e),by omega⟩
  obtain⟨hs,hu⟩:=hif
  rw [← ord_put h.dS (wrB_ne hs),sum_ord (putN_nodup h.dS),read_ord h.dS,readN_nbs] at hu
  have hput:nbs (putF FS ⟨n,wrB (bytesF FS n) at0.toNat s,g,c⟩)=putN (nbs FS) (n,wrB (bytesF FS n) at0.toNat s):=putN_nbs _ _
  have hbl:(wrB (bytesF FS n) at0.toNat s).length≤1048576:=by
    have h1:(n,wrB (bytesF FS n) at0.toNat s)∈putN (nbs FS) (n,wrB (bytesF FS n) at0.toNat s):=(putN_mem_iff h.dS _).2 (.inl rfl)
    have h2:=sumB_mem h1
    simp only at h2
    have:=h.hr
    omega
  have hwl:=wrB_len (bytesF FS n) at0.toNat s
  refine⟨h.hr,by rw [hput]; exact putN_nodup h.dS,h.dK,?_,h.fk,by rw [hput]; exact hu,?_,by have:=h.lK; omega,by have:=h.wn; simp; omega,fun e he=>?_,fun K m=>?_⟩
  · rw [hput]
    intro p hp
    rcases putN_mem hp with rfl | hp
    · exact⟨List.length_pos_iff.2 (wrB_ne hs),hbl⟩
    · exact h.fs p hp
  · have h1:=putN_len (nbs FS) (n,wrB (bytesF FS n) at0.toNat s)
    rw [← hput,nbs_len,nbs_len] at h1
    have:=h.lS
    omega
  · rcases List.mem_append.1 he with he | he
    · exact h.w e he
    · simp only [List.mem_singleton] at he
      subst he
      simp only; omega
  · rw [List.map_append,List.map_cons,List.map_nil,crash_snoc,hput,readN_putN]
    have hg:=h.grow K
    simp only [PendE.wn]
    unfold cutN
    by_cases hm:n=m
    · subst hm
      have h1:=hg n
      rw [readN_nbs] at h1
      rw [if_pos rfl]
      simp only [hwl]
      split
      · rw [readN_putN,if_pos rfl]
        simp only [wrB_len,List.length_take]
        omega
      · omega
    · rw [if_neg hm]
      split
      · rw [readN_putN,if_neg hm]; exact hg m
      · exact hg m
theorem PInv.cutP {r i:Nat}{FS FK F2:List FileE}{W:List PendE}(h:PInv r i FS FK W) {n:List UInt8}{m g c:Nat}(hm:0 < m) (hl:m < (bytesF FS n).length) (h2:(nbs F2).Perm (nbs (putF FS ⟨n,(bytesF FS n).take m,g,c⟩))):PInv r (i+1) (putF FS ⟨n,(bytesF FS n).take m,g,c⟩) F2 []:=by
  have hput:nbs (putF FS ⟨n,(bytesF FS n).take m,g,c⟩)=putN (nbs FS) (n,(bytesF FS n).take m):=putN_nbs _ _
  have h5:=sumB_putN (nbs FS) (n,(bytesF FS n).take m)
  simp only [readN_nbs,List.length_take] at h5
  have h6:=h.used
  have h8:=h.fs.read n
  rw [readN_nbs] at h8
  refine PInv.calm h.hr (by rw [hput]; exact putN_nodup h.dS) h2 ?_ (by rw [hput]; omega) ?_
  · rw [hput]
    intro p hp
    rcases putN_mem hp with rfl | hp
    · simp only [List.length_take]; omega
    · exact h.fs p hp
  · have h1:=putN_len (nbs FS) (n,(bytesF FS n).take m)
    rw [← hput,nbs_len,nbs_len] at h1
    have:=h.lS
    omega
theorem delF_nbs {F:List FileE}(hd:((nbs F).map (·.1)).Nodup) (n:List UInt8):nbs (delF F n)=(nbs F).filter fun q=>!decide (q.1=n):=by
  induction F with
  | nil => rfl
  | cons f F ih =>
    have hd0:=hd
    simp only [nbs,List.map_cons,List.nodup_cons] at hd
    have ih:=ih hd.2
    unfold delF at ih ⊢
    rw [List.findIdx?_cons]
    by_cases hf:f.name=n
    · have h1:∀ p,p∈nbs F→p.1≠n:=fun p hp e=>hd.1 (by
        show f.name∈_
        rw [hf,← e]; exact List.mem_map_of_mem (f:=fun y:List UInt8 × List UInt8=>y.1) hp)
      have h2:(nbs F).filter (fun q=>!decide (q.1=n))=nbs F:=List.filter_eq_self.2 (fun p hp=>by simpa using h1 p hp)
      simp only [hf,decide_true,if_true]
      show nbs F=List.filter _ (f.nb :: nbs F)
      rw [List.filter_cons_of_neg (by simp [FileE.nb,hf]),h2]
    · simp only [hf,decide_false,Bool.false_eq_true,if_false]
      show _=List.filter _ (f.nb :: nbs F)
      rw [List.filter_cons_of_pos (by simp [FileE.nb,hf]),← ih]
      cases List.findIdx? (fun x=>decide (x.name=n)) F <;> rfl
theorem PInv.cut0 {r i:Nat}{FS FK F2:List FileE}{W:List PendE}(h:PInv r i FS FK W) {n:List UInt8}(h2:(nbs F2).Perm (nbs (delF FS n))):PInv r (i+1) (delF FS n) F2 []:=by
  have hput:=delF_nbs h.dS n
  have h5:=sum_del n h.dS
  have h6:=h.used
  refine PInv.calm h.hr (by rw [hput]; exact del_nodup h.dS) h2 ?_ (by rw [hput]; omega) ?_
  · rw [hput]
    intro p hp
    exact h.fs p (List.mem_filter.1 hp).1
  · have h1:=(@delF_sub FS n).length_le
    have:=h.lS
    omega
end Go.Proofs
namespace Go.Eng
open Go
theorem putL_get {α:Type}{ys l:List α}{i:Nat}(h:i+ys.length≤l.length) (j:Nat):(putL l i ys)[j]?=if i≤j∧j < i+ys.length then ys[j - i]? else l[j]?:=by
  rw [putL_gen ys l i h,List.append_assoc]
  by_cases h1:j < i
  · rw [List.getElem?_append_left (by rw [List.length_take]; omega),List.getElem?_take_of_lt h1,if_neg (by omega)]
  · have e:(l.take i).length=i:=by rw [List.length_take]; omega
    by_cases h2:j < i+ys.length
    · rw [List.getElem?_append_right (by omega),List.getElem?_append_left (by omega),if_pos (by omega),e]
    · rw [List.getElem?_append_right (by omega),List.getElem?_append_right (by omega),List.getElem?_drop,if_neg (by omega),e]
      congr 1; omega
theorem wrB_get (old:List UInt8) (at0:Nat) (s:List UInt8) (j:Nat) (hj:j < max old.length (at0+s.length)) :
    (wrB old at0 s)[j]?=if at0≤j∧j < at0+s.length then s[j - at0]? else if j < old.length then old[j]? else some 0:=by
  unfold wrB
  rw [putL_get (by rw [putL_len,List.length_replicate]; omega),putL_get (by rw [List.length_replicate]; omega)]
  split
  · rfl
  · simp only [Nat.zero_le,true_and,Nat.zero_add,Nat.sub_zero]
    split
    · rfl
    · rw [List.getElem?_replicate,if_pos hj]
end Go.Eng
namespace Go.Proofs
open Go Go.Eng
set_option maxRecDepth 100000
set_option maxHeartbeats 4000000
attribute [local irreducible] Tri
structure DInv (r k:Nat) (FS FK:List FileE) (W:List PendE):Prop where
  p:PInv r (5000+k) FS FK W
  lS:FS.length≤4096
  lK:FK.length≤4096
  wk:W.length≤k
theorem putF_len_hit {F:List FileE}{f:FileE}(h:getF F f.name≠none):(putF F f).length=F.length:=by
  unfold putF
  cases hi:F.findIdx? (fun x=>decide (x.name=f.name)) with
  | some i => simp
  | none =>
    exfalso
    apply h
    rw [List.findIdx?_eq_none_iff] at hi
    exact List.find?_eq_none.2 fun x hx=>by have:=hi x hx; simpa using this
theorem putF_len_le (F:List FileE) (f:FileE):(putF F f).length≤F.length+1:=by
  unfold putF
  split <;> simp
theorem DInv.put {r k:Nat}{FS FK:List FileE}{W:List PendE}(h:DInv r k FS FK W) {n s:List UInt8}{at0:Int}{g c b1 b2 b3:Nat}(he:wrR r (ordN (nbs FS)) n at0 s=0) :
    DInv r (k+1) (putF FS ⟨n,wrB (bytesF FS n) at0.toNat s,g,c⟩) FK (W++[⟨n,at0.toNat,s,b1,b2,b3⟩]):=by
  refine⟨h.p.put he,?_,h.lK,by have:=h.wk; simp; omega⟩
  have hR:=wrE_R h.p n at0 s
  rw [he] at hR
  have h4:¬ (getF FS n=none∧FS.length=4096):=by
    intro hc
    unfold wrE at hR
    split at hR
    · cases hR
    · split at hR
      · cases hR
      · cases hR
  have hl:=h.lS
  by_cases hg:getF FS n=none
  · have:=putF_len_le FS ⟨n,wrB (bytesF FS n) at0.toNat s,g,c⟩
    have:FS.length≠4096:=fun e=>h4 ⟨hg,e⟩
    omega
  · rw [putF_len_hit (f:=⟨n,wrB (bytesF FS n) at0.toNat s,g,c⟩) hg]; exact hl
theorem DInv.next {r k:Nat}{FS FK:List FileE}{W:List PendE}(h:DInv r k FS FK W):DInv r (k+1) FS FK W:=⟨h.p.next,h.lS,h.lK,by have:=h.wk; omega⟩
theorem DInv.calm {r k:Nat}{FS FK:List FileE}(hr:r≤1048576) (hd:((nbs FS).map (·.1)).Nodup) (hp:(nbs FK).Perm (nbs FS)) (hf:FOK (nbs FS)) (hu:sumB (nbs FS)≤r) (hl:FS.length≤4096):DInv r k FS FK []:=by
  have h2:FK.length=FS.length:=by have:=hp.length_eq; simpa [nbs] using this
  exact⟨PInv.calm hr hd hp hf hu (by omega),hl,by omega,Nat.zero_le _⟩
theorem DInv.up {r k:Nat}{FS FK:List FileE}(h:DInv r 0 FS FK []):DInv r k FS FK [] :=
  ⟨⟨h.p.hr,h.p.dS,h.p.dK,h.p.fs,h.p.fk,h.p.used,by have:=h.lS; omega,by have:=h.lK; omega,Nat.zero_le _,h.p.w,h.p.grow⟩,h.lS,h.lK,Nat.zero_le _⟩
theorem DInv.sync {r k:Nat}{FS FK F2:List FileE}{W:List PendE}(h:DInv r k FS FK W) (h2:(nbs F2).Perm (nbs FS)):DInv r 0 FS F2 [] :=
  DInv.calm h.p.hr h.p.dS h2 h.p.fs h.p.used h.lS
theorem DInv.cutP {r k:Nat}{FS FK F2:List FileE}{W:List PendE}(h:DInv r k FS FK W) {n:List UInt8}{m g c:Nat}(hm:0 < m) (hl:m < (bytesF FS n).length) (h2:(nbs F2).Perm (nbs (putF FS ⟨n,(bytesF FS n).take m,g,c⟩))):DInv r 0 (putF FS ⟨n,(bytesF FS n).take m,g,c⟩) F2 []:=by
  have hp:=h.p.cutP hm hl h2
  refine DInv.calm hp.hr hp.dS h2 hp.fs hp.used ?_
  have hg:getF FS n≠none:=fun e=>by
    have:=(getF_bytes h.p.fs).1 e
    rw [this] at hl; simp at hl
  rw [putF_len_hit (f:=⟨n,(bytesF FS n).take m,g,c⟩) hg]
  exact h.lS
theorem DInv.cut0 {r k:Nat}{FS FK F2:List FileE}{W:List PendE}(h:DInv r k FS FK W) {n:List UInt8}(h2:(nbs F2).Perm (nbs (delF FS n))):DInv r 0 (delF FS n) F2 []:=by
  have hp:=h.p.cut0 h2
  refine DInv.calm hp.hr hp.dS h2 hp.fs hp.used ?_
  have h1:=(@delF_sub FS n).length_le
  have:=h.lS
  omega
theorem nodup_len:∀ {A B:List (List UInt8)},A.Nodup→(∀ x,x∈A→x∈B)→A.length≤B.length
  | [],_,_,_ => Nat.zero_le _
  | x :: A,B,h,hs => by
    rw [List.nodup_cons] at h
    have hx:=hs x (by simp)
    have h1:=nodup_len (A:=A) (B:=B.erase x) h.2 fun y hy=>by
      have hne:y≠x:=fun e=>h.1 (e ▸ hy)
      exact (List.mem_erase_of_ne hne).2 (hs y (List.mem_cons_of_mem _ hy))
    rw [List.length_erase_of_mem hx] at h1
    have:=List.length_pos_of_mem hx
    simp only [List.length_cons]; omega
theorem DInv.crash {r k:Nat}{FS FK F2 F3:List FileE}{W:List PendE}(h:DInv r k FS FK W) (K:Nat→Int) (h2:nbs F2=crashN (nbs FK) (W.map PendE.wn) K 0) (h3:(nbs F3).Perm (nbs F2)):DInv r 0 F3 F2 []:=by
  have hd2:((nbs F2).map (·.1)).Nodup:=by rw [h2]; exact (ord_crash _ _ K 0 h.p.dK).2
  have hf2:FOK (nbs F2):=by rw [h2]; exact crash_fok _ _ K 0 h.p.fk (fun e he=>by obtain⟨x,hx,rfl⟩:=List.mem_map.1 he; exact h.p.w x hx)
  have hd3:((nbs F3).map (·.1)).Nodup:=(h3.map (·.1)).nodup_iff.2 hd2
  refine DInv.calm h.p.hr hd3 h3.symm (hf2.perm h3) ?_ ?_
  · rw [sumB_perm h3,h2]
    refine Nat.le_trans (sum_le (by rw [← h2]; exact hd2) h.p.dS (fun p hp=>((h2 ▸ hf2) p hp).1) (h.p.grow K)) h.p.used
  · have h4:=h3.length_eq
    rw [nbs_len] at h4
    have h5:((nbs F2).map (·.1)).length≤((nbs FS).map (·.1)).length:=nodup_len hd2 fun x hx=>by
      obtain⟨p,hp,rfl⟩:=List.mem_map.1 hx
      have h6:=h.p.grow K p.1
      rw [← h2,readN_at hd2 hp] at h6
      have h7:=(hf2 p hp).1
      rcases @readN_mem (nbs FS) p.1 with h8 | h8
      · rw [h8,List.length_nil] at h6; omega
      · exact List.mem_map.2 ⟨_,h8,rfl⟩
    simp only [List.length_map,nbs_len] at h5 h4
    have:=h.lS
    omega
end Go.Proofs

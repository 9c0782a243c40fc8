/-
  Walks of layer 8 and of its document: a header's bytes, its hash, the chain of headers.
-/
import Derived.Test.YtibdpdlghibijaaGreatDoorMP16
import Derived.Test.YtibdpdlghibijaaGreatDoorMP7
import Derived.Test.YtibdpdlghibijaaGreatDoorMP22
import Derived.Test.YtibdpdlghibijaaGreatDoorMP24
import Derived.Test.YtibdpdlghibijaaGreatDoorMP28
import Derived.Test.YtibdpdlghibijaaGreatDoorMP25
import Derived.Test.YtibdpdlghibijaaGreatDoorMP12
namespace Go.Proofs
open Go Go.Eng
set_option maxRecDepth 100000
set_option maxHeartbeats 4000000
attribute [local irreducible] Tri
theorem Tryz.nrow_w (s:List UInt8) (w:World) (hs:s.length≤1000000):Fun Tryz.prog 124 [str s] w (str (rowL s)):=by
  have fN:∀ {S:Base}{bx:Bx}{hp:List Seg},CallOb Tryz.prog S bx hp 123 [.int .u64 ((bl ⟨s.toArray⟩).length:Nat)] (str (numL s.length)):=fun {_ _ _} w' _=>by
    rw [bl_of]; exact Tryz.num_w s.length (by omega) w'
  have hnl:=numL_len10 s.length (by omega)
  refine Tri.enter (bx:=[]) (hp:=[]) Tryz.func124 rfl (by kernel_rfl) rfl (Own.nil w) ?_
  refine At.go [] [hC (.string { data:=(numL s.length).toArray })] rfl (by and_intros <;> first | exact fN | (rw [bl_of]; omega) | (simp only [bl_of]; omega) | exact oK) ?_
  refine At.rt [] [] [] Tryz.func124 ?_
  exact⟨by simp only [bl_of]; rfl,rfl,rfl⟩
theorem Tryz.rrow_w (s:List UInt8) (w:World) (hs:s.length≤1000000):Fun Tryz.prog 104 [str s] w (str (rowL s)):=by
  have fN:∀ {S:Base}{bx:Bx}{hp:List Seg},CallOb Tryz.prog S bx hp 129 [.int .u64 ((bl ⟨s.toArray⟩).length:Nat)] (str (numL s.length)):=fun {_ _ _} w' _=>by
    rw [bl_of]; exact Tryz.rnum_w s.length (by omega) w'
  have hnl:=numL_len10 s.length (by omega)
  refine Tri.enter (bx:=[]) (hp:=[]) Tryz.func104 rfl (by kernel_rfl) rfl (Own.nil w) ?_
  refine At.go [] [hC (.string { data:=(numL s.length).toArray })] rfl (by and_intros <;> first | exact fN | (rw [bl_of]; omega) | (simp only [bl_of]; omega) | exact oK) ?_
  refine At.rt [] [] [] Tryz.func104 ?_
  exact⟨by simp only [bl_of]; rfl,rfl,rfl⟩
theorem rowL_len (s:List UInt8) (h:s.length≤1000):(rowL s).length≤1010:=by
  unfold rowL; rw [List.length_append]; have:=numL_len10 s.length (by omega); omega
theorem numZ {P:Program}{f:FuncId}{x:Int}(h:∀ (n:Nat),n < 18446744073709551616→∀ w,Fun P f [.int .u64 n] w (str (numL n))) (h0:0≤x) (h1:x≤1099511627776) (w:World):Fun P f [.int .u64 x] w (str (numL x.toNat)):=by
  have:=h x.toNat (by omega) w
  rwa [show ((x.toNat:Nat):Int)=x by omega] at this
theorem Tryz.hPut_w (x:HdB) (n:Nat) (w:World) (hm:mayH x n=true) (hn:n≤32):Fun Tryz.prog 96 [.agg ⟨hdC x⟩] w (str (putH x)):=by
  obtain⟨x1,x2,x3,x4,x5,x6⟩:=x
  obtain⟨h1,h2,h3,h4,h5,h6,h7,h8,h9,h10⟩:=mayH_in hm
  simp only at h1 h2 h3 h4 h5 h6 h7 h8 h9 h10
  have fN:∀ {S:Base}{bx:Bx}{hp:List Seg}{z:Int},0≤z→z≤1099511627776→CallOb Tryz.prog S bx hp 123 [.int .u64 z] (str (numL z.toNat)):=fun {_ _ _ _} h0 h1 w' _=>numZ (fun n hn w=>Tryz.num_w n hn w) h0 h1 w'
  have fR:∀ {S:Base}{bx:Bx}{hp:List Seg}{s:List UInt8},s.length≤1000→CallOb Tryz.prog S bx hp 124 [str s] (str (rowL s)):=fun {_ _ _ _} h w' _=>Tryz.nrow_w _ w' (by omega)
  have q1:=numL_len10 x1.toNat (by omega)
  have q2:=numL_len10 x2.toNat (by omega)
  have q3:=numL_len10 x3.toNat (by omega)
  have q4:=numL_len10 x4.toNat (by omega)
  have q5:=rowL_len x5 (by omega)
  have q6:=rowL_len x6 (by omega)
  rw [show hdC ⟨x1,x2,x3,x4,x5,x6⟩=[.int .i64 x1,.int .i64 x2,.int .i64 x3,.int .i64 x4,str x5,str x6] from rfl]
  refine Tri.enter (bx:=[]) (hp:=[]) Tryz.func96 rfl (by kernel_rfl) rfl (Own.nil w) ?_
  refine At.go [] [] rfl (by and_intros <;> first | exact trivial | exact oK) ?_
  refine At.bo fun b1 hb1=>?_
  refine At.go [] [hB 0,hB 0,hB 0,hB 0] rfl (by and_intros <;> first | exact trivial | exact oK) ?_
  refine At.step [] rfl rfl rfl rfl rfl trivial (OpOk.buildSlice rfl rfl rfl rfl rfl rfl rfl (fun bs hbs=>?_))
  refine At.go [] [] rfl (by and_intros <;> first | exact trivial | exact oK) ?_
  refine At.unr ?_
  refine At.go [true] [hB 0,hC (.string { data:=(numL x1.toNat).toArray })] rfl (by and_intros <;> first | exact fN (by omega) (by omega) | (simp; omega) | exact oK) ?_
  refine At.una ?_
  refine At.go [true] [hB 0,hC (.string { data:=(numL x2.toNat).toArray })] rfl (by and_intros <;> first | exact fN (by omega) (by omega) | (simp; omega) | exact oK) ?_
  refine At.una ?_
  refine At.go [true] [hB 0,hC (.string { data:=(numL x3.toNat).toArray })] rfl (by and_intros <;> first | exact fN (by omega) (by omega) | (simp; omega) | exact oK) ?_
  refine At.una ?_
  refine At.go [true] [hB 0,hC (.string { data:=(numL x4.toNat).toArray })] rfl (by and_intros <;> first | exact fN (by omega) (by omega) | (simp; omega) | exact oK) ?_
  refine At.una ?_
  refine At.go [false] [] rfl (by and_intros <;> first | exact fR (by omega) | (simp; omega) | exact oK) ?_
  refine At.qt [] [hB 1,hC (.string { data:=(rowL x5).toArray }),hB 1,hC (.string { data:=(rowL x6).toArray })] rfl rfl (by and_intros <;> first | exact fR (by omega) | (simp; omega) | exact oK) ?_
  refine At.go [] [] rfl (by and_intros <;> first | exact fR (by omega) | (simp; omega) | exact oK) ?_
  refine At.rt [] [] [] Tryz.func96 ?_
  exact⟨by simp only [bl_of,tupV,putH,List.nil_append]; rfl,rfl,rfl⟩
theorem putH_len {x:HdB}{n:Nat}(hm:mayH x n=true) (hn:n≤32):(putH x).length≤10000:=by
  obtain⟨h1,h2,h3,h4,h5,h6,h7,h8,h9,h10⟩:=mayH_in hm
  have q1:=numL_len10 x.i.toNat (by omega)
  have q2:=numL_len10 x.f.toNat (by omega)
  have q3:=numL_len10 x.c.toNat (by omega)
  have q4:=numL_len10 x.b.toNat (by omega)
  have q5:=rowL_len x.p (by omega)
  have q6:=rowL_len x.r (by omega)
  unfold putH
  simp only [List.length_append]; omega
theorem Tryz.rhPut_w (x:HdB) (n:Nat) (w:World) (hm:mayH x n=true) (hn:n≤32):Fun Tryz.prog 105 [.agg ⟨hdC x⟩] w (str (putH x)):=by
  obtain⟨x1,x2,x3,x4,x5,x6⟩:=x
  obtain⟨h1,h2,h3,h4,h5,h6,h7,h8,h9,h10⟩:=mayH_in hm
  simp only at h1 h2 h3 h4 h5 h6 h7 h8 h9 h10
  have fN:∀ {S:Base}{bx:Bx}{hp:List Seg}{z:Int},0≤z→z≤1099511627776→CallOb Tryz.prog S bx hp 129 [.int .u64 z] (str (numL z.toNat)):=fun {_ _ _ _} h0 h1 w' _=>numZ (fun n hn w=>Tryz.rnum_w n hn w) h0 h1 w'
  have fR:∀ {S:Base}{bx:Bx}{hp:List Seg}{s:List UInt8},s.length≤1000→CallOb Tryz.prog S bx hp 104 [str s] (str (rowL s)):=fun {_ _ _ _} h w' _=>Tryz.rrow_w _ w' (by omega)
  have q1:=numL_len10 x1.toNat (by omega)
  have q2:=numL_len10 x2.toNat (by omega)
  have q3:=numL_len10 x3.toNat (by omega)
  have q4:=numL_len10 x4.toNat (by omega)
  have q5:=rowL_len x5 (by omega)
  have q6:=rowL_len x6 (by omega)
  rw [show hdC ⟨x1,x2,x3,x4,x5,x6⟩=[.int .i64 x1,.int .i64 x2,.int .i64 x3,.int .i64 x4,str x5,str x6] from rfl]
  refine Tri.enter (bx:=[]) (hp:=[]) Tryz.func105 rfl (by kernel_rfl) rfl (Own.nil w) ?_
  refine At.go [] [] rfl (by and_intros <;> first | exact fN (by omega) (by omega) | exact fR (by omega) | (simp; omega) | exact oK) ?_
  refine At.bo fun b1 hb1=>?_
  refine At.go [] [] rfl (by and_intros <;> first | exact fN (by omega) (by omega) | exact fR (by omega) | (simp; omega) | exact oK) ?_
  refine At.qt [] [hB 0,hC (.string { data:=(numL x1.toNat).toArray }),hB 0,hC (.string { data:=(numL x2.toNat).toArray }),hB 0,hC (.string { data:=(numL x3.toNat).toArray }),hB 0,hC (.string { data:=(numL x4.toNat).toArray }),hB 0,hC (.string { data:=(rowL x5).toArray }),hB 0,hC (.string { data:=(rowL x6).toArray })] rfl rfl (by and_intros <;> first | exact fN (by omega) (by omega) | exact fR (by omega) | (simp; omega) | exact oK) ?_
  refine At.go [] [] rfl (by and_intros <;> first | exact fN (by omega) (by omega) | exact fR (by omega) | (simp; omega) | exact oK) ?_
  refine At.rt [] [] [] Tryz.func105 ?_
  exact⟨by simp only [bl_of,tupV,putH]; rfl,rfl,rfl⟩
theorem Tryz.hHash_w (x:HdB) (n:Nat) (w:World) (hm:mayH x n=true) (hn:1≤n∧n≤32) (hS:Tryz.Sha w):Fun Tryz.prog 56 [.agg ⟨hdC x⟩,.int .i64 n] w (str (hashH n x)):=by
  have hl:=putH_len hm hn.2
  have fP:∀ {S:Base}{bx:Bx}{hp:List Seg},CallOb Tryz.prog S bx hp 96 [.agg ⟨hdC x⟩] (str (putH x)):=fun {_ _ _} w' _=>Tryz.hPut_w x n w' hm hn.2
  have fC:∀ {bx:Bx}{hp:List Seg},CallOb Tryz.prog ⟨w,kys [] []⟩ bx hp 101 [str (putH x),.int .i64 n] (.tuple #[str (cutH n (putH x)),.int .i64 0]):=fun {_ _} w' hw'=>Tryz.Cut_w _ n w' (by omega) hn.1 hn.2 (Tryz.sha_ext hS hw'.ext)
  refine Tri.enter (bx:=[]) (hp:=[]) Tryz.func56 rfl (by kernel_rfl) rfl (Own.nil w) ?_
  refine At.go [] [] rfl (by and_intros <;> first | exact fP | exact fC | exact oK) ?_
  refine At.bo fun b2 hb2=>?_
  refine At.go [] [hB 0,hC (.string { data:=(putH x).toArray }),hC (.tuple { toList:=[.string { data:=(cutH n (putH x)).toArray },.int .i64 0] })] rfl (by and_intros <;> first | exact fP | exact fC | exact oK) ?_
  refine At.rt [] [] [] Tryz.func56 ?_
  exact⟨rfl,rfl,rfl⟩
theorem Tryz.hFirst_w (n:Nat) (w:World) (hn:1≤n∧n≤32) (hS:Tryz.Sha w):Fun Tryz.prog 55 [.int .i64 n] w (str (cutH n [])):=by
  have fC:∀ {bx:Bx}{hp:List Seg},CallOb Tryz.prog ⟨w,kys [] []⟩ bx hp 101 [str [],.int .i64 n] (.tuple #[str (cutH n []),.int .i64 0]):=fun {_ _} w' hw'=>Tryz.Cut_w _ n w' (by decide) hn.1 hn.2 (Tryz.sha_ext hS hw'.ext)
  refine Tri.enter (bx:=[]) (hp:=[]) Tryz.func55 rfl (by kernel_rfl) rfl (Own.nil w) ?_
  refine At.go [] [hC (.tuple { toList:=[.string { data:=(cutH n []).toArray },.int .i64 0] })] rfl (by and_intros <;> first | exact fC | exact oK) ?_
  refine At.rt [] [] [] Tryz.func55 ?_
  exact⟨rfl,rfl,rfl⟩
theorem Tryz.rhHash_w (x:HdB) (n:Nat) (w:World) (hm:mayH x n=true) (hn:n≤32):Fun Tryz.prog 106 [.agg ⟨keyC⟩,.agg ⟨hdC x⟩,.int .i64 n] w (str (hashH n x)):=by
  have hl:=putH_len hm hn
  have fP:∀ {S:Base}{bx:Bx}{hp:List Seg},CallOb Tryz.prog S bx hp 105 [.agg ⟨hdC x⟩] (str (putH x)):=fun {_ _ _} w' _=>Tryz.rhPut_w x n w' hm hn
  have fC:∀ {S:Base}{bx:Bx}{hp:List Seg},CallOb Tryz.prog S bx hp 79 [.agg ⟨keyC⟩,str (putH x),.int .i64 n] (str (cutH n (putH x))):=fun {_ _ _} w' _=>Tryz.rCut_w _ n w' (by omega) hn
  refine Tri.enter (bx:=[]) (hp:=[]) Tryz.func106 rfl (by kernel_rfl) rfl (Own.nil w) ?_
  refine At.go [] [] rfl (by and_intros <;> first | exact fP | exact fC | exact Tryz.key_ld (i:=1) rfl | exact oK) ?_
  refine At.bo fun b3 hb3=>?_
  refine At.bo fun b4 hb4=>?_
  refine At.go [] [] rfl (by and_intros <;> first | exact fP | exact fC | exact Tryz.key_ld (i:=1) rfl | exact oK) ?_
  refine At.qt [] [hK (.agg { toList:=keyC }),hB 0,hC (.string { data:=(putH x).toArray }),hC (.string { data:=(cutH n (putH x)).toArray })] rfl rfl (by and_intros <;> first | exact fP | exact fC | exact Tryz.key_ld (i:=1) rfl | exact oK) ?_
  refine At.go [] [] rfl (by and_intros <;> first | exact fP | exact fC | exact Tryz.key_ld (i:=1) rfl | exact oK) ?_
  refine At.rt [] [] [] Tryz.func106 ?_
  exact⟨rfl,rfl,rfl⟩
def mayCf (c1 c2 c3 c4:Int):Bool:=decide (1≤c1∧c1≤64∧1≤c2∧c2≤32∧0≤c3∧c3≤1000∧0≤c4∧c4≤1048576)
theorem Tryz.lwithin_w (n a b:Int) (w:World):Fun Tryz.prog 76 [.int .i64 n,.int .i64 a,.int .i64 b] w (.bool (decide (a≤n) && decide (n≤b))):=by
  refine Tri.enter (bx:=[]) (hp:=[]) Tryz.func76 rfl (by kernel_rfl) rfl (Own.nil w) ?_
  cases h:decide (a≤n) with
  | false =>
    refine At.go [false] [] rfl (by and_intros <;> first | exact h | exact oK) ?_
    refine At.rt [] [] [] Tryz.func76 ?_
    exact⟨by simp [tupV],rfl,rfl⟩
  | true =>
    refine At.go [true] [] rfl (by and_intros <;> first | exact h | exact oK) ?_
    refine At.rt [] [] [] Tryz.func76 ?_
    exact⟨by simp [tupV],rfl,rfl⟩
theorem mayCf_in {c1 c2 c3 c4:Int}(h:mayCf c1 c2 c3 c4=true):1≤c1∧c1≤64∧1≤c2∧c2≤32∧0≤c3∧c3≤1000∧0≤c4∧c4≤1048576:=of_decide_eq_true h
theorem Tryz.logMay_w (c1 c2 c3 c4:Int) (w:World):Fun Tryz.prog 40 [.agg ⟨[.int .i64 c1,.int .i64 c2,.int .i64 c3,.int .i64 c4]⟩] w (.bool (mayCf c1 c2 c3 c4)):=by
  have fW:∀ {S:Base}{bx:Bx}{hp:List Seg}{n a b:Int},CallOb Tryz.prog S bx hp 76 [.int .i64 n,.int .i64 a,.int .i64 b] (.bool (decide (a≤n) && decide (n≤b))):=fun {_ _ _ _ _ _} w' _=>Tryz.lwithin_w _ _ _ w'
  obtain⟨d1,h1⟩:∃ d,(decide (1≤c1) && decide (c1≤64))=d:=⟨_,rfl⟩
  obtain⟨d2,h2⟩:∃ d,(decide (1≤c2) && decide (c2≤32))=d:=⟨_,rfl⟩
  obtain⟨d3,h3⟩:∃ d,(decide (0≤c3) && decide (c3≤1000))=d:=⟨_,rfl⟩
  obtain⟨d4,h4⟩:∃ d,(decide (0≤c4) && decide (c4≤1048576))=d:=⟨_,rfl⟩
  have hm:mayCf c1 c2 c3 c4=(d1 && d2 && d3 && d4):=by
    rw [← h1,← h2,← h3,← h4,Bool.eq_iff_iff]
    unfold mayCf
    simp only [Bool.and_eq_true,decide_eq_true_iff]
    exact⟨fun ⟨a,b,c,d,e,f,g,h⟩ =>⟨⟨⟨⟨a,b⟩,c,d⟩,e,f⟩,g,h⟩,fun ⟨⟨⟨⟨a,b⟩,c,d⟩,e,f⟩,g,h⟩ =>⟨a,b,c,d,e,f,g,h⟩⟩
  rw [hm]
  have f1:∀ {S:Base}{bx:Bx}{hp:List Seg},CallOb Tryz.prog S bx hp 76 [.int .i64 c1,.int .i64 1,.int .i64 64] (.bool d1):=fun {_ _ _}=>by rw [← h1]; exact fW
  have f2:∀ {S:Base}{bx:Bx}{hp:List Seg},CallOb Tryz.prog S bx hp 76 [.int .i64 c2,.int .i64 1,.int .i64 32] (.bool d2):=fun {_ _ _}=>by rw [← h2]; exact fW
  have f3:∀ {S:Base}{bx:Bx}{hp:List Seg},CallOb Tryz.prog S bx hp 76 [.int .i64 c3,.int .i64 0,.int .i64 1000] (.bool d3):=fun {_ _ _}=>by rw [← h3]; exact fW
  have f4:∀ {S:Base}{bx:Bx}{hp:List Seg},CallOb Tryz.prog S bx hp 76 [.int .i64 c4,.int .i64 0,.int .i64 1048576] (.bool d4):=fun {_ _ _}=>by rw [← h4]; exact fW
  clear h1 h2 h3 h4 hm fW
  refine Tri.enter (bx:=[]) (hp:=[]) Tryz.func40 rfl (by kernel_rfl) rfl (Own.nil w) ?_
  cases d1 with
  | false =>
    refine At.go [] [] rfl (by and_intros <;> first | exact f1 | exact oK) ?_
    refine At.bo fun b1 hb1=>?_
    refine At.go [false,false,false] [hB 0,hC (.bool false)] rfl (by and_intros <;> first | exact f1 | exact oK) ?_
    refine At.rt [] [] [] Tryz.func40 ?_
    exact⟨rfl,rfl,rfl⟩
  | true =>
    cases d2 with
    | false =>
      refine At.go [] [] rfl (by and_intros <;> first | exact f1 | exact f2 | exact oK) ?_
      refine At.bo fun b1 hb1=>?_
      refine At.go [true,false,false] [hB 0,hC (.bool true),hB 0,hC (.bool false)] rfl (by and_intros <;> first | exact f1 | exact f2 | exact oK) ?_
      refine At.rt [] [] [] Tryz.func40 ?_
      exact⟨rfl,rfl,rfl⟩
    | true =>
      cases d3 with
      | false =>
        refine At.go [] [] rfl (by and_intros <;> first | exact f1 | exact f2 | exact f3 | exact oK) ?_
        refine At.bo fun b1 hb1=>?_
        refine At.go [true,true,false] [hB 0,hC (.bool true),hB 0,hC (.bool true),hB 0,hC (.bool false)] rfl (by and_intros <;> first | exact f1 | exact f2 | exact f3 | exact oK) ?_
        refine At.rt [] [] [] Tryz.func40 ?_
        exact⟨rfl,rfl,rfl⟩
      | true =>
        refine At.go [] [] rfl (by and_intros <;> first | exact f1 | exact f2 | exact f3 | exact f4 | exact oK) ?_
        refine At.bo fun b1 hb1=>?_
        refine At.go [true,true,true] [hB 0,hC (.bool true),hB 0,hC (.bool true),hB 0,hC (.bool true),hB 0,hC (.bool d4)] rfl (by and_intros <;> first | exact f1 | exact f2 | exact f3 | exact f4 | exact oK) ?_
        refine At.rt [] [] [] Tryz.func40 ?_
        exact⟨rfl,rfl,rfl⟩
theorem Tryz.r19May_w (c1 c2 c3 c4:Int) (w:World):Fun Tryz.prog 10 [.agg ⟨[.int .i64 c1,.int .i64 c2,.int .i64 c3,.int .i64 c4]⟩] w (.bool (mayCf c1 c2 c3 c4)):=by
  refine Tri.enter (bx:=[]) (hp:=[]) Tryz.func10 rfl (by kernel_rfl) rfl (Own.nil w) ?_
  by_cases h1:1≤c1
  · by_cases h2:c1≤64
    · by_cases h3:1≤c2
      · by_cases h4:c2≤32
        · by_cases h5:0≤c3
          · by_cases h6:c3≤1000
            · by_cases h7:0≤c4
              · refine At.go [] [] rfl (by and_intros <;> first | exact decide_eq_true h1 | exact decide_eq_true h2 | exact decide_eq_true h3 | exact decide_eq_true h4 | exact decide_eq_true h5 | exact decide_eq_true h6 | exact decide_eq_true h7 | exact oK) ?_
                refine At.bo fun b1 hb1=>?_
                refine At.go [true,true,true,true,true,true,true] [hB 0,hB 0,hB 0,hB 0,hB 0,hB 0,hB 0,hB 0] rfl (by and_intros <;> first | exact decide_eq_true h1 | exact decide_eq_true h2 | exact decide_eq_true h3 | exact decide_eq_true h4 | exact decide_eq_true h5 | exact decide_eq_true h6 | exact decide_eq_true h7 | exact oK) ?_
                refine At.rt [] [] [] Tryz.func10 ?_
                exact⟨by simp [tupV,mayCf,h1,h2,h3,h4,h5,h6,h7],rfl,rfl⟩
              · refine At.go [] [] rfl (by and_intros <;> first | exact decide_eq_true h1 | exact decide_eq_true h2 | exact decide_eq_true h3 | exact decide_eq_true h4 | exact decide_eq_true h5 | exact decide_eq_true h6 | exact decide_eq_false h7 | exact oK) ?_
                refine At.bo fun b1 hb1=>?_
                refine At.go [true,true,true,true,true,true,false] [hB 0,hB 0,hB 0,hB 0,hB 0,hB 0,hB 0] rfl (by and_intros <;> first | exact decide_eq_true h1 | exact decide_eq_true h2 | exact decide_eq_true h3 | exact decide_eq_true h4 | exact decide_eq_true h5 | exact decide_eq_true h6 | exact decide_eq_false h7 | exact oK) ?_
                refine At.rt [] [] [] Tryz.func10 ?_
                exact⟨by simp [tupV,mayCf,h7],rfl,rfl⟩
            · refine At.go [] [] rfl (by and_intros <;> first | exact decide_eq_true h1 | exact decide_eq_true h2 | exact decide_eq_true h3 | exact decide_eq_true h4 | exact decide_eq_true h5 | exact decide_eq_false h6 | exact oK) ?_
              refine At.bo fun b1 hb1=>?_
              refine At.go [true,true,true,true,true,false,false] [hB 0,hB 0,hB 0,hB 0,hB 0,hB 0] rfl (by and_intros <;> first | exact decide_eq_true h1 | exact decide_eq_true h2 | exact decide_eq_true h3 | exact decide_eq_true h4 | exact decide_eq_true h5 | exact decide_eq_false h6 | exact oK) ?_
              refine At.rt [] [] [] Tryz.func10 ?_
              exact⟨by simp [tupV,mayCf,h6],rfl,rfl⟩
          · refine At.go [] [] rfl (by and_intros <;> first | exact decide_eq_true h1 | exact decide_eq_true h2 | exact decide_eq_true h3 | exact decide_eq_true h4 | exact decide_eq_false h5 | exact oK) ?_
            refine At.bo fun b1 hb1=>?_
            refine At.go [true,true,true,true,false,false,false] [hB 0,hB 0,hB 0,hB 0,hB 0] rfl (by and_intros <;> first | exact decide_eq_true h1 | exact decide_eq_true h2 | exact decide_eq_true h3 | exact decide_eq_true h4 | exact decide_eq_false h5 | exact oK) ?_
            refine At.rt [] [] [] Tryz.func10 ?_
            exact⟨by simp [tupV,mayCf,h5],rfl,rfl⟩
        · refine At.go [] [] rfl (by and_intros <;> first | exact decide_eq_true h1 | exact decide_eq_true h2 | exact decide_eq_true h3 | exact decide_eq_false h4 | exact oK) ?_
          refine At.bo fun b1 hb1=>?_
          refine At.go [true,true,true,false,false,false,false] [hB 0,hB 0,hB 0,hB 0] rfl (by and_intros <;> first | exact decide_eq_true h1 | exact decide_eq_true h2 | exact decide_eq_true h3 | exact decide_eq_false h4 | exact oK) ?_
          refine At.rt [] [] [] Tryz.func10 ?_
          exact⟨by simp [tupV,mayCf,h4],rfl,rfl⟩
      · refine At.go [] [] rfl (by and_intros <;> first | exact decide_eq_true h1 | exact decide_eq_true h2 | exact decide_eq_false h3 | exact oK) ?_
        refine At.bo fun b1 hb1=>?_
        refine At.go [true,true,false,false,false,false,false] [hB 0,hB 0,hB 0] rfl (by and_intros <;> first | exact decide_eq_true h1 | exact decide_eq_true h2 | exact decide_eq_false h3 | exact oK) ?_
        refine At.rt [] [] [] Tryz.func10 ?_
        exact⟨by simp [tupV,mayCf,h3],rfl,rfl⟩
    · refine At.go [] [] rfl (by and_intros <;> first | exact decide_eq_true h1 | exact decide_eq_false h2 | exact oK) ?_
      refine At.bo fun b1 hb1=>?_
      refine At.go [true,false,false,false,false,false,false] [hB 0,hB 0] rfl (by and_intros <;> first | exact decide_eq_true h1 | exact decide_eq_false h2 | exact oK) ?_
      refine At.rt [] [] [] Tryz.func10 ?_
      exact⟨by simp [tupV,mayCf,h2],rfl,rfl⟩
  · refine At.go [] [] rfl (by and_intros <;> first | exact decide_eq_false h1 | exact oK) ?_
    refine At.bo fun b1 hb1=>?_
    refine At.go [false,false,false,false,false,false,false] [hB 0] rfl (by and_intros <;> first | exact decide_eq_false h1 | exact oK) ?_
    refine At.rt [] [] [] Tryz.func10 ?_
    exact⟨by simp [tupV,mayCf,h1],rfl,rfl⟩
end Go.Proofs

/-
  Walks of layer 8 and of its document: a header's bytes, its hash, the chain of headers.
-/
import Derived.Test.YtacpcbobkeedbaaGreatDoorM16
import Derived.Test.YtacpcbobkeedbaaGreatDoorM7
import Derived.Test.YtacpcbobkeedbaaGreatDoorM22
import Derived.Test.YtacpcbobkeedbaaGreatDoorM24
import Derived.Test.YtacpcbobkeedbaaGreatDoorM28
import Derived.Test.YtacpcbobkeedbaaGreatDoorM25
import Derived.Test.YtacpcbobkeedbaaGreatDoorM12
/-
  Walks of layer 8 and of its document: a header's bytes, its hash, the chain of headers.
-/
namespace Go.Proofs
open Go Go.Eng
set_option maxRecDepth 100000
set_option maxHeartbeats 4000000
attribute [local irreducible] Tri

theorem Tryz.nrow_w (s : List UInt8) (w : World) (hs : s.length ≤ 1000000) : Fun Tryz.prog 156 [str s] w (str (rowL s)) := by
  have fN : ∀ {S : Base} {bx : Bx} {hp : List Seg}, CallOb Tryz.prog S bx hp 155 [.int .u64 ((bl ⟨s.toArray⟩).length : Nat)] (str (numL s.length)) := fun {_ _ _} w' _ => by
    rw [bl_of]; exact Tryz.num_w s.length (by omega) w'
  have hnl := numL_len10 s.length (by omega)
  refine Tri.enter (bx := []) (hp := []) Tryz.func156 rfl (by kernel_rfl) rfl (Own.nil w) ?_
  refine At.go [] [hC (.string { data := (numL s.length).toArray })] rfl (by and_intros <;> first | exact fN | (rw [bl_of]; omega) | (simp only [bl_of]; omega) | exact oK) ?_
  refine At.rt [] [] [] Tryz.func156 ?_
  exact ⟨by simp only [bl_of]; rfl, rfl, rfl⟩
theorem Tryz.rrow_w (s : List UInt8) (w : World) (hs : s.length ≤ 1000000) : Fun Tryz.prog 88 [str s] w (str (rowL s)) := by
  have fN : ∀ {S : Base} {bx : Bx} {hp : List Seg}, CallOb Tryz.prog S bx hp 129 [.int .u64 ((bl ⟨s.toArray⟩).length : Nat)] (str (numL s.length)) := fun {_ _ _} w' _ => by
    rw [bl_of]; exact Tryz.rnum_w s.length (by omega) w'
  have hnl := numL_len10 s.length (by omega)
  refine Tri.enter (bx := []) (hp := []) Tryz.func88 rfl (by kernel_rfl) rfl (Own.nil w) ?_
  refine At.go [] [hC (.string { data := (numL s.length).toArray })] rfl (by and_intros <;> first | exact fN | (rw [bl_of]; omega) | (simp only [bl_of]; omega) | exact oK) ?_
  refine At.rt [] [] [] Tryz.func88 ?_
  exact ⟨by simp only [bl_of]; rfl, rfl, rfl⟩
theorem rowL_len (s : List UInt8) (h : s.length ≤ 1000) : (rowL s).length ≤ 1010 := by
  unfold rowL; rw [List.length_append]; have := numL_len10 s.length (by omega); omega
theorem numZ {P : Program} {f : FuncId} {x : Int} (h : ∀ (n : Nat), n < 18446744073709551616 → ∀ w, Fun P f [.int .u64 n] w (str (numL n))) (h0 : 0 ≤ x) (h1 : x ≤ 1099511627776) (w : World) : Fun P f [.int .u64 x] w (str (numL x.toNat)) := by
  have := h x.toNat (by omega) w
  rwa [show ((x.toNat : Nat) : Int) = x by omega] at this
theorem Tryz.hPut_w (x : HdB) (n : Nat) (w : World) (hm : mayH x n = true) (hn : n ≤ 32) : Fun Tryz.prog 116 [.agg ⟨hdC x⟩] w (str (putH x)) := by
  obtain ⟨x1, x2, x3, x4, x5, x6⟩ := x
  obtain ⟨h1, h2, h3, h4, h5, h6, h7, h8, h9, h10⟩ := mayH_in hm
  simp only at h1 h2 h3 h4 h5 h6 h7 h8 h9 h10
  have fN : ∀ {S : Base} {bx : Bx} {hp : List Seg} {z : Int}, 0 ≤ z → z ≤ 1099511627776 → CallOb Tryz.prog S bx hp 155 [.int .u64 z] (str (numL z.toNat)) := fun {_ _ _ _} h0 h1 w' _ => numZ (fun n hn w => Tryz.num_w n hn w) h0 h1 w'
  have fR : ∀ {S : Base} {bx : Bx} {hp : List Seg} {s : List UInt8}, s.length ≤ 1000 → CallOb Tryz.prog S bx hp 156 [str s] (str (rowL s)) := fun {_ _ _ _} h w' _ => Tryz.nrow_w _ w' (by omega)
  have q1 := numL_len10 x1.toNat (by omega)
  have q2 := numL_len10 x2.toNat (by omega)
  have q3 := numL_len10 x3.toNat (by omega)
  have q4 := numL_len10 x4.toNat (by omega)
  have q5 := rowL_len x5 (by omega)
  have q6 := rowL_len x6 (by omega)
  rw [show hdC ⟨x1, x2, x3, x4, x5, x6⟩ = [.int .i64 x1, .int .i64 x2, .int .i64 x3, .int .i64 x4, str x5, str x6] from rfl]
  refine Tri.enter (bx := []) (hp := []) Tryz.func116 rfl (by kernel_rfl) rfl (Own.nil w) ?_
  refine At.go [] [] rfl (by and_intros <;> first | exact trivial | exact oK) ?_
  refine At.bo fun b1 hb1 => ?_
  refine At.go [] [hB 0, hB 0, hB 0, hB 0] rfl (by and_intros <;> first | exact trivial | exact oK) ?_
  refine At.step [] rfl rfl rfl rfl rfl trivial (OpOk.buildSlice rfl rfl rfl rfl rfl rfl rfl (fun bs hbs => ?_))
  refine At.go [] [] rfl (by and_intros <;> first | exact trivial | exact oK) ?_
  refine At.unr ?_
  refine At.go [true] [hB 0, hC (.string { data := (numL x1.toNat).toArray })] rfl (by and_intros <;> first | exact fN (by omega) (by omega) | (simp; omega) | exact oK) ?_
  refine At.una ?_
  refine At.go [true] [hB 0, hC (.string { data := (numL x2.toNat).toArray })] rfl (by and_intros <;> first | exact fN (by omega) (by omega) | (simp; omega) | exact oK) ?_
  refine At.una ?_
  refine At.go [true] [hB 0, hC (.string { data := (numL x3.toNat).toArray })] rfl (by and_intros <;> first | exact fN (by omega) (by omega) | (simp; omega) | exact oK) ?_
  refine At.una ?_
  refine At.go [true] [hB 0, hC (.string { data := (numL x4.toNat).toArray })] rfl (by and_intros <;> first | exact fN (by omega) (by omega) | (simp; omega) | exact oK) ?_
  refine At.una ?_
  refine At.go [false] [] rfl (by and_intros <;> first | exact fR (by omega) | (simp; omega) | exact oK) ?_
  refine At.qt [] [hB 1, hC (.string { data := (rowL x5).toArray }), hB 1, hC (.string { data := (rowL x6).toArray })] rfl rfl (by and_intros <;> first | exact fR (by omega) | (simp; omega) | exact oK) ?_
  refine At.go [] [] rfl (by and_intros <;> first | exact fR (by omega) | (simp; omega) | exact oK) ?_
  refine At.rt [] [] [] Tryz.func116 ?_
  exact ⟨by simp only [bl_of, tupV, putH, List.nil_append]; rfl, rfl, rfl⟩
theorem putH_len {x : HdB} {n : Nat} (hm : mayH x n = true) (hn : n ≤ 32) : (putH x).length ≤ 10000 := by
  obtain ⟨h1, h2, h3, h4, h5, h6, h7, h8, h9, h10⟩ := mayH_in hm
  have q1 := numL_len10 x.i.toNat (by omega)
  have q2 := numL_len10 x.f.toNat (by omega)
  have q3 := numL_len10 x.c.toNat (by omega)
  have q4 := numL_len10 x.b.toNat (by omega)
  have q5 := rowL_len x.p (by omega)
  have q6 := rowL_len x.r (by omega)
  unfold putH
  simp only [List.length_append]; omega
theorem Tryz.rhPut_w (x : HdB) (n : Nat) (w : World) (hm : mayH x n = true) (hn : n ≤ 32) : Fun Tryz.prog 89 [.agg ⟨hdC x⟩] w (str (putH x)) := by
  obtain ⟨x1, x2, x3, x4, x5, x6⟩ := x
  obtain ⟨h1, h2, h3, h4, h5, h6, h7, h8, h9, h10⟩ := mayH_in hm
  simp only at h1 h2 h3 h4 h5 h6 h7 h8 h9 h10
  have fN : ∀ {S : Base} {bx : Bx} {hp : List Seg} {z : Int}, 0 ≤ z → z ≤ 1099511627776 → CallOb Tryz.prog S bx hp 129 [.int .u64 z] (str (numL z.toNat)) := fun {_ _ _ _} h0 h1 w' _ => numZ (fun n hn w => Tryz.rnum_w n hn w) h0 h1 w'
  have fR : ∀ {S : Base} {bx : Bx} {hp : List Seg} {s : List UInt8}, s.length ≤ 1000 → CallOb Tryz.prog S bx hp 88 [str s] (str (rowL s)) := fun {_ _ _ _} h w' _ => Tryz.rrow_w _ w' (by omega)
  have q1 := numL_len10 x1.toNat (by omega)
  have q2 := numL_len10 x2.toNat (by omega)
  have q3 := numL_len10 x3.toNat (by omega)
  have q4 := numL_len10 x4.toNat (by omega)
  have q5 := rowL_len x5 (by omega)
  have q6 := rowL_len x6 (by omega)
  rw [show hdC ⟨x1, x2, x3, x4, x5, x6⟩ = [.int .i64 x1, .int .i64 x2, .int .i64 x3, .int .i64 x4, str x5, str x6] from rfl]
  refine Tri.enter (bx := []) (hp := []) Tryz.func89 rfl (by kernel_rfl) rfl (Own.nil w) ?_
  refine At.go [] [] rfl (by and_intros <;> first | exact fN (by omega) (by omega) | exact fR (by omega) | (simp; omega) | exact oK) ?_
  refine At.bo fun b1 hb1 => ?_
  refine At.go [] [] rfl (by and_intros <;> first | exact fN (by omega) (by omega) | exact fR (by omega) | (simp; omega) | exact oK) ?_
  refine At.qt [] [hB 0, hC (.string { data := (numL x1.toNat).toArray }), hB 0, hC (.string { data := (numL x2.toNat).toArray }), hB 0, hC (.string { data := (numL x3.toNat).toArray }), hB 0, hC (.string { data := (numL x4.toNat).toArray }), hB 0, hC (.string { data := (rowL x5).toArray }), hB 0, hC (.string { data := (rowL x6).toArray })] rfl rfl (by and_intros <;> first | exact fN (by omega) (by omega) | exact fR (by omega) | (simp; omega) | exact oK) ?_
  refine At.go [] [] rfl (by and_intros <;> first | exact fN (by omega) (by omega) | exact fR (by omega) | (simp; omega) | exact oK) ?_
  refine At.rt [] [] [] Tryz.func89 ?_
  exact ⟨by simp only [bl_of, tupV, putH]; rfl, rfl, rfl⟩
theorem Tryz.hHash_w (x : HdB) (n : Nat) (w : World) (hm : mayH x n = true) (hn : 1 ≤ n ∧ n ≤ 32) (hS : Tryz.Sha w) : Fun Tryz.prog 71 [.agg ⟨hdC x⟩, .int .i64 n] w (str (hashH n x)) := by
  have hl := putH_len hm hn.2
  have fP : ∀ {S : Base} {bx : Bx} {hp : List Seg}, CallOb Tryz.prog S bx hp 116 [.agg ⟨hdC x⟩] (str (putH x)) := fun {_ _ _} w' _ => Tryz.hPut_w x n w' hm hn.2
  have fC : ∀ {bx : Bx} {hp : List Seg}, CallOb Tryz.prog ⟨w, kys [] []⟩ bx hp 121 [str (putH x), .int .i64 n] (.tuple #[str (cutH n (putH x)), .int .i64 0]) := fun {_ _} w' hw' => Tryz.Cut_w _ n w' (by omega) hn.1 hn.2 (Tryz.sha_ext hS hw'.ext)
  refine Tri.enter (bx := []) (hp := []) Tryz.func71 rfl (by kernel_rfl) rfl (Own.nil w) ?_
  refine At.go [] [] rfl (by and_intros <;> first | exact fP | exact fC | exact oK) ?_
  refine At.bo fun b2 hb2 => ?_
  refine At.go [] [hB 0, hC (.string { data := (putH x).toArray }), hC (.tuple { toList := [.string { data := (cutH n (putH x)).toArray }, .int .i64 0] })] rfl (by and_intros <;> first | exact fP | exact fC | exact oK) ?_
  refine At.rt [] [] [] Tryz.func71 ?_
  exact ⟨rfl, rfl, rfl⟩
theorem Tryz.hFirst_w (n : Nat) (w : World) (hn : 1 ≤ n ∧ n ≤ 32) (hS : Tryz.Sha w) : Fun Tryz.prog 70 [.int .i64 n] w (str (cutH n [])) := by
  have fC : ∀ {bx : Bx} {hp : List Seg}, CallOb Tryz.prog ⟨w, kys [] []⟩ bx hp 121 [str [], .int .i64 n] (.tuple #[str (cutH n []), .int .i64 0]) := fun {_ _} w' hw' => Tryz.Cut_w _ n w' (by decide) hn.1 hn.2 (Tryz.sha_ext hS hw'.ext)
  refine Tri.enter (bx := []) (hp := []) Tryz.func70 rfl (by kernel_rfl) rfl (Own.nil w) ?_
  refine At.go [] [hC (.tuple { toList := [.string { data := (cutH n []).toArray }, .int .i64 0] })] rfl (by and_intros <;> first | exact fC | exact oK) ?_
  refine At.rt [] [] [] Tryz.func70 ?_
  exact ⟨rfl, rfl, rfl⟩
theorem Tryz.rhHash_w (x : HdB) (n : Nat) (w : World) (hm : mayH x n = true) (hn : n ≤ 32) : Fun Tryz.prog 54 [.agg ⟨keyC⟩, .agg ⟨hdC x⟩, .int .i64 n] w (str (hashH n x)) := by
  have hl := putH_len hm hn
  have fP : ∀ {S : Base} {bx : Bx} {hp : List Seg}, CallOb Tryz.prog S bx hp 89 [.agg ⟨hdC x⟩] (str (putH x)) := fun {_ _ _} w' _ => Tryz.rhPut_w x n w' hm hn
  have fC : ∀ {S : Base} {bx : Bx} {hp : List Seg}, CallOb Tryz.prog S bx hp 53 [.agg ⟨keyC⟩, str (putH x), .int .i64 n] (str (cutH n (putH x))) := fun {_ _ _} w' _ => Tryz.rCut_w _ n w' (by omega) hn
  refine Tri.enter (bx := []) (hp := []) Tryz.func54 rfl (by kernel_rfl) rfl (Own.nil w) ?_
  refine At.go [] [] rfl (by and_intros <;> first | exact fP | exact fC | exact Tryz.key_ld (i := 1) rfl | exact oK) ?_
  refine At.bo fun b3 hb3 => ?_
  refine At.bo fun b4 hb4 => ?_
  refine At.go [] [] rfl (by and_intros <;> first | exact fP | exact fC | exact Tryz.key_ld (i := 1) rfl | exact oK) ?_
  refine At.qt [] [hK (.agg { toList := keyC }), hB 0, hC (.string { data := (putH x).toArray }), hC (.string { data := (cutH n (putH x)).toArray })] rfl rfl (by and_intros <;> first | exact fP | exact fC | exact Tryz.key_ld (i := 1) rfl | exact oK) ?_
  refine At.go [] [] rfl (by and_intros <;> first | exact fP | exact fC | exact Tryz.key_ld (i := 1) rfl | exact oK) ?_
  refine At.rt [] [] [] Tryz.func54 ?_
  exact ⟨rfl, rfl, rfl⟩
end Go.Proofs

/-
  Walks of layers 8 and 19 and of their documents: the chain of headers; may a config be.
-/
namespace Go.Proofs
open Go Go.Eng
set_option maxRecDepth 100000
set_option maxHeartbeats 4000000
attribute [local irreducible] Tri

theorem Tryz.chain1_w (x : HdB) (n : Nat) (i f : Int) (p : List UInt8) (b3 b6 : Nat) (w : World) (hl : x.p.length ≤ 9223372036854775807 ∧ x.r.length ≤ 9223372036854775807) (hn : 1 ≤ n ∧ n ≤ 32) (h3 : SlOk w (some ⟨b3, 0, none⟩) [.int .i64 n]) (h6 : SlOk w (some ⟨b6, 0, none⟩) [.int .i64 i, .int .i64 f, str p]) :
    Fun Tryz.prog 126 [.agg ⟨hdC x⟩, .pointer (some ⟨b3, 0, none⟩), .pointer (some ⟨b6, 0, none⟩)] w (.bool (decide (mayH x n = true ∧ x.i = i ∧ x.f = f ∧ x.p = p))) := by
  obtain ⟨g3, o3, hg3, hc3⟩ := h3.get (by simp)
  cases hg3
  obtain ⟨g6, o6, hg6, hc6⟩ := h6.get (by simp)
  cases hg6
  have r3 : ∀ {bx : Bx} {hp : List Seg}, RdW ⟨w, kys [] []⟩ bx hp b3 0 [.int .i64 n] := fun {_ _} => RdW.base1 (by simp [kys]) (hc3 0 _ rfl)
  have r6 : ∀ {bx : Bx} {hp : List Seg}, RdW ⟨w, kys [] []⟩ bx hp b6 0 [.int .i64 i, .int .i64 f, str p] := fun {_ _} => RdW.base (by simp [kys]) hc6
  have fM : ∀ {S : Base} {bx : Bx} {hp : List Seg}, CallOb Tryz.prog S bx hp 127 [.agg ⟨hdC x⟩, .int .i64 n] (.bool (mayH x n)) := fun {_ _ _} w' _ => Tryz.headMay_w x n w' hl.1 hl.2 (by omega)
  obtain ⟨x1, x2, x3, x4, x5, x6⟩ := x
  obtain ⟨b, hb⟩ : ∃ b, mayH ⟨x1, x2, x3, x4, x5, x6⟩ n = b := ⟨_, rfl⟩
  rw [hb] at fM ⊢
  rw [show hdC ⟨x1, x2, x3, x4, x5, x6⟩ = [.int .i64 x1, .int .i64 x2, .int .i64 x3, .int .i64 x4, str x5, str x6] from rfl] at fM ⊢
  refine Tri.enter (bx := []) (hp := []) Tryz.func126 rfl (by kernel_rfl) rfl (Own.nil w) ?_
  cases b with
  | false =>
    refine At.go [] [] rfl (by and_intros <;> first | exact r3 | exact r6 | exact fM | exact oK) ?_
    refine At.bo fun b3 hb3 => ?_
    refine At.go [false] [hB 0, hR [.int .i64 ↑n], hC (.bool false)] rfl (by and_intros <;> first | exact r3 | exact r6 | exact fM | exact oK) ?_
    refine At.rt [] [] [] Tryz.func126 ?_
    exact ⟨rfl, rfl, rfl⟩
  | true =>
    refine At.go [] [] rfl (by and_intros <;> first | exact r3 | exact r6 | exact fM | exact oK) ?_
    refine At.bo fun b3 hb3 => ?_
    refine At.go [true] [hB 0, hR [.int .i64 ↑n], hC (.bool true), hR [.int .i64 i, .int .i64 f, .string { data := p.toArray }], hB 0, hB 0, hB 0] rfl (by and_intros <;> first | exact r3 | exact r6 | exact fM | exact oK) ?_
    refine At.rt [] [] [] Tryz.func126 ?_
    refine ⟨?_, rfl, rfl⟩
    simp only [tupV, bl_of]
    congr 1
    rw [Bool.eq_iff_iff]
    simp only [Bool.and_eq_true, decide_eq_true_iff, true_and]
    exact ⟨fun ⟨h1, h2, h3⟩ => ⟨h1.symm, h2.symm, h3.symm⟩, fun ⟨h1, h2, h3⟩ => ⟨h1.symm, h2.symm, h3.symm⟩⟩
theorem Tryz.hChain_w (L : List HdB) (n : Nat) (a : Option Addr) (cap : Nat) (w : World) (hL : L.length ≤ 1000000) (hx : ∀ x, x ∈ L → x.p.length ≤ 9223372036854775807 ∧ x.r.length ≤ 9223372036854775807) (hn : 1 ≤ n ∧ n ≤ 32) (hr : SlOk w a (L.flatMap hdC)) (hS : Tryz.Sha w) :
    Fun Tryz.prog 84 [.slice a L.length cap, .int .i64 n] w (.tuple #[str (chainB n L).1, .int .i64 (if (chainB n L).2 = true then 0 else 10)]) := by
  have fD : ∀ {S : Base} {bx : Bx} {hp : List Seg}, CallOb Tryz.prog S bx hp 125 [.int .i64 n] (.bool true) := fun {_ _ _} w' _ => by
    have := Tryz.digest_w n w'; rwa [decide_eq_true (by omega)] at this
  have fF : ∀ {bx : Bx} {hp : List Seg}, CallOb Tryz.prog ⟨w, kys [] []⟩ bx hp 70 [.int .i64 n] (str (cutH n [])) := fun {_ _} w' hw' => Tryz.hFirst_w n w' hn (Tryz.sha_ext hS hw'.ext)
  have hcl := cutH_len hn.2 []
  unfold chainB
  generalize cutH n [] = p0 at fF hcl
  refine Tri.enter (bx := []) (hp := []) Tryz.func84 rfl (by kernel_rfl) rfl (Own.nil w) ?_
  refine At.go [] [] rfl (by and_intros <;> first | exact fD | exact fF | exact oK) ?_
  refine At.bo fun b3 hb3 => ?_
  refine At.go [false] [hB 0, hC (.bool true), hB 0, hC (.string { data := p0.toArray })] rfl (by and_intros <;> first | exact fD | exact fF | exact oK) ?_
  refine At.al fun b6 hb6 => ?_
  refine At.go [] [hB 0] rfl (by and_intros <;> first | exact fD | exact fF | exact oK) ?_
  refine At.loop (env0 := [(3, .pointer (some ⟨b3, 0, none⟩)), (6, .pointer (some ⟨b6, 0, none⟩)), (7, .func (Fn.func 126) ⟨[]⟩ ⟨[.pointer (some ⟨b3, 0, none⟩), .pointer (some ⟨b6, 0, none⟩)]⟩), (17, .slice a L.length cap), (18, .int .i64 ↑L.length), (19, .int .i64 0)]) (fun m_ env bx hp => ∃ (k : Nat) (i : Int) (f : Int) (p : List UInt8), m_ = L.length - k ∧ (k ≤ L.length) ∧ (chB n L 0 0 p0 = chB n (L.drop k) i f p) ∧ (0 ≤ i ∧ i ≤ k) ∧ (0 ≤ f ∧ f ≤ 1099511627840) ∧ (p.length ≤ 32) ∧ env = [(3, .pointer (some ⟨b3, 0, none⟩)), (6, .pointer (some ⟨b6, 0, none⟩)), (7, .func (Fn.func 126) ⟨[]⟩ ⟨[.pointer (some ⟨b3, 0, none⟩), .pointer (some ⟨b6, 0, none⟩)]⟩), (17, .slice a L.length cap), (18, .int .i64 ↑L.length), (19, .int .i64 k)] ∧ bx = [(b6, 180, [.int .i64 i, .int .i64 f, str p]), (b3, 3, [.int .i64 ↑n])] ∧ hp = []) rfl
    ⟨0, 0, 0, p0, rfl, (by omega), (rfl), (by omega), (by omega), (by omega), rfl, rfl, rfl⟩ sB ?_
  rintro m_ env bx hp ⟨k, i, f, p, rfl, hk, hc, hi, hf, hpl, rfl, rfl, rfl⟩ ih
  by_cases hlt : k < L.length
  · obtain ⟨x, hxk⟩ : ∃ x, L[k]? = some x := ⟨_, List.getElem?_eq_getElem hlt⟩
    have hxm := hx x (List.mem_of_getElem? hxk)
    have hdr : L.drop k = x :: L.drop (k + 1) := by
      rw [List.drop_eq_getElem_cons hlt]
      rw [List.getElem?_eq_getElem hlt] at hxk
      rw [Option.some.inj hxk]
    obtain ⟨g, o, rfl, hcg⟩ := hr.get (by intro e; have := flat_get (f := hdC) (sz := 6) (fun _ _ => rfl) hxk 0 _ rfl; rw [e] at this; cases this)
    have rE : ∀ {bx : Bx} {hp : List Seg}, RdW ⟨w, kys [] []⟩ bx hp g (o + (k : Int).toNat * 6) [.int .i64 x.i, .int .i64 x.f, .int .i64 x.c, .int .i64 x.b, str x.p, str x.r] := fun {_ _} => RdW.base (by simp [kys]) fun j u hu => by
      rw [show o + (k : Int).toNat * 6 + j = o + (k * 6 + j) by omega]
      exact hcg _ u (flat_get (f := hdC) (sz := 6) (fun _ _ => rfl) hxk j u hu)
    have fK : ∀ {bx : Bx} {hp : List Seg} (m3 m6 : Nat), nth bx m3 = some (b3, 3, [.int .i64 n]) → nth bx m6 = some (b6, 180, [.int .i64 i, .int .i64 f, str p]) → CallOb Tryz.prog ⟨w, kys [] []⟩ bx hp 126 [.agg ⟨[.int .i64 x.i, .int .i64 x.f, .int .i64 x.c, .int .i64 x.b, str x.p, str x.r]⟩, .pointer (some ⟨b3, 0, none⟩), .pointer (some ⟨b6, 0, none⟩)] (.bool (decide (mayH x n = true ∧ x.i = i ∧ x.f = f ∧ x.p = p))) := fun {_ _} _ _ h3 h6 w' hw' =>
      Tryz.chain1_w x n i f p b3 b6 w' hxm hn (SlOk.blk (hw'.bx _ (nth_mem h3))) (SlOk.blk (hw'.bx _ (nth_mem h6)))
    by_cases hok : mayH x n = true ∧ x.i = i ∧ x.f = f ∧ x.p = p
    · rw [decide_eq_true hok] at fK
      rw [hdr, chB_ok hok] at hc
      have hin := mayH_in hok.1
      have fH : ∀ {bx : Bx} {hp : List Seg}, CallOb Tryz.prog ⟨w, kys [] []⟩ bx hp 71 [.agg ⟨[.int .i64 x.i, .int .i64 x.f, .int .i64 x.c, .int .i64 x.b, str x.p, str x.r]⟩, .int .i64 n] (str (hashH n x)) := fun {_ _} w' hw' => Tryz.hHash_w x n w' hok.1 hn (Tryz.sha_ext hS hw'.ext)
      have hhl : (hashH n x).length ≤ 32 := by unfold hashH; rw [cutH_len hn.2]; exact hn.2
      refine At.go [true] [hR [.int .i64 x.i, .int .i64 x.f, .int .i64 x.c, .int .i64 x.b, .string { data := x.p.toArray }, .string { data := x.r.toArray }]] rfl (by and_intros <;> first | exact rE | exact fK 2 1 rfl rfl | exact fH | exact decide_eq_true (by omega) | exact oK) ?_
      refine At.al fun b9 hb9 => ?_
      refine At.go [false] [hB 0, hB 0, hC (.bool true)] rfl (by and_intros <;> first | exact rE | exact fK 2 1 rfl rfl | exact fH | exact decide_eq_true (by omega) | exact oK) ?_
      refine At.qT 12 1 [] [hB 0, hB 0, hB 0, hB 0, hB 2, hC (.string { data := (hashH n x).toArray })] rfl rfl (by and_intros <;> first | exact rE | exact fK 2 1 rfl rfl | exact fH | exact decide_eq_true (by omega) | exact oK) ?_
      refine AtD.f1 12 [] [] [hB 1] rfl rfl rfl (by first | exact rE | exact fK 2 1 rfl rfl | exact fH | exact decide_eq_true (by omega) | exact oK) (by first | exact rE | exact fK 2 1 rfl rfl | exact fH | exact decide_eq_true (by omega) | exact oK) ?_
      refine AtD.dn ?_
      refine At.go [] [] rfl (by and_intros <;> first | exact rE | exact fK 2 1 rfl rfl | exact fH | exact decide_eq_true (by omega) | exact oK) ?_
      refine At.keep [false, true, true] [] rfl ?_
      exact At.weak (ih _ _ _ _ (by omega) ⟨k + 1, x.i + 1, x.f + x.c, hashH n x, rfl, by omega, by rw [hok.2.1, hok.2.2.1]; exact hc, by omega, by omega, hhl, rfl, rfl, rfl⟩) sB
    · rw [decide_eq_false hok] at fK
      rw [hdr, chB_no hok] at hc
      refine At.go [true] [hR [.int .i64 x.i, .int .i64 x.f, .int .i64 x.c, .int .i64 x.b, .string { data := x.p.toArray }, .string { data := x.r.toArray }]] rfl (by and_intros <;> first | exact rE | exact fK 2 1 rfl rfl | exact decide_eq_true (by omega) | exact oK) ?_
      refine At.al fun b9 hb9 => ?_
      refine At.go [true] [hB 0, hB 0, hC (.bool false)] rfl (by and_intros <;> first | exact rE | exact fK 2 1 rfl rfl | exact decide_eq_true (by omega) | exact oK) ?_
      rw [hc]
      refine At.rt [false, false, false] [] [] Tryz.func84 ?_
      exact ⟨rfl, rfl, rfl⟩
  · obtain rfl : k = L.length := by omega
    rw [List.drop_of_length_le (Nat.le_refl _)] at hc
    rw [hc]
    refine At.go [false] [hB 0] rfl (by and_intros <;> first | exact decide_eq_false (by omega) | exact oK) ?_
    refine At.rt [false, false] [] [] Tryz.func84 ?_
    exact ⟨rfl, rfl, rfl⟩
/-- May a config be? -/
def mayCf (c1 c2 c3 c4 : Int) : Bool := decide (1 ≤ c1 ∧ c1 ≤ 64 ∧ 1 ≤ c2 ∧ c2 ≤ 32 ∧ 0 ≤ c3 ∧ c3 ≤ 1000 ∧ 0 ≤ c4 ∧ c4 ≤ 1048576)
theorem Tryz.lwithin_w (n a b : Int) (w : World) : Fun Tryz.prog 91 [.int .i64 n, .int .i64 a, .int .i64 b] w (.bool (decide (a ≤ n) && decide (n ≤ b))) := by
  refine Tri.enter (bx := []) (hp := []) Tryz.func91 rfl (by kernel_rfl) rfl (Own.nil w) ?_
  cases h : decide (a ≤ n) with
  | false =>
    refine At.go [false] [] rfl (by and_intros <;> first | exact h | exact oK) ?_
    refine At.rt [] [] [] Tryz.func91 ?_
    exact ⟨by simp [tupV], rfl, rfl⟩
  | true =>
    refine At.go [true] [] rfl (by and_intros <;> first | exact h | exact oK) ?_
    refine At.rt [] [] [] Tryz.func91 ?_
    exact ⟨by simp [tupV], rfl, rfl⟩
end Go.Proofs

/-
  Walks of layers 19 and 22: may a config be; what a verifier looks at.
-/
namespace Go.Proofs
open Go Go.Eng
set_option maxRecDepth 100000
set_option maxHeartbeats 4000000
attribute [local irreducible] Tri

theorem mayCf_in {c1 c2 c3 c4 : Int} (h : mayCf c1 c2 c3 c4 = true) : 1 ≤ c1 ∧ c1 ≤ 64 ∧ 1 ≤ c2 ∧ c2 ≤ 32 ∧ 0 ≤ c3 ∧ c3 ≤ 1000 ∧ 0 ≤ c4 ∧ c4 ≤ 1048576 := of_decide_eq_true h
theorem Tryz.logMay_w (c1 c2 c3 c4 : Int) (w : World) : Fun Tryz.prog 55 [.agg ⟨[.int .i64 c1, .int .i64 c2, .int .i64 c3, .int .i64 c4]⟩] w (.bool (mayCf c1 c2 c3 c4)) := by
  have fW : ∀ {S : Base} {bx : Bx} {hp : List Seg} {n a b : Int}, CallOb Tryz.prog S bx hp 91 [.int .i64 n, .int .i64 a, .int .i64 b] (.bool (decide (a ≤ n) && decide (n ≤ b))) := fun {_ _ _ _ _ _} w' _ => Tryz.lwithin_w _ _ _ w'
  obtain ⟨d1, h1⟩ : ∃ d, (decide (1 ≤ c1) && decide (c1 ≤ 64)) = d := ⟨_, rfl⟩
  obtain ⟨d2, h2⟩ : ∃ d, (decide (1 ≤ c2) && decide (c2 ≤ 32)) = d := ⟨_, rfl⟩
  obtain ⟨d3, h3⟩ : ∃ d, (decide (0 ≤ c3) && decide (c3 ≤ 1000)) = d := ⟨_, rfl⟩
  obtain ⟨d4, h4⟩ : ∃ d, (decide (0 ≤ c4) && decide (c4 ≤ 1048576)) = d := ⟨_, rfl⟩
  have hm : mayCf c1 c2 c3 c4 = (d1 && d2 && d3 && d4) := by
    rw [← h1, ← h2, ← h3, ← h4, Bool.eq_iff_iff]
    unfold mayCf
    simp only [Bool.and_eq_true, decide_eq_true_iff]
    exact ⟨fun ⟨a, b, c, d, e, f, g, h⟩ => ⟨⟨⟨⟨a, b⟩, c, d⟩, e, f⟩, g, h⟩, fun ⟨⟨⟨⟨a, b⟩, c, d⟩, e, f⟩, g, h⟩ => ⟨a, b, c, d, e, f, g, h⟩⟩
  rw [hm]
  have f1 : ∀ {S : Base} {bx : Bx} {hp : List Seg}, CallOb Tryz.prog S bx hp 91 [.int .i64 c1, .int .i64 1, .int .i64 64] (.bool d1) := fun {_ _ _} => by rw [← h1]; exact fW
  have f2 : ∀ {S : Base} {bx : Bx} {hp : List Seg}, CallOb Tryz.prog S bx hp 91 [.int .i64 c2, .int .i64 1, .int .i64 32] (.bool d2) := fun {_ _ _} => by rw [← h2]; exact fW
  have f3 : ∀ {S : Base} {bx : Bx} {hp : List Seg}, CallOb Tryz.prog S bx hp 91 [.int .i64 c3, .int .i64 0, .int .i64 1000] (.bool d3) := fun {_ _ _} => by rw [← h3]; exact fW
  have f4 : ∀ {S : Base} {bx : Bx} {hp : List Seg}, CallOb Tryz.prog S bx hp 91 [.int .i64 c4, .int .i64 0, .int .i64 1048576] (.bool d4) := fun {_ _ _} => by rw [← h4]; exact fW
  clear h1 h2 h3 h4 hm fW
  refine Tri.enter (bx := []) (hp := []) Tryz.func55 rfl (by kernel_rfl) rfl (Own.nil w) ?_
  cases d1 with
  | false =>
    refine At.go [] [] rfl (by and_intros <;> first | exact f1 | exact oK) ?_
    refine At.bo fun b1 hb1 => ?_
    refine At.go [false, false, false] [hB 0, hC (.bool false)] rfl (by and_intros <;> first | exact f1 | exact oK) ?_
    refine At.rt [] [] [] Tryz.func55 ?_
    exact ⟨rfl, rfl, rfl⟩
  | true =>
    cases d2 with
    | false =>
      refine At.go [] [] rfl (by and_intros <;> first | exact f1 | exact f2 | exact oK) ?_
      refine At.bo fun b1 hb1 => ?_
      refine At.go [true, false, false] [hB 0, hC (.bool true), hB 0, hC (.bool false)] rfl (by and_intros <;> first | exact f1 | exact f2 | exact oK) ?_
      refine At.rt [] [] [] Tryz.func55 ?_
      exact ⟨rfl, rfl, rfl⟩
    | true =>
      cases d3 with
      | false =>
        refine At.go [] [] rfl (by and_intros <;> first | exact f1 | exact f2 | exact f3 | exact oK) ?_
        refine At.bo fun b1 hb1 => ?_
        refine At.go [true, true, false] [hB 0, hC (.bool true), hB 0, hC (.bool true), hB 0, hC (.bool false)] rfl (by and_intros <;> first | exact f1 | exact f2 | exact f3 | exact oK) ?_
        refine At.rt [] [] [] Tryz.func55 ?_
        exact ⟨rfl, rfl, rfl⟩
      | true =>
        refine At.go [] [] rfl (by and_intros <;> first | exact f1 | exact f2 | exact f3 | exact f4 | exact oK) ?_
        refine At.bo fun b1 hb1 => ?_
        refine At.go [true, true, true] [hB 0, hC (.bool true), hB 0, hC (.bool true), hB 0, hC (.bool true), hB 0, hC (.bool d4)] rfl (by and_intros <;> first | exact f1 | exact f2 | exact f3 | exact f4 | exact oK) ?_
        refine At.rt [] [] [] Tryz.func55 ?_
        exact ⟨rfl, rfl, rfl⟩
theorem Tryz.r19May_w (c1 c2 c3 c4 : Int) (w : World) : Fun Tryz.prog 9 [.agg ⟨[.int .i64 c1, .int .i64 c2, .int .i64 c3, .int .i64 c4]⟩] w (.bool (mayCf c1 c2 c3 c4)) := by
  refine Tri.enter (bx := []) (hp := []) Tryz.func9 rfl (by kernel_rfl) rfl (Own.nil w) ?_
  by_cases h1 : 1 ≤ c1
  · by_cases h2 : c1 ≤ 64
    · by_cases h3 : 1 ≤ c2
      · by_cases h4 : c2 ≤ 32
        · by_cases h5 : 0 ≤ c3
          · by_cases h6 : c3 ≤ 1000
            · by_cases h7 : 0 ≤ c4
              · refine At.go [] [] rfl (by and_intros <;> first | exact decide_eq_true h1 | exact decide_eq_true h2 | exact decide_eq_true h3 | exact decide_eq_true h4 | exact decide_eq_true h5 | exact decide_eq_true h6 | exact decide_eq_true h7 | exact oK) ?_
                refine At.bo fun b1 hb1 => ?_
                refine At.go [true, true, true, true, true, true, true] [hB 0, hB 0, hB 0, hB 0, hB 0, hB 0, hB 0, hB 0] rfl (by and_intros <;> first | exact decide_eq_true h1 | exact decide_eq_true h2 | exact decide_eq_true h3 | exact decide_eq_true h4 | exact decide_eq_true h5 | exact decide_eq_true h6 | exact decide_eq_true h7 | exact oK) ?_
                refine At.rt [] [] [] Tryz.func9 ?_
                exact ⟨by simp [tupV, mayCf, h1, h2, h3, h4, h5, h6, h7], rfl, rfl⟩
              · refine At.go [] [] rfl (by and_intros <;> first | exact decide_eq_true h1 | exact decide_eq_true h2 | exact decide_eq_true h3 | exact decide_eq_true h4 | exact decide_eq_true h5 | exact decide_eq_true h6 | exact decide_eq_false h7 | exact oK) ?_
                refine At.bo fun b1 hb1 => ?_
                refine At.go [true, true, true, true, true, true, false] [hB 0, hB 0, hB 0, hB 0, hB 0, hB 0, hB 0] rfl (by and_intros <;> first | exact decide_eq_true h1 | exact decide_eq_true h2 | exact decide_eq_true h3 | exact decide_eq_true h4 | exact decide_eq_true h5 | exact decide_eq_true h6 | exact decide_eq_false h7 | exact oK) ?_
                refine At.rt [] [] [] Tryz.func9 ?_
                exact ⟨by simp [tupV, mayCf, h7], rfl, rfl⟩
            · refine At.go [] [] rfl (by and_intros <;> first | exact decide_eq_true h1 | exact decide_eq_true h2 | exact decide_eq_true h3 | exact decide_eq_true h4 | exact decide_eq_true h5 | exact decide_eq_false h6 | exact oK) ?_
              refine At.bo fun b1 hb1 => ?_
              refine At.go [true, true, true, true, true, false, false] [hB 0, hB 0, hB 0, hB 0, hB 0, hB 0] rfl (by and_intros <;> first | exact decide_eq_true h1 | exact decide_eq_true h2 | exact decide_eq_true h3 | exact decide_eq_true h4 | exact decide_eq_true h5 | exact decide_eq_false h6 | exact oK) ?_
              refine At.rt [] [] [] Tryz.func9 ?_
              exact ⟨by simp [tupV, mayCf, h6], rfl, rfl⟩
          · refine At.go [] [] rfl (by and_intros <;> first | exact decide_eq_true h1 | exact decide_eq_true h2 | exact decide_eq_true h3 | exact decide_eq_true h4 | exact decide_eq_false h5 | exact oK) ?_
            refine At.bo fun b1 hb1 => ?_
            refine At.go [true, true, true, true, false, false, false] [hB 0, hB 0, hB 0, hB 0, hB 0] rfl (by and_intros <;> first | exact decide_eq_true h1 | exact decide_eq_true h2 | exact decide_eq_true h3 | exact decide_eq_true h4 | exact decide_eq_false h5 | exact oK) ?_
            refine At.rt [] [] [] Tryz.func9 ?_
            exact ⟨by simp [tupV, mayCf, h5], rfl, rfl⟩
        · refine At.go [] [] rfl (by and_intros <;> first | exact decide_eq_true h1 | exact decide_eq_true h2 | exact decide_eq_true h3 | exact decide_eq_false h4 | exact oK) ?_
          refine At.bo fun b1 hb1 => ?_
          refine At.go [true, true, true, false, false, false, false] [hB 0, hB 0, hB 0, hB 0] rfl (by and_intros <;> first | exact decide_eq_true h1 | exact decide_eq_true h2 | exact decide_eq_true h3 | exact decide_eq_false h4 | exact oK) ?_
          refine At.rt [] [] [] Tryz.func9 ?_
          exact ⟨by simp [tupV, mayCf, h4], rfl, rfl⟩
      · refine At.go [] [] rfl (by and_intros <;> first | exact decide_eq_true h1 | exact decide_eq_true h2 | exact decide_eq_false h3 | exact oK) ?_
        refine At.bo fun b1 hb1 => ?_
        refine At.go [true, true, false, false, false, false, false] [hB 0, hB 0, hB 0] rfl (by and_intros <;> first | exact decide_eq_true h1 | exact decide_eq_true h2 | exact decide_eq_false h3 | exact oK) ?_
        refine At.rt [] [] [] Tryz.func9 ?_
        exact ⟨by simp [tupV, mayCf, h3], rfl, rfl⟩
    · refine At.go [] [] rfl (by and_intros <;> first | exact decide_eq_true h1 | exact decide_eq_false h2 | exact oK) ?_
      refine At.bo fun b1 hb1 => ?_
      refine At.go [true, false, false, false, false, false, false] [hB 0, hB 0] rfl (by and_intros <;> first | exact decide_eq_true h1 | exact decide_eq_false h2 | exact oK) ?_
      refine At.rt [] [] [] Tryz.func9 ?_
      exact ⟨by simp [tupV, mayCf, h2], rfl, rfl⟩
  · refine At.go [] [] rfl (by and_intros <;> first | exact decide_eq_false h1 | exact oK) ?_
    refine At.bo fun b1 hb1 => ?_
    refine At.go [false, false, false, false, false, false, false] [hB 0] rfl (by and_intros <;> first | exact decide_eq_false h1 | exact oK) ?_
    refine At.rt [] [] [] Tryz.func9 ?_
    exact ⟨by simp [tupV, mayCf, h1], rfl, rfl⟩
theorem sumL_le {r : List (List UInt8)} {m : Nat} (h : ∀ x, x ∈ r → x.length ≤ m) : sumL r ≤ r.length * m := by
  induction r with
  | nil => simp [sumL]
  | cons x r ih =>
    have h1 := h x (by simp)
    have h2 := ih fun y hy => h y (List.mem_cons_of_mem _ hy)
    have e : sumL (x :: r) = x.length + sumL r := by simp [sumL]
    rw [e, List.length_cons, Nat.add_mul]; omega
theorem Tryz.vbytes_w (r : List (List UInt8)) (a : Option Addr) (cap : Nat) (w : World) (hl : r.length ≤ 100000) (hx : ∀ x, x ∈ r → x.length ≤ 100000) (hr : SlOk w a (r.map str)) : Fun Tryz.prog 139 [.slice a r.length cap] w (.int .i64 (sumL r : Nat)) := by
  have hb : ∀ i, sumL (r.take i) ≤ 10000000000 := fun i => by
    have h := sumL_le (r := r.take i) (m := 100000) fun x h => hx x (List.mem_of_mem_take h)
    rw [List.length_take] at h
    have h2 : min i r.length * 100000 ≤ 100000 * 100000 := Nat.mul_le_mul_right _ (by omega)
    omega
  refine Tri.enter (bx := []) (hp := []) Tryz.func139 rfl (by kernel_rfl) rfl (Own.nil w) ?_
  refine At.go [] [] rfl (by and_intros <;> first | exact trivial | exact oK) ?_
  refine At.loop (env0 := [(3, .int .i64 0), (6, .slice a r.length cap), (7, .int .i64 ↑r.length), (8, .int .i64 0)]) (fun m_ env bx hp => ∃ (i : Nat), m_ = r.length - i ∧ (i ≤ r.length) ∧ env = [(3, .int .i64 (sumL (r.take i) : Nat)), (6, .slice a r.length cap), (7, .int .i64 ↑r.length), (8, .int .i64 i)] ∧ bx = [] ∧ hp = []) rfl
    ⟨0, rfl, (by omega), rfl, rfl, rfl⟩ sB ?_
  rintro m_ env bx hp ⟨i, rfl, hi, rfl, rfl, rfl⟩ ih
  by_cases hlt : i < r.length
  · obtain ⟨x, hxi⟩ : ∃ x, r[i]? = some x := ⟨_, List.getElem?_eq_getElem hlt⟩
    obtain ⟨g, o, rfl, hc⟩ := hr.get (by intro e; have := congrArg List.length e; rw [List.length_map] at this; simp only [List.length_nil] at this; omega)
    have rE : ∀ {bx : Bx} {hp : List Seg}, RdW ⟨w, kys [] []⟩ bx hp g (o + (i : Int).toNat * 1) [str x] := fun {_ _} => RdW.rowS hc rfl (by simp [kys]) (i := i) hxi (by omega)
    have hxl := hx x (List.mem_of_getElem? hxi)
    have hs : sumL (r.take (i + 1)) = sumL (r.take i) + x.length := by rw [List.take_add_one, hxi]; exact sumL_snoc _ _
    have hbi := hb i
    have hbl := len_str x
    refine At.go [true] [hR [.string { data := x.toArray }]] rfl (by and_intros <;> first | exact rE | exact decide_eq_true (by omega) | (rw [hbl]; omega) | exact oK) ?_
    rw [hbl, show ((sumL (r.take i) : Nat) : Int) + (x.length : Int) = ((sumL (r.take (i + 1)) : Nat) : Int) by omega]
    exact At.weak (ih _ _ _ _ (by omega) ⟨i + 1, rfl, by omega, rfl, rfl, rfl⟩) sB
  · obtain rfl : i = r.length := by omega
    rw [List.take_length]
    refine At.go [false] [] rfl (by and_intros <;> first | exact decide_eq_false (by omega) | exact oK) ?_
    refine At.rt [] [] [] Tryz.func139 ?_
    exact ⟨rfl, rfl, rfl⟩
/-- Something that is looked at: a function and what it is handed, what it tells, the error. -/
abbrev LookE := Nat × List Value × Bool × Int
def lookC (x : LookE) : List Value := [.func (.func x.1) ⟨[]⟩ ⟨x.2.1⟩, .int .i64 x.2.2.2]
def fstL : List LookE → Int
  | [] => 0
  | x :: l => if x.2.2.1 = true then fstL l else x.2.2.2
theorem Tryz.first_w (l : List LookE) (a : Option Addr) (cap : Nat) (w : World) (hl : l.length ≤ 1000) (hr : SlOk w a (l.flatMap lookC))
    (hf : ∀ (i : Nat) (x : LookE), l[i]? = some x → (∀ (j : Nat) (y : LookE), j < i → l[j]? = some y → y.2.2.1 = true) → ∀ w', Ext [] w w' → Fun Tryz.prog x.1 x.2.1 w' (.bool x.2.2.1)) :
    Fun Tryz.prog 95 [.slice a l.length cap] w (.int .i64 (fstL l)) := by
  refine Tri.enter (bx := []) (hp := []) Tryz.func95 rfl (by kernel_rfl) rfl (Own.nil w) ?_
  refine At.go [] [] rfl (by and_intros <;> first | exact trivial | exact oK) ?_
  refine At.loop (env0 := [(5, .slice a l.length cap), (6, .int .i64 ↑l.length), (7, .int .i64 0)]) (fun m_ env bx hp => ∃ (i : Nat), m_ = l.length - i ∧ (i ≤ l.length) ∧ (fstL l = fstL (l.drop i)) ∧ (∀ (j : Nat) (y : LookE), j < i → l[j]? = some y → y.2.2.1 = true) ∧ env = [(5, .slice a l.length cap), (6, .int .i64 ↑l.length), (7, .int .i64 i)] ∧ bx = [] ∧ hp = []) rfl
    ⟨0, rfl, (by omega), (rfl), (fun j y h => absurd h (Nat.not_lt_zero j)), rfl, rfl, rfl⟩ sB ?_
  rintro m_ env bx hp ⟨i, rfl, hi, he, hok, rfl, rfl, rfl⟩ ih
  by_cases hlt : i < l.length
  · obtain ⟨x, hxi⟩ : ∃ x, l[i]? = some x := ⟨_, List.getElem?_eq_getElem hlt⟩
    have hdr : l.drop i = x :: l.drop (i + 1) := by
      rw [List.drop_eq_getElem_cons hlt]
      rw [List.getElem?_eq_getElem hlt] at hxi
      rw [Option.some.inj hxi]
    have hg := fun j u (hu : (lookC x)[j]? = some u) => flat_get (f := lookC) (sz := 2) (fun _ _ => rfl) hxi j u hu
    obtain ⟨g, o, rfl, hc⟩ := hr.get (by intro e; have := hg 0 _ rfl; rw [e] at this; cases this)
    obtain ⟨F, ca, b, e⟩ := x
    have rE : ∀ {bx : Bx} {hp : List Seg}, RdW ⟨w, kys [] []⟩ bx hp g (o + (i : Int).toNat * 2) [.func (.func F) ⟨[]⟩ ⟨ca⟩, .int .i64 e] := fun {_ _} => RdW.base (by simp [kys]) fun j u hu => by
      rw [show o + (i : Int).toNat * 2 + j = o + (i * 2 + j) by omega]
      exact hc _ u (hg j u hu)
    have fF : ∀ {bx : Bx} {hp : List Seg}, CallOb Tryz.prog ⟨w, kys [] []⟩ bx hp F (allArgs [] [] ca) (.bool b) := fun {_ _} w' hw' => by
      rw [allArgs_eq]; exact hf i (F, ca, b, e) hxi hok w' hw'.ext
    rw [hdr] at he
    cases b with
    | true =>
      refine At.go [true] [hR [.func (Fn.func F) ⟨[]⟩ { toList := ca }, .int .i64 e]] rfl (by and_intros <;> first | exact rE | exact fF | exact decide_eq_true (by omega) | exact oK) ?_
      refine At.al fun b4 hb4 => ?_
      refine At.go [false] [hB 0, hB 0, hC (.bool true)] rfl (by and_intros <;> first | exact rE | exact fF | exact decide_eq_true (by omega) | exact oK) ?_
      refine At.keep [false] [] rfl ?_
      exact At.weak (ih _ _ _ _ (by omega) ⟨i + 1, rfl, by omega, by rw [he, fstL]; rfl, fun j y hj hy => by { by_cases h : j = i; { subst h; rw [hxi] at hy; cases hy; rfl }; exact hok j y (by omega) hy }, rfl, rfl, rfl⟩) sB
    | false =>
      refine At.go [true] [hR [.func (Fn.func F) ⟨[]⟩ { toList := ca }, .int .i64 e]] rfl (by and_intros <;> first | exact rE | exact fF | exact decide_eq_true (by omega) | exact oK) ?_
      refine At.al fun b4 hb4 => ?_
      refine At.go [true] [hB 0, hB 0, hC (.bool false), hB 0] rfl (by and_intros <;> first | exact rE | exact fF | exact decide_eq_true (by omega) | exact oK) ?_
      rw [he, show fstL ((F, ca, false, e) :: l.drop (i + 1)) = e from rfl]
      refine At.rt [false] [] [] Tryz.func95 ?_
      exact ⟨rfl, rfl, rfl⟩
  · obtain rfl : i = l.length := by omega
    rw [List.drop_of_length_le (Nat.le_refl _)] at he
    rw [he]
    refine At.go [false] [] rfl (by and_intros <;> first | exact decide_eq_false (by omega) | exact oK) ?_
    refine At.rt [] [] [] Tryz.func95 ?_
    exact ⟨rfl, rfl, rfl⟩
end Go.Proofs

/-
  Walks of layer 8 and of its document: a header got.
-/
import Derived.Test.YtacpcbobkeedbaaGreatDoorM21
import Derived.Test.YtacpcbobkeedbaaGreatDoorM16
import Derived.Test.YtacpcbobkeedbaaGreatDoorM7
import Derived.Test.YtacpcbobkeedbaaGreatDoorM28
/-
  Walks of layer 8 and of its document: a header got.
-/
namespace Go.Proofs
open Go Go.Eng
set_option maxRecDepth 100000
set_option maxHeartbeats 4000000
attribute [local irreducible] Tri

end Go.Proofs

/-
  Walk of layer 8: a header got.
-/
namespace Go.Proofs
open Go Go.Eng
set_option maxRecDepth 100000
set_option maxHeartbeats 4000000
attribute [local irreducible] Tri

theorem Tryz.headGet0_w (l : List UInt8) (n : Int) (w : World) (hl : l.length ≤ 9223372036854775807) (hn : 1 ≤ n ∧ n ≤ 32) :
    Fun Tryz.prog 133 [str l, .int .i64 n] w (.tuple #[.agg ⟨hdC (hdG l n).1⟩, .int .i64 (hdG l n).2]) := by
  have hbl : bl ⟨l.toArray⟩ = l := bl_of l
  refine Tri.enter (bx := []) (hp := []) Tryz.func133 rfl (by kernel_rfl) rfl (Own.nil w) ?_
  have ND : ∀ {S : Base} {bx : Bx} {hp : List Seg}, CallOb Tryz.prog S bx hp 125 [.int .i64 n] (.bool true) := fun {_ _ _} w' _ => by have := Tryz.digest_w n w'; rwa [decide_eq_true hn] at this
  refine At.go [] [] rfl (by and_intros <;> first | exact ND | exact oK) ?_
  refine At.al fun b4 hb4 => ?_
  refine At.go [false] [hC (.bool true)] rfl (by and_intros <;> first | exact ND | exact oK) ?_
  refine At.al fun b6 hb6 => ?_
  refine At.go [] [] rfl (by and_intros <;> first | exact ND | exact oK) ?_
  refine At.step [] rfl rfl rfl rfl rfl trivial (OpOk.call rfl (fun w' hw' => Tryz.Read_w ⟨l.toArray⟩ w') ?_)
  rintro _ _ _ ⟨b, rfl, rfl, rfl⟩
  obtain ⟨n1, a1, f1, hD1⟩ : ∃ n a f, rdN l 0 0 1099511627776 = (n, a, f) := ⟨_, _, _, rfl⟩
  have ha1 := rdN_a (l := l) (a := 0) (f := 0) (most := 1099511627776) (by omega)
  have hn1 := rdN_lt l 0 0 1099511627776
  rw [hD1] at ha1 hn1
  obtain ⟨n2, a2, f2, hD2⟩ : ∃ n a f, rdN l a1 f1 1099511627776 = (n, a, f) := ⟨_, _, _, rfl⟩
  have ha2 := rdN_a (l := l) (a := a1) (f := f1) (most := 1099511627776) ha1.2
  have hn2 := rdN_lt l a1 f1 1099511627776
  rw [hD2] at ha2 hn2
  obtain ⟨n3, a3, f3, hD3⟩ : ∃ n a f, rdN l a2 f2 64 = (n, a, f) := ⟨_, _, _, rfl⟩
  have ha3 := rdN_a (l := l) (a := a2) (f := f2) (most := 64) ha2.2
  have hn3 := rdN_lt l a2 f2 64
  rw [hD3] at ha3 hn3
  obtain ⟨n4, a4, f4, hD4⟩ : ∃ n a f, rdN l a3 f3 1099511627776 = (n, a, f) := ⟨_, _, _, rfl⟩
  have ha4 := rdN_a (l := l) (a := a3) (f := f3) (most := 1099511627776) ha3.2
  have hn4 := rdN_lt l a3 f3 1099511627776
  rw [hD4] at ha4 hn4
  obtain ⟨x5, a5, f5, hD5⟩ : ∃ x a f, rdW l a4 f4 n = (x, a, f) := ⟨_, _, _, rfl⟩
  have ha5 := rdW_a (l := l) (a := a4) (f := f4) (m := n) ha4.2
  have hx5 := rdW_len (l := l) (a := a4) (f := f4) (m := n) (by omega)
  rw [hD5] at ha5 hx5
  obtain ⟨x6, a6, f6, hD6⟩ : ∃ x a f, rdW l a5 f5 n = (x, a, f) := ⟨_, _, _, rfl⟩
  have ha6 := rdW_a (l := l) (a := a5) (f := f5) (m := n) ha5.2
  have hx6 := rdW_len (l := l) (a := a5) (f := f5) (m := n) (by omega)
  rw [hD6] at ha6 hx6
  simp only at ha1 hn1 ha2 hn2 ha3 hn3 ha4 hn4 ha5 hx5 ha6 hx6
  have hR : hdR l n = ⟨⟨n1, n2, n3, n4, x5, x6⟩, a6, f6⟩ := by simp only [hdR, hD1, hD2, hD3, hD4, hD5, hD6]
  have hG : hdG l n = if f6 ≠ 0 then (hd0, f6) else if a6 < l.length ∨ mayH ⟨n1, n2, n3, n4, x5, x6⟩ n = false then (hd0, 3) else (⟨n1, n2, n3, n4, x5, x6⟩, 0) := by unfold hdG; rw [hR]
  clear hR
  have hin : inK .i64 n := by simp only [inK]; omega
  have N1 : ∀ {i : Nat} {bx : Bx} {hp : List Seg}, nth bx i = some (b, 240, rdr ⟨l.toArray⟩ 0 0) → CallU Tryz.prog ⟨w, kys [] []⟩ bx hp 166 [.pointer (some ⟨b, 0, none⟩), .int .u64 1099511627776] (.int .u64 n1) (b, 240, rdr ⟨l.toArray⟩ a1 f1) := fun {i _ _} h w' hw' => by
    have := Tryz.Num_w ⟨l.toArray⟩ 0 0 b 1099511627776 w' (by omega) (by rw [hbl]; exact hl) (hw'.own1 i h)
    rw [hbl, hD1] at this; exact this
  have N2 : ∀ {i : Nat} {bx : Bx} {hp : List Seg}, nth bx i = some (b, 240, rdr ⟨l.toArray⟩ a1 f1) → CallU Tryz.prog ⟨w, kys [] []⟩ bx hp 166 [.pointer (some ⟨b, 0, none⟩), .int .u64 1099511627776] (.int .u64 n2) (b, 240, rdr ⟨l.toArray⟩ a2 f2) := fun {i _ _} h w' hw' => by
    have := Tryz.Num_w ⟨l.toArray⟩ a1 f1 b 1099511627776 w' (by rw [hbl]; exact ha1.2) (by rw [hbl]; exact hl) (hw'.own1 i h)
    rw [hbl, hD2] at this; exact this
  have N3 : ∀ {i : Nat} {bx : Bx} {hp : List Seg}, nth bx i = some (b, 240, rdr ⟨l.toArray⟩ a2 f2) → CallU Tryz.prog ⟨w, kys [] []⟩ bx hp 166 [.pointer (some ⟨b, 0, none⟩), .int .u64 64] (.int .u64 n3) (b, 240, rdr ⟨l.toArray⟩ a3 f3) := fun {i _ _} h w' hw' => by
    have := Tryz.Num_w ⟨l.toArray⟩ a2 f2 b 64 w' (by rw [hbl]; exact ha2.2) (by rw [hbl]; exact hl) (hw'.own1 i h)
    rw [hbl, hD3] at this; exact this
  have N4 : ∀ {i : Nat} {bx : Bx} {hp : List Seg}, nth bx i = some (b, 240, rdr ⟨l.toArray⟩ a3 f3) → CallU Tryz.prog ⟨w, kys [] []⟩ bx hp 166 [.pointer (some ⟨b, 0, none⟩), .int .u64 1099511627776] (.int .u64 n4) (b, 240, rdr ⟨l.toArray⟩ a4 f4) := fun {i _ _} h w' hw' => by
    have := Tryz.Num_w ⟨l.toArray⟩ a3 f3 b 1099511627776 w' (by rw [hbl]; exact ha3.2) (by rw [hbl]; exact hl) (hw'.own1 i h)
    rw [hbl, hD4] at this; exact this
  have N5 : ∀ {i : Nat} {bx : Bx} {hp : List Seg}, nth bx i = some (b, 240, rdr ⟨l.toArray⟩ a4 f4) → CallU Tryz.prog ⟨w, kys [] []⟩ bx hp 167 [.pointer (some ⟨b, 0, none⟩), .int .i64 n] (str x5) (b, 240, rdr ⟨l.toArray⟩ a5 f5) := fun {i _ _} h w' hw' => by
    have := Tryz.Row_w ⟨l.toArray⟩ a4 f4 n b w' (by rw [hbl]; exact ha4.2) (by rw [hbl]; exact hl) hin (hw'.own1 i h)
    rw [hbl, hD5] at this; exact this
  have N6 : ∀ {i : Nat} {bx : Bx} {hp : List Seg}, nth bx i = some (b, 240, rdr ⟨l.toArray⟩ a5 f5) → CallU Tryz.prog ⟨w, kys [] []⟩ bx hp 167 [.pointer (some ⟨b, 0, none⟩), .int .i64 n] (str x6) (b, 240, rdr ⟨l.toArray⟩ a6 f6) := fun {i _ _} h w' hw' => by
    have := Tryz.Row_w ⟨l.toArray⟩ a5 f5 n b w' (by rw [hbl]; exact ha5.2) (by rw [hbl]; exact hl) hin (hw'.own1 i h)
    rw [hbl, hD6] at this; exact this
  obtain ⟨q, hq⟩ : ∃ q : Nat, l.length - a6 = q := ⟨_, rfl⟩
  have NL : ∀ {i : Nat} {bx : Bx} {hp : List Seg}, nth bx i = some (b, 240, rdr ⟨l.toArray⟩ a6 f6) → CallOb Tryz.prog ⟨w, kys [] []⟩ bx hp 168 [.pointer (some ⟨b, 0, none⟩)] (.int .i64 q) := fun {i _ _} h w' hw' => by
    have := Tryz.Left_w ⟨l.toArray⟩ a6 f6 b w' (by rw [hbl]; exact ha6.2) (by rw [hbl]; exact hl) (hw'.bx _ (nth_mem h))
    rw [hbl, hq] at this; exact this
  obtain ⟨M, hM⟩ : ∃ M, mayH ⟨n1, n2, n3, n4, x5, x6⟩ n = M := ⟨_, rfl⟩
  have NM : ∀ {S : Base} {bx : Bx} {hp : List Seg}, CallOb Tryz.prog S bx hp 127 [.agg ⟨[.int .i64 n1, .int .i64 n2, .int .i64 n3, .int .i64 n4, str x5, str x6]⟩, .int .i64 n] (.bool M) := fun {_ _ _} w' _ => by
    rw [← hM]; exact Tryz.headMay_w ⟨n1, n2, n3, n4, x5, x6⟩ n w' (by simp only; omega) (by simp only; omega) hn
  rw [hM] at hG
  rw [hG]
  clear hG
  refine At.go [] [] rfl (by and_intros <;> first | exact ND | exact oK) ?_
  refine At.st [] (OpOk.buildSlice rfl rfl rfl rfl rfl rfl rfl (fun bs hbs => ?_))
  refine At.go [] [] rfl oK ?_
  refine At.unr ?_
  refine At.go [true] [hB 0] rfl (by and_intros <;> first | exact N1 (i := 2) rfl | exact oK) ?_
  refine At.al fun b9 hb9 => ?_
  refine At.go [] [hB 0] rfl (by and_intros <;> first | exact N1 (i := 2) rfl | exact oK) ?_
  refine At.dr 9 ?_
  refine AtD.pu [0, 2, 3] 6 rfl (by and_intros <;> first | exact N1 (i := 2) rfl | exact oK) ?_
  refine AtH.readsK [true, false, false, false, false] [] [1, 4] [hB 0, hB 0] rfl rfl (by and_intros <;> first | exact N1 (i := 2) rfl | exact oK) rfl rfl (fuel := 4) ?_
  refine AtH.f1 5 rfl (OpOk.one true [] [hU (.int .u64 ↑n1) 2 (rdr { data := l.toArray } a1 f1)] rfl (by first | exact N1 (i := 2) rfl | exact oK) ⟨fun w hw => hw.selK [true, false, false, false, false] [], ?_⟩)
  refine AtH.f1 6 rfl (OpOk.one true [] [] rfl (by and_intros <;> first | exact N1 (i := 2) rfl | exact oK) ⟨fun w hw => hw.selK [true, false, false, false, false] [], ?_⟩)
  refine AtH.f1 7 rfl (OpOk.one true [] [] rfl (by and_intros <;> first | exact N1 (i := 2) rfl | exact oK) ⟨fun w hw => hw.selK [true, false, false, false, false] [], ?_⟩)
  refine AtH.f1 8 rfl (OpOk.one true [] [hB 3] rfl (by first | exact N1 (i := 2) rfl | exact oK) ⟨fun w hw => hw.selK [true, false, false, false, false] [], ?_⟩)
  refine AtH.dn ?_
  refine At.go [] [] rfl (by and_intros <;> first | exact N1 (i := 2) rfl | exact oK) ?_
  refine At.una ?_
  refine At.go [true] [hB 1] rfl (by and_intros <;> first | exact N2 (i := 3) rfl | exact oK) ?_
  refine At.al fun b9 hb9 => ?_
  refine At.go [] [hB 0] rfl (by and_intros <;> first | exact N2 (i := 3) rfl | exact oK) ?_
  refine At.dr 9 ?_
  refine AtD.pu [0, 2, 3] 6 rfl (by and_intros <;> first | exact N2 (i := 3) rfl | exact oK) ?_
  refine AtH.readsK [true, false, false, false, false, false] [] [1, 4] [hB 0, hB 0] rfl rfl (by and_intros <;> first | exact N2 (i := 3) rfl | exact oK) rfl rfl (fuel := 4) ?_
  refine AtH.f1 5 rfl (OpOk.one true [] [hU (.int .u64 ↑n2) 3 (rdr { data := l.toArray } a2 f2)] rfl (by first | exact N2 (i := 3) rfl | exact oK) ⟨fun w hw => hw.selK [true, false, false, false, false, false] [], ?_⟩)
  refine AtH.f1 6 rfl (OpOk.one true [] [] rfl (by and_intros <;> first | exact N2 (i := 3) rfl | exact oK) ⟨fun w hw => hw.selK [true, false, false, false, false, false] [], ?_⟩)
  refine AtH.f1 7 rfl (OpOk.one true [] [] rfl (by and_intros <;> first | exact N2 (i := 3) rfl | exact oK) ⟨fun w hw => hw.selK [true, false, false, false, false, false] [], ?_⟩)
  refine AtH.f1 8 rfl (OpOk.one true [] [hB 4] rfl (by first | exact N2 (i := 3) rfl | exact oK) ⟨fun w hw => hw.selK [true, false, false, false, false, false] [], ?_⟩)
  refine AtH.dn ?_
  refine At.go [] [] rfl (by and_intros <;> first | exact N2 (i := 3) rfl | exact oK) ?_
  refine At.una ?_
  refine At.go [true] [hB 2] rfl (by and_intros <;> first | exact N3 (i := 4) rfl | exact oK) ?_
  refine At.al fun b9 hb9 => ?_
  refine At.go [] [hB 0] rfl (by and_intros <;> first | exact N3 (i := 4) rfl | exact oK) ?_
  refine At.dr 9 ?_
  refine AtD.pu [0, 2, 3] 6 rfl (by and_intros <;> first | exact N3 (i := 4) rfl | exact oK) ?_
  refine AtH.readsK [true, false, false, false, false, false, false] [] [1, 4] [hB 0, hB 0] rfl rfl (by and_intros <;> first | exact N3 (i := 4) rfl | exact oK) rfl rfl (fuel := 4) ?_
  refine AtH.f1 5 rfl (OpOk.one true [] [hU (.int .u64 ↑n3) 4 (rdr { data := l.toArray } a3 f3)] rfl (by first | exact N3 (i := 4) rfl | exact oK) ⟨fun w hw => hw.selK [true, false, false, false, false, false, false] [], ?_⟩)
  refine AtH.f1 6 rfl (OpOk.one true [] [] rfl (by and_intros <;> first | exact N3 (i := 4) rfl | exact oK) ⟨fun w hw => hw.selK [true, false, false, false, false, false, false] [], ?_⟩)
  refine AtH.f1 7 rfl (OpOk.one true [] [] rfl (by and_intros <;> first | exact N3 (i := 4) rfl | exact oK) ⟨fun w hw => hw.selK [true, false, false, false, false, false, false] [], ?_⟩)
  refine AtH.f1 8 rfl (OpOk.one true [] [hB 5] rfl (by first | exact N3 (i := 4) rfl | exact oK) ⟨fun w hw => hw.selK [true, false, false, false, false, false, false] [], ?_⟩)
  refine AtH.dn ?_
  refine At.go [] [] rfl (by and_intros <;> first | exact N3 (i := 4) rfl | exact oK) ?_
  refine At.una ?_
  refine At.go [true] [hB 3] rfl (by and_intros <;> first | exact N4 (i := 5) rfl | exact oK) ?_
  refine At.al fun b9 hb9 => ?_
  refine At.go [] [hB 0] rfl (by and_intros <;> first | exact N4 (i := 5) rfl | exact oK) ?_
  refine At.dr 9 ?_
  refine AtD.pu [0, 2, 3] 6 rfl (by and_intros <;> first | exact N4 (i := 5) rfl | exact oK) ?_
  refine AtH.readsK [true, false, false, false, false, false, false, false] [] [1, 4] [hB 0, hB 0] rfl rfl (by and_intros <;> first | exact N4 (i := 5) rfl | exact oK) rfl rfl (fuel := 4) ?_
  refine AtH.f1 5 rfl (OpOk.one true [] [hU (.int .u64 ↑n4) 5 (rdr { data := l.toArray } a4 f4)] rfl (by first | exact N4 (i := 5) rfl | exact oK) ⟨fun w hw => hw.selK [true, false, false, false, false, false, false, false] [], ?_⟩)
  refine AtH.f1 6 rfl (OpOk.one true [] [] rfl (by and_intros <;> first | exact N4 (i := 5) rfl | exact oK) ⟨fun w hw => hw.selK [true, false, false, false, false, false, false, false] [], ?_⟩)
  refine AtH.f1 7 rfl (OpOk.one true [] [] rfl (by and_intros <;> first | exact N4 (i := 5) rfl | exact oK) ⟨fun w hw => hw.selK [true, false, false, false, false, false, false, false] [], ?_⟩)
  refine AtH.f1 8 rfl (OpOk.one true [] [hB 6] rfl (by first | exact N4 (i := 5) rfl | exact oK) ⟨fun w hw => hw.selK [true, false, false, false, false, false, false, false] [], ?_⟩)
  refine AtH.dn ?_
  refine At.go [] [] rfl (by and_intros <;> first | exact N4 (i := 5) rfl | exact oK) ?_
  refine At.keep [false, false, false, false, false, true, true, true] [] rfl ?_
  refine At.una ?_
  have NFl : ∀ {i : Nat} {bx : Bx} {hp : List Seg}, nth bx i = some (b, 240, rdr ⟨l.toArray⟩ a6 f6) → CallU Tryz.prog ⟨w, kys [] []⟩ bx hp 169 [.pointer (some ⟨b, 0, none⟩), .int .i64 3] (.tuple #[]) (b, 240, rdr ⟨l.toArray⟩ a6 (if f6 = 0 then 3 else f6)) := fun {i _ _} h w' hw' => Tryz.Fail_w ⟨l.toArray⟩ a6 f6 3 b w' (hw'.own1 i h)
  have NF0 : ∀ {i : Nat} {bx : Bx} {hp : List Seg}, nth bx i = some (b, 240, rdr ⟨l.toArray⟩ a6 f6) → CallOb Tryz.prog ⟨w, kys [] []⟩ bx hp 170 [.pointer (some ⟨b, 0, none⟩)] (.int .i64 f6) := fun {i _ _} h w' hw' => Tryz.Fault_w ⟨l.toArray⟩ a6 f6 b w' (hw'.bx _ (nth_mem h))
  have NF1 : ∀ {i : Nat} {bx : Bx} {hp : List Seg}, nth bx i = some (b, 240, rdr ⟨l.toArray⟩ a6 3) → CallOb Tryz.prog ⟨w, kys [] []⟩ bx hp 170 [.pointer (some ⟨b, 0, none⟩)] (.int .i64 3) := fun {i _ _} h w' hw' => Tryz.Fault_w ⟨l.toArray⟩ a6 3 b w' (hw'.bx _ (nth_mem h))
  by_cases hf : f6 = 0
  · subst hf
    rw [if_pos rfl] at NFl
    by_cases hq0 : 0 < q
    · refine At.go [false, true, true, true] [hU (.string { data := x5.toArray }) 0 (rdr { data := l.toArray } a5 f5), hB 1, hU (.string { data := x6.toArray }) 0 (rdr { data := l.toArray } a6 0), hB 1, hC (.int .i64 ↑q), hU (.tuple ⟨[]⟩) 0 (rdr { data := l.toArray } a6 3), hC (.int .i64 3), hB 2] rfl (by and_intros <;> first | exact N5 (i := 0) rfl | exact N6 (i := 0) rfl | exact NL (i := 0) rfl | exact NM | exact NF0 (i := 0) rfl | exact NF1 (i := 0) rfl | exact NFl (i := 0) rfl | exact NFm (i := 0) rfl | exact decide_eq_true (by omega) | (simp; done) | exact oK) ?_
      refine At.rt [] [] [hB 2] Tryz.func133 ?_
      exact ⟨by rw [if_neg (by simp), if_pos (.inl (by omega))]; rfl, rfl, rfl⟩
    · cases M
      · refine At.go [false, false, true, true] [hU (.string { data := x5.toArray }) 0 (rdr { data := l.toArray } a5 f5), hB 1, hU (.string { data := x6.toArray }) 0 (rdr { data := l.toArray } a6 0), hB 1, hC (.int .i64 ↑q), hB 1, hC (.bool false), hU (.tuple ⟨[]⟩) 0 (rdr { data := l.toArray } a6 3), hC (.int .i64 3), hB 2] rfl (by and_intros <;> first | exact N5 (i := 0) rfl | exact N6 (i := 0) rfl | exact NL (i := 0) rfl | exact NM | exact NF0 (i := 0) rfl | exact NF1 (i := 0) rfl | exact NFl (i := 0) rfl | exact NFm (i := 0) rfl | exact decide_eq_false (by omega) | (simp; done) | exact oK) ?_
        refine At.rt [] [] [hB 2] Tryz.func133 ?_
        exact ⟨by rw [if_neg (by simp), if_pos (.inr rfl)]; rfl, rfl, rfl⟩
      · refine At.go [false, false, false, false] [hU (.string { data := x5.toArray }) 0 (rdr { data := l.toArray } a5 f5), hB 1, hU (.string { data := x6.toArray }) 0 (rdr { data := l.toArray } a6 0), hB 1, hC (.int .i64 ↑q), hB 1, hC (.bool true), hC (.int .i64 0), hB 1, hB 2] rfl (by and_intros <;> first | exact N5 (i := 0) rfl | exact N6 (i := 0) rfl | exact NL (i := 0) rfl | exact NM | exact NF0 (i := 0) rfl | exact NF1 (i := 0) rfl | exact NFl (i := 0) rfl | exact NFm (i := 0) rfl | exact decide_eq_false (by omega) | (simp; done) | exact oK) ?_
        refine At.rt [] [] [hB 2] Tryz.func133 ?_
        exact ⟨by rw [if_neg (by simp), if_neg (by simp; omega)]; rfl, rfl, rfl⟩
  · rw [if_neg hf] at NFl
    by_cases hq0 : 0 < q
    · refine At.go [false, true, true, true] [hU (.string { data := x5.toArray }) 0 (rdr { data := l.toArray } a5 f5), hB 1, hU (.string { data := x6.toArray }) 0 (rdr { data := l.toArray } a6 f6), hB 1, hC (.int .i64 ↑q), hU (.tuple ⟨[]⟩) 0 (rdr { data := l.toArray } a6 f6), hC (.int .i64 f6), hB 2] rfl (by and_intros <;> first | exact N5 (i := 0) rfl | exact N6 (i := 0) rfl | exact NL (i := 0) rfl | exact NM | exact NF0 (i := 0) rfl | exact NF1 (i := 0) rfl | exact NFl (i := 0) rfl | exact NFm (i := 0) rfl | exact decide_eq_true (by omega) | (simp [hf]; done) | exact oK) ?_
      refine At.rt [] [] [hB 2] Tryz.func133 ?_
      exact ⟨by rw [if_pos hf]; rfl, rfl, rfl⟩
    · cases M
      · refine At.go [false, false, true, true] [hU (.string { data := x5.toArray }) 0 (rdr { data := l.toArray } a5 f5), hB 1, hU (.string { data := x6.toArray }) 0 (rdr { data := l.toArray } a6 f6), hB 1, hC (.int .i64 ↑q), hB 1, hC (.bool false), hU (.tuple ⟨[]⟩) 0 (rdr { data := l.toArray } a6 f6), hC (.int .i64 f6), hB 2] rfl (by and_intros <;> first | exact N5 (i := 0) rfl | exact N6 (i := 0) rfl | exact NL (i := 0) rfl | exact NM | exact NF0 (i := 0) rfl | exact NF1 (i := 0) rfl | exact NFl (i := 0) rfl | exact NFm (i := 0) rfl | exact decide_eq_false (by omega) | (simp [hf]; done) | exact oK) ?_
        refine At.rt [] [] [hB 2] Tryz.func133 ?_
        exact ⟨by rw [if_pos hf]; rfl, rfl, rfl⟩
      · refine At.go [false, false, false, true] [hU (.string { data := x5.toArray }) 0 (rdr { data := l.toArray } a5 f5), hB 1, hU (.string { data := x6.toArray }) 0 (rdr { data := l.toArray } a6 f6), hB 1, hC (.int .i64 ↑q), hB 1, hC (.bool true), hC (.int .i64 f6), hB 2] rfl (by and_intros <;> first | exact N5 (i := 0) rfl | exact N6 (i := 0) rfl | exact NL (i := 0) rfl | exact NM | exact NF0 (i := 0) rfl | exact NF1 (i := 0) rfl | exact NFl (i := 0) rfl | exact NFm (i := 0) rfl | exact decide_eq_false (by omega) | (simp [hf]; done) | exact oK) ?_
        refine At.rt [] [] [hB 2] Tryz.func133 ?_
        exact ⟨by rw [if_pos hf]; rfl, rfl, rfl⟩
end Go.Proofs

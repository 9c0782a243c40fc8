/-
  Walks of layer 21 and of layer 9's document: a file read.
-/
import Derived.Test.YtacpcbobkeedbaaGreatDoorM16
import Derived.Test.YtacpcbobkeedbaaGreatDoorM7
import Derived.Test.YtacpcbobkeedbaaGreatDoorM28
import Derived.Test.YtacpcbobkeedbaaGreatDoorM24
import Derived.Test.YtacpcbobkeedbaaGreatDoorM12
/-
  Walks of layer 21 and of layer 9's document: a file read.
-/
namespace Go.Proofs
open Go Go.Eng
set_option maxRecDepth 100000
set_option maxHeartbeats 4000000
attribute [local irreducible] Tri

theorem Tryz.shHeads_w (w : World) : Fun Tryz.prog 118 [] w (str headsB) := by
  refine Tri.enter (bx := []) (hp := []) Tryz.func118 rfl (by kernel_rfl) rfl (Own.nil w) ?_
  refine At.go [] [] rfl (by and_intros <;> first | exact trivial | exact oK) ?_
  refine At.rt [] [] [] Tryz.func118 ?_
  exact ⟨rfl, rfl, rfl⟩
theorem Tryz.imRead1_w (n : List UInt8) (p : List UInt8 × List UInt8) (b : Nat) (w : World) (hb : SlOk w (some ⟨b, 0, none⟩) [str n]) :
    Fun Tryz.prog 163 [.agg ⟨[str p.1, str p.2]⟩, .pointer (some ⟨b, 0, none⟩)] w (.bool (decide (p.1 = n))) := by
  obtain ⟨g, o, hgo, hc⟩ := hb.get (by simp)
  cases hgo
  have r1 : ∀ {bx : Bx} {hp : List Seg}, RdW ⟨w, kys [] []⟩ bx hp b 0 [str n] := fun {_ _} => RdW.base1 (by simp [kys]) (hc 0 _ rfl)
  refine Tri.enter (bx := []) (hp := []) Tryz.func163 rfl (by kernel_rfl) rfl (Own.nil w) ?_
  refine At.go [] [] rfl (by and_intros <;> first | exact r1 | exact oK) ?_
  refine At.bo fun b2 hb2 => ?_
  refine At.go [] [hB 0, hR [.string { data := n.toArray }]] rfl (by and_intros <;> first | exact r1 | exact oK) ?_
  refine At.rt [] [] [] Tryz.func163 ?_
  exact ⟨by simp only [bl_of]; rfl, rfl, rfl⟩
theorem Tryz.indexFile_w (S : FL) (a : Option Addr) (cap F : Nat) (ca : List Value) (p : List UInt8 × List UInt8 → Bool) (w : World) (hlen : S.length ≤ 1048576) (hrow : SlOk w a (fl S))
    (hf : ∀ x, x ∈ S → ∀ w', Ext [] w w' → Fun Tryz.prog F ([.agg ⟨[str x.1, str x.2]⟩] ++ ca) w' (.bool (p x))) :
    Fun Tryz.prog 164 [.slice a S.length cap, .func (.func F) ⟨[]⟩ ⟨ca⟩] w (.int .i64 (idxF p S)) := by
  refine Tri.enter (bx := []) (hp := []) Tryz.func164 rfl (by kernel_rfl) rfl (Own.nil w) ?_
  refine At.go [] [] rfl (by and_intros <;> first | exact trivial | exact oK) ?_
  refine At.loop (env0 := [(0, .slice a (List.length S) cap), (1, .func (Fn.func F) ⟨[]⟩ { toList := ca }), (7, .int .i64 ↑(List.length S)), (8, .int .i64 0)]) (fun m_ env bx hp => ∃ (i : Nat), m_ = S.length - i ∧ (i ≤ S.length) ∧ (∀ j q, j < i → S[j]? = some q → p q = false) ∧ env = [(0, .slice a (List.length S) cap), (1, .func (Fn.func F) ⟨[]⟩ { toList := ca }), (7, .int .i64 ↑(List.length S)), (8, .int .i64 i)] ∧ bx = [] ∧ hp = []) rfl
    ⟨0, rfl, (by omega), (fun j q h => absurd h (Nat.not_lt_zero j)), rfl, rfl, rfl⟩ sB ?_
  rintro m_ env bx hp ⟨i, rfl, hi, hno, rfl, rfl, rfl⟩ ih
  by_cases hlt : i < S.length
  · obtain ⟨x, hx⟩ : ∃ x, S[i]? = some x := ⟨_, List.getElem?_eq_getElem hlt⟩
    have hmem := List.mem_of_getElem? hx
    obtain ⟨g, o, rfl, hc⟩ := hrow.get (fl_ne (by intro h; rw [h] at hlt; simp at hlt))
    have r1 : ∀ {bx : Bx} {hp : List Seg}, RdW ⟨w, kys [] []⟩ bx hp g (o + (i : Int).toNat * 2) [str x.1, str x.2] := fun {_ _} => RdW.fileE hc (by simp [kys]) hx (by omega)
    have hcb : ∀ {bx : Bx} {hp : List Seg}, CallOb Tryz.prog ⟨w, kys [] []⟩ bx hp F (allArgs [] [.agg ⟨[str x.1, str x.2]⟩] ca) (.bool (p x)) := fun {_ _} w' hw' => by rw [allArgs_eq]; exact hf x hmem w' hw'.ext
    cases hp : p x with
    | true =>
      rw [hp] at hcb
      refine At.go [true, true] [hR [.string { data := x.fst.toArray }, .string { data := x.snd.toArray }], hC (.bool true)] rfl (by and_intros <;> first | exact r1 | exact hcb | exact decide_eq_true (by omega) | exact oK) ?_
      refine At.rt [] [] [] Tryz.func164 ?_
      exact ⟨by rw [idxF_hit hno hx hp]; rfl, rfl, rfl⟩
    | false =>
      rw [hp] at hcb
      refine At.go [true, false] [hR [.string { data := x.fst.toArray }, .string { data := x.snd.toArray }], hC (.bool false)] rfl (by and_intros <;> first | exact r1 | exact hcb | exact decide_eq_true (by omega) | exact oK) ?_
      exact At.weak (ih _ _ _ _ (by omega) ⟨i + 1, rfl, by omega, idxF_step hno hx hp, rfl, rfl, rfl⟩) sB
  · obtain rfl : i = S.length := by omega
    refine At.go [false] [] rfl (by and_intros <;> first | exact decide_eq_false (by omega) | exact oK) ?_
    refine At.rt [] [] [] Tryz.func164 ?_
    exact ⟨by rw [idxF_no hno]; rfl, rfl, rfl⟩
theorem Tryz.imRead_w (S : FL) (n : List UInt8) (a : Option Addr) (cap : Nat) (w : World) (hlen : S.length ≤ 1048576) (hrow : SlOk w a (fl S)) :
    Fun Tryz.prog 132 [.slice a S.length cap, str n] w (str (readN S n)) := by
  have hI : ∀ {i b : Nat} {bx : Bx} {hp : List Seg}, nth bx i = some (b, 9, [str n]) → CallOb Tryz.prog ⟨w, kys [] []⟩ bx hp 164 [.slice a S.length cap, .func (.func 163) ⟨[]⟩ ⟨[.pointer (some ⟨b, 0, none⟩)]⟩] (.int .i64 (idxF (fun q => decide (q.1 = n)) S)) := fun {i b _ _} h w' hw' =>
    Tryz.indexFile_w S a cap 163 [.pointer (some ⟨b, 0, none⟩)] (fun q => decide (q.1 = n)) w' hlen (hrow.ext hw'.ext (by simp [kys])) fun x _ w2 he => Tryz.imRead1_w n x b w2 ((SlOk.blk (hw'.bx _ (nth_mem h))).ext he (by simp))
  refine Tri.enter (bx := []) (hp := []) Tryz.func132 rfl (by kernel_rfl) rfl (Own.nil w) ?_
  rcases idxF_cases (fun q => decide (q.1 = n)) S with ⟨h1, h2⟩ | ⟨i, q, h1, hq, hqn, hno⟩
  · rw [readF_none fun p hp => of_decide_eq_false (h2 p hp)]
    rw [h1] at hI
    refine At.go [] [] rfl (by and_intros <;> first | exact hI (i := 0) rfl | exact hI (i := 1) rfl | (simp; done) | exact oK) ?_
    refine At.bo fun b3 hb3 => ?_
    refine At.go [true] [hC (.int .i64 (-1))] rfl (by and_intros <;> first | exact hI (i := 0) rfl | exact hI (i := 1) rfl | (simp; done) | exact oK) ?_
    refine At.rt [] [] [] Tryz.func132 ?_
    exact ⟨rfl, rfl, rfl⟩
  · rw [readF_hit (fun k p hk hp => of_decide_eq_false (hno k p hk hp)) hq (of_decide_eq_true hqn)]
    rw [h1] at hI
    have hil := (List.getElem?_eq_some_iff.1 hq).1
    obtain ⟨g, o, rfl, hc⟩ := hrow.get (fl_ne (by intro h; rw [h] at hil; simp at hil))
    have rB : ∀ {bx : Bx} {hp : List Seg}, RdW ⟨w, kys [] []⟩ bx hp g (o + (i : Int).toNat * 2 + 1) [str q.2] := fun {_ _} => RdW.fileB hc (by simp [kys]) hq (by omega)
    refine At.go [] [] rfl (by and_intros <;> first | exact hI (i := 0) rfl | exact hI (i := 1) rfl | exact rB | exact decide_eq_false (by omega) | exact oK) ?_
    refine At.bo fun b3 hb3 => ?_
    refine At.go [false] [hC (.int .i64 ↑i), hR [.string { data := q.snd.toArray }]] rfl (by and_intros <;> first | exact hI (i := 0) rfl | exact hI (i := 1) rfl | exact rB | exact decide_eq_false (by omega) | exact oK) ?_
    refine At.rt [] [] [] Tryz.func132 ?_
    exact ⟨rfl, rfl, rfl⟩
theorem Tryz.r9Read_w (S : FL) (n : List UInt8) (a : Option Addr) (cap : Nat) (w : World) (hlen : S.length ≤ 1048576) (hrow : SlOk w a (fl S)) :
    Fun Tryz.prog 50 [.slice a S.length cap, str n] w (str (readN S n)) := by
  refine Tri.enter (bx := []) (hp := []) Tryz.func50 rfl (by kernel_rfl) rfl (Own.nil w) ?_
  refine At.go [] [] rfl (by and_intros <;> first | exact trivial | exact oK) ?_
  refine At.loop (env0 := [(0, .slice a (List.length S) cap), (1, .string { data := n.toArray }), (5, .int .i64 0)]) (fun m_ env bx hp => ∃ (i : Nat), m_ = S.length - i ∧ (i ≤ S.length) ∧ (∀ k p, k < i → S[k]? = some p → p.1 ≠ n) ∧ env = [(0, .slice a (List.length S) cap), (1, .string { data := n.toArray }), (5, .int .i64 i)] ∧ bx = [] ∧ hp = []) rfl
    ⟨0, rfl, (by omega), (fun k p h => absurd h (Nat.not_lt_zero k)), rfl, rfl, rfl⟩ sB ?_
  rintro m_ env bx hp ⟨i, rfl, hi, hno, rfl, rfl, rfl⟩ ih
  by_cases hlt : i < S.length
  · obtain ⟨p, hp⟩ : ∃ p, S[i]? = some p := ⟨_, List.getElem?_eq_getElem hlt⟩
    obtain ⟨g, o, rfl, hc⟩ := hrow.get (fl_ne (by intro h; rw [h] at hlt; simp at hlt))
    have rN : ∀ {bx : Bx} {hp : List Seg}, RdW ⟨w, kys [] []⟩ bx hp g (o + (i : Int).toNat * 2 + 0) [str p.1] := fun {_ _} => RdW.fileN hc (by simp [kys]) hp (by omega)
    have rB : ∀ {bx : Bx} {hp : List Seg}, RdW ⟨w, kys [] []⟩ bx hp g (o + (i : Int).toNat * 2 + 1) [str p.2] := fun {_ _} => RdW.fileB hc (by simp [kys]) hp (by omega)
    by_cases hn : p.1 = n
    · rw [readF_hit hno hp hn]
      refine At.go [true, true] [hR [.string { data := p.fst.toArray }], hR [.string { data := p.snd.toArray }]] rfl (by and_intros <;> first | exact rN | exact rB | (simp only [bl_of]; exact decide_eq_true hn) | exact decide_eq_true (by omega) | exact oK) ?_
      refine At.rt [] [] [] Tryz.func50 ?_
      exact ⟨rfl, rfl, rfl⟩
    · refine At.go [true, false] [hR [.string { data := p.fst.toArray }]] rfl (by and_intros <;> first | exact rN | exact rB | (simp only [bl_of]; exact decide_eq_false hn) | exact decide_eq_true (by omega) | exact oK) ?_
      exact At.weak (ih _ _ _ _ (by omega) ⟨i + 1, rfl, by omega, readF_step hno hp hn, rfl, rfl, rfl⟩) sB
  · obtain rfl : i = S.length := by omega
    rw [readF_none fun p hp => by obtain ⟨j, hj⟩ := List.getElem?_of_mem hp; exact hno j p (List.getElem?_eq_some_iff.1 hj).1 hj]
    refine At.go [false] [] rfl (by and_intros <;> first | exact decide_eq_false (by omega) | exact oK) ?_
    refine At.rt [] [] [] Tryz.func50 ?_
    exact ⟨rfl, rfl, rfl⟩
end Go.Proofs

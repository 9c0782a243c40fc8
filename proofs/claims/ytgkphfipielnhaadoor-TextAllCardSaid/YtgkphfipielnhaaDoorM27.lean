/-
  Walks of layer 32: a text's lines, one behind the other.
-/
import Derived.Test.YtgkphfipielnhaaDoorM16
import Derived.Test.YtgkphfipielnhaaDoorM7
import Derived.Test.YtgkphfipielnhaaDoorM26
import Derived.Test.YtgkphfipielnhaaDoorM17
import Derived.Test.YtgkphfipielnhaaDoorM12
import Derived.Laws.Externs
import Derived.Lib.Bytealg
import Derived.Test.YtgkphfipielnhaaDoorM24
/-
  Walks of layer 32: a text's lines, one behind the other.
-/
namespace Go.Proofs
open Go Go.Eng
set_option maxRecDepth 100000
set_option maxHeartbeats 4000000
attribute [local irreducible] Tri

theorem Own.tail {e : Nat × TypeId × List Value} {bx : Bx} {hp : List Seg} {w : World} (h : Own (e :: bx) hp w) : Own bx hp w :=
  ⟨(List.nodup_cons.1 h.nd).2, fun k hk => h.lt k (List.mem_cons_of_mem _ hk), fun e he => h.bx e (List.mem_cons_of_mem _ he), h.hp⟩
theorem idx_ln (s : List UInt8) : Lib.indexByte s 10 = if (ln1 s).length < s.length then ((ln1 s).length : Int) else -1 := by
  induction s with
  | nil => rfl
  | cons c s ih =>
    unfold Lib.indexByte
    by_cases hc : c = 10
    · subst hc
      have : ln1 (10 :: s) = [] := rfl
      rw [this]; simp
    · have h1 : (c == 10) = false := by simpa using hc
      have h2 := ln1_cons hc s
      rw [h1, h2, ih]
      simp only [Bool.false_eq_true, if_false, List.length_cons]
      by_cases h : (ln1 s).length < s.length
      · rw [if_pos h, if_pos (by omega : (ln1 s).length + 1 < s.length + 1), if_neg (by simp)]; omega
      · rw [if_neg h, if_neg (by omega : ¬ (ln1 s).length + 1 < s.length + 1)]; rfl
theorem Tryd.idxB_x (s : List UInt8) (w : World) : (callFunc 172 ⟨[str s, .int .u8 10]⟩).run Tryd.prog w = .ok (.value (.int .i64 (Lib.indexByte s 10))) w := by
  rw [show (⟨[str s, .int .u8 10]⟩ : Array Value) = #[str s, .int .u8 10] from rfl, run_callFunc_extern Tryd.func172 (by kernel_rfl) (by kernel_rfl) (by kernel_rfl) (e := Extern.BytealgIndexByte.indexByte) (by kernel_rfl)]
  have := Lib.run_indexByteString (P := Tryd.prog) ⟨s.toArray⟩ 10 w
  unfold str
  rw [this]
  rfl
theorem Tryd.idxByte_w (s : List UInt8) (w : World) : Fun Tryd.prog 88 [str s, .int .u8 10] w (.int .i64 (Lib.indexByte s 10)) := by
  have hx : ∀ {S : Base} {bx : Bx} {hp : List Seg}, ExtOb Tryd.prog S bx hp 172 [str s, .int .u8 10] (.int .i64 (Lib.indexByte s 10)) := fun {_ _ _} w' _ => Tryd.idxB_x s w'
  have h1 : ∀ w, Fun Tryd.prog 132 [str s, .int .u8 10] w (.int .i64 (Lib.indexByte s 10)) := fun w => by
    refine Tri.enter (bx := []) (hp := []) Tryd.func132 rfl (by kernel_rfl) rfl (Own.nil w) ?_
    refine At.go [] [hX (.int .i64 (Lib.indexByte s 10))] rfl (by and_intros <;> first | exact hx | exact oK) ?_
    refine At.rt [] [] [] Tryd.func132 ?_
    exact ⟨rfl, rfl, rfl⟩
  refine Tri.enter (bx := []) (hp := []) Tryd.func88 rfl (by kernel_rfl) rfl (Own.nil w) ?_
  have hC1 : ∀ {bx : Bx} {hp : List Seg}, CallOb Tryd.prog ⟨w, kys [] []⟩ bx hp 132 [str s, .int .u8 10] (.int .i64 (Lib.indexByte s 10)) := fun {_ _} w' _ => h1 w'
  refine At.go [] [hC (.int .i64 (Lib.indexByte s 10))] rfl (by and_intros <;> first | exact hC1 | exact oK) ?_
  refine At.rt [] [] [] Tryd.func88 ?_
  exact ⟨rfl, rfl, rfl⟩
theorem Tryd.lines_w (s : List UInt8) (w : World) : Tri Tryd.prog 54 [str s] w [] (fun v bx hp => ∃ b, v = .func (.func 87) #[] #[.pointer (some ⟨b, 0, none⟩)] ∧ bx = [(b, 9, [str s])] ∧ hp = []) := by
  refine Tri.enter (bx := []) (hp := []) Tryd.func54 rfl (by kernel_rfl) rfl (Own.nil w) ?_
  refine At.go [] [] rfl oK ?_
  refine At.bo fun b1 hb1 => ?_
  refine At.go [] [] rfl oK ?_
  refine At.rt [true] [] [] Tryd.func54 ?_
  exact ⟨_, rfl, rfl, rfl⟩
theorem Tryd.lines1_w (stop : Bool) (s : List UInt8) (ys : List (List UInt8)) (b : Nat) (w : World) (hl : s.length ≤ 1000000) (hy : LY stop s ys) :
    IterA Tryd.prog 87 [.pointer (some ⟨b, 0, none⟩)] [(b, 9, [str s])] (fun bx => ∃ r, bx = [(b, 9, [str r])]) [] (fun x => [str x]) ys stop w := by
  intro y s0 J hJ hown hfree hyield
  refine Tri.enter Tryd.func87 rfl (by kernel_rfl) rfl hown ?_
  refine At.go [] [] rfl oK ?_
  refine At.loop (env0 := [(0, .func (Fn.yield y) ⟨[]⟩ ⟨[]⟩), (1, .pointer (some ⟨b, 0, none⟩))]) (fun m_ env bx hp => ∃ (r : List UInt8) (pre : List (List UInt8)) (rest : List (List UInt8)) (s1 : Seg), m_ = rest.length ∧ (ys = pre ++ rest) ∧ (LY stop r rest) ∧ (r.length ≤ 1000000) ∧ (J pre s1) ∧ env = [(0, .func (Fn.yield y) ⟨[]⟩ ⟨[]⟩), (1, .pointer (some ⟨b, 0, none⟩))] ∧ bx = [(b, 9, [str r])] ∧ hp = [s1]) rfl
    ⟨s, [], ys, s0, rfl, (rfl), (hy), (hl), (hJ), rfl, rfl, rfl⟩ sB ?_
  rintro m_ env bx hp ⟨r, pre, rest, s1, rfl, hpr, hly, hrl, hJp, rfl, rfl, rfl⟩ ih
  have hC1 : ∀ {bx : Bx} {hp : List Seg}, CallOb Tryd.prog ⟨w, kys [(b, 9, [str s])] [s0]⟩ bx hp 88 [str r, .int .u8 10] (.int .i64 (Lib.indexByte r 10)) := fun {_ _} w' _ => Tryd.idxByte_w r w'
  cases rest with
  | nil =>
    obtain ⟨rfl, -⟩ := hly
    refine At.go [false] [hB 0] rfl (by and_intros <;> first | (simp [bl]; done) | exact oK) ?_
    refine At.rt [true] [true] [] Tryd.func87 ?_
    exact ⟨⟨_, rfl⟩, _, rfl, by rw [hpr, List.append_nil]; exact hJp⟩
  | cons x rest =>
    obtain ⟨hne, hxe, hrest⟩ := hly
    have hrc : (x :: rest).length = rest.length + 1 := rfl
    have hpos := List.length_pos_iff.2 hne
    have hln := ln1_len r
    have hidx := idx_ln r
    by_cases hlt : (ln1 r).length < r.length
    · rw [if_pos hlt] at hidx
      rw [hidx] at hC1
      refine At.go [true, true] [hB 0, hB 0, hC (.int .i64 ↑(ln1 r).length)] rfl (by and_intros <;> first | exact hC1 | (simp [bl, hne]; done) | (simp only [bl_of]; omega) | (simp only [bl_of]; first | exact decide_eq_true (by omega) | exact decide_eq_false (by omega)) | exact oK) ?_
      refine At.qT 9 1 [] [hB 0, hB 0] rfl rfl (by and_intros <;> first | exact hC1 | (simp [bl, hne]; done) | (simp only [bl_of]; omega) | (simp only [bl_of]; first | exact decide_eq_true (by omega) | exact decide_eq_false (by omega)) | exact oK) ?_
      refine AtD.f1 9 [] [] [hB 0] rfl rfl rfl (by first | exact hC1 | (simp [bl, hne]; done) | (simp only [bl_of]; omega) | (simp only [bl_of]; first | exact decide_eq_true (by omega) | exact decide_eq_false (by omega)) | exact oK) (by first | exact hC1 | (simp [bl, hne]; done) | (simp only [bl_of]; omega) | (simp only [bl_of]; first | exact decide_eq_true (by omega) | exact decide_eq_false (by omega)) | exact oK) ?_
      refine AtD.dn ?_
      refine At.go [] [] rfl (by and_intros <;> first | exact hC1 | (simp [bl, hne]; done) | (simp only [bl_of]; omega) | (simp only [bl_of]; first | exact decide_eq_true (by omega) | exact decide_eq_false (by omega)) | exact oK) ?_
      rw [show ((ln1 r).length : Int) + 1 = ((ln1 r).length + 1 : Nat) by omega, Int.toNat_natCast, bl_of, show str (r.take ((ln1 r).length + 1)) = str x by rw [hxe]]
      refine At.yieldA (a := !(stop && Nat.beq (pre.length + 1) ys.length)) [] rfl rfl rfl rfl rfl trivial (lp := y) (args := [str x]) rfl [] [true] (bm := []) (hm := [s1]) (br := [(b, 9, [str (lnR r)])]) (hr := []) (Q := fun bx hp => bx = [] ∧ ∃ s', hp = [s'] ∧ J (pre ++ [x]) s') rfl
        (fun w' hw' => hyield pre x s1 w' ⟨rest, by rw [hpr]; simp⟩ hJp (Own.tail hw'.toOwn) hw'.ext) ?_
      rintro _ _ ⟨rfl, s', rfl, hJ'⟩
      have hyl : ys.length = pre.length + 1 + rest.length := by rw [hpr]; simp; omega
      rcases hrest with ⟨rfl, rfl⟩ | hrest
      · rw [show Nat.beq (pre.length + 1) ys.length = true by rw [hyl]; exact Nat.beq_refl _]
        refine At.go [true] [] rfl oK ?_
        refine At.rt [true] [true] [] Tryd.func87 ?_
        exact ⟨⟨_, rfl⟩, _, rfl, by rw [hpr]; exact hJ'⟩
      · have hno : (stop && Nat.beq (pre.length + 1) ys.length) = false := by
          cases stop with
          | false => rfl
          | true =>
            cases rest with
            | nil => exact absurd hrest.2 (by simp)
            | cons z rest =>
              rw [Bool.true_and, hyl]
              cases hb : Nat.beq (pre.length + 1) (pre.length + 1 + (z :: rest).length) with
              | false => rfl
              | true => have := Nat.eq_of_beq_eq_true hb; simp at this
        rw [hno]
        refine At.go [false] [] rfl oK ?_
        exact At.weak (ih _ _ _ _ (by omega) ⟨lnR r, pre ++ [x], rest, s', rfl, by rw [hpr]; simp, hrest, by have := lnR_len hne; omega, hJ', rfl, rfl, rfl⟩) sB
    · rw [if_neg hlt] at hidx
      rw [hidx] at hC1
      refine At.go [true, false] [hB 0, hB 0, hC (.int .i64 (-1)), hB 0, hB 0] rfl (by and_intros <;> first | exact hC1 | (simp [bl, hne]; done) | (simp only [bl_of]; first | exact decide_eq_true (by omega) | exact decide_eq_false (by omega)) | exact oK) ?_
      have hxr : x = r := by rw [hxe, List.take_of_length_le (by omega)]
      have hrr : lnR r = [] := by unfold lnR; rw [List.drop_of_length_le (by omega)]
      rw [← hxr]
      rw [show (Value.string ⟨#[]⟩) = str (lnR r) by rw [hrr]; rfl]
      refine At.yieldA (a := !(stop && Nat.beq (pre.length + 1) ys.length)) [] rfl rfl rfl rfl rfl trivial (lp := y) (args := [str x]) rfl [] [true] (bm := []) (hm := [s1]) (br := [(b, 9, [str (lnR r)])]) (hr := []) (Q := fun bx hp => bx = [] ∧ ∃ s', hp = [s'] ∧ J (pre ++ [x]) s') rfl
        (fun w' hw' => hyield pre x s1 w' ⟨rest, by rw [hpr]; simp⟩ hJp (Own.tail hw'.toOwn) hw'.ext) ?_
      rintro _ _ ⟨rfl, s', rfl, hJ'⟩
      have hyl : ys.length = pre.length + 1 + rest.length := by rw [hpr]; simp; omega
      rcases hrest with ⟨rfl, rfl⟩ | hrest
      · rw [show Nat.beq (pre.length + 1) ys.length = true by rw [hyl]; exact Nat.beq_refl _]
        refine At.go [true] [] rfl oK ?_
        refine At.rt [true] [true] [] Tryd.func87 ?_
        exact ⟨⟨_, rfl⟩, _, rfl, by rw [hpr]; exact hJ'⟩
      · have hno : (stop && Nat.beq (pre.length + 1) ys.length) = false := by
          cases stop with
          | false => rfl
          | true =>
            cases rest with
            | nil => exact absurd hrest.2 (by simp)
            | cons z rest =>
              rw [Bool.true_and, hyl]
              cases hb : Nat.beq (pre.length + 1) (pre.length + 1 + (z :: rest).length) with
              | false => rfl
              | true => have := Nat.eq_of_beq_eq_true hb; simp at this
        rw [hno]
        refine At.go [false] [] rfl oK ?_
        exact At.weak (ih _ _ _ _ (by omega) ⟨lnR r, pre ++ [x], rest, s', rfl, by rw [hpr]; simp, hrest, by have := lnR_len hne; omega, hJ', rfl, rfl, rfl⟩) sB
end Go.Proofs

/-
  Walks of layer 32: all lines of a text.
-/
namespace Go.Proofs
open Go Go.Eng
set_option maxRecDepth 100000
set_option maxHeartbeats 4000000
attribute [local irreducible] Tri

theorem ln1_cut {s : List UInt8} : ∀ {x : List UInt8}, x = s.take ((ln1 s).length + 1) → x = ln1 s ∨ x = ln1 s ++ [10] := by
  intro x hx
  subst hx
  induction s with
  | nil => exact .inl rfl
  | cons c s ih =>
    by_cases hc : c = 10
    · subst hc; exact .inr rfl
    · have h2 := ln1_cons hc s
      rw [h2, List.length_cons, List.take_succ_cons]
      rcases ih with h | h
      · exact .inl (by rw [h])
      · exact .inr (by rw [h]; rfl)
theorem ln1_no (s : List UInt8) : ∀ c, c ∈ ln1 s → c ≠ 10 := by
  intro c hc
  have := List.all_takeWhile (p := fun c : UInt8 => c != 10) (l := s)
  rw [List.all_eq_true] at this
  have := this c hc
  simpa using this
theorem bl1 (c : UInt8) : (bl ⟨#[c]⟩).length = 1 := rfl
/-- A line with its end, or without: the end is trimmed. -/
theorem Tryd.trim_w (l x : List UInt8) (w : World) (hl : x.length ≤ 1000000) (hx : x = l ∨ x = l ++ [10]) (hn : ∀ c, c ∈ l → c ≠ 10) : Fun Tryd.prog 55 [str x, str [10]] w (str l) := by
  have hS : ∀ w, Fun Tryd.prog 133 [str x, str [10]] w (.bool (decide (x = l ++ [10]))) := fun w => by
    refine Tri.enter (bx := []) (hp := []) Tryd.func133 rfl (by kernel_rfl) rfl (Own.nil w) ?_
    by_cases h0 : x = []
    · subst h0
      refine At.go [false] [] rfl (by and_intros <;> first | (simp [bl]; done) | exact oK) ?_
      refine At.rt [] [] [] Tryd.func133 ?_
      exact ⟨by simp [tupV], rfl, rfl⟩
    · have hp := List.length_pos_iff.2 h0
      refine At.go [true] [] rfl (by and_intros <;> first | (rw [bl1, bl_of]; first | exact decide_eq_true (by omega) | exact decide_eq_false (by omega)) | (rw [bl1, bl_of]; omega) | exact oK) ?_
      refine At.rt [] [] [] Tryd.func133 ?_
      refine ⟨congrArg Value.bool ?_, rfl, rfl⟩
      rcases hx with rfl | rfl
      · obtain ⟨y, c, rfl⟩ : ∃ y c, x = y ++ [c] := ⟨x.dropLast, x.getLast h0, (List.dropLast_concat_getLast h0).symm⟩
        have := hn c (by simp)
        simp [bl, this]
      · simp [bl]
  have hT : ∀ w, Fun Tryd.prog 89 [str x, str [10]] w (str l) := fun w => by
    refine Tri.enter (bx := []) (hp := []) Tryd.func89 rfl (by kernel_rfl) rfl (Own.nil w) ?_
    have hC1 : ∀ {bx : Bx} {hp : List Seg}, CallOb Tryd.prog ⟨w, kys [] []⟩ bx hp 133 [str x, str [10]] (.bool (decide (x = l ++ [10]))) := fun {_ _} w' _ => hS w'
    by_cases he : x = l ++ [10]
    · have hll : l.length + 1 ≤ 1000000 := by rw [he] at hl; simpa using hl
      refine At.go [true] [hC (.bool (decide (x = l ++ [10])))] rfl (by and_intros <;> first | exact hC1 | (simp [he]; done) | (rw [bl1, bl_of, he, List.length_append, List.length_singleton]; omega) | exact oK) ?_
      refine At.rt [] [] [] Tryd.func89 ?_
      exact ⟨by rw [he]; simp [bl, tupV], rfl, rfl⟩
    · refine At.go [false] [hC (.bool (decide (x = l ++ [10])))] rfl (by and_intros <;> first | exact hC1 | (simp [he]; done) | exact oK) ?_
      refine At.rt [] [] [] Tryd.func89 ?_
      exact ⟨by rcases hx with h | h; exact congrArg str h; exact absurd h he, rfl, rfl⟩
  refine Tri.enter (bx := []) (hp := []) Tryd.func55 rfl (by kernel_rfl) rfl (Own.nil w) ?_
  have hC1 : ∀ {bx : Bx} {hp : List Seg}, CallOb Tryd.prog ⟨w, kys [] []⟩ bx hp 89 [str x, str [10]] (str l) := fun {_ _} w' _ => hT w'
  refine At.go [] [hC (.string { data := l.toArray })] rfl (by and_intros <;> first | exact hC1 | exact oK) ?_
  refine At.rt [] [] [] Tryd.func55 ?_
  exact ⟨rfl, rfl, rfl⟩
theorem Tryd.pre_w (l : List UInt8) (c : UInt8) (w : World) (hl : l.length ≤ 1000000) (h0 : l ≠ []) : Fun Tryd.prog 56 [str l, str [c]] w (.bool (decide (l.head? = some c))) := by
  have hS : ∀ w, Fun Tryd.prog 90 [str l, str [c]] w (.bool (decide (l.head? = some c))) := fun w => by
    refine Tri.enter (bx := []) (hp := []) Tryd.func90 rfl (by kernel_rfl) rfl (Own.nil w) ?_
    have hp := List.length_pos_iff.2 h0
    refine At.go [true] [] rfl (by and_intros <;> first | (rw [bl1, bl_of]; first | exact decide_eq_true (by omega) | exact decide_eq_false (by omega)) | (rw [bl1, bl_of]; omega) | exact oK) ?_
    refine At.rt [] [] [] Tryd.func90 ?_
    exact ⟨congrArg Value.bool (by cases l with | nil => exact absurd rfl h0 | cons d l => simp [bl]), rfl, rfl⟩
  refine Tri.enter (bx := []) (hp := []) Tryd.func56 rfl (by kernel_rfl) rfl (Own.nil w) ?_
  have hC1 : ∀ {bx : Bx} {hp : List Seg}, CallOb Tryd.prog ⟨w, kys [] []⟩ bx hp 90 [str l, str [c]] (.bool (decide (l.head? = some c))) := fun {_ _} w' _ => hS w'
  refine At.go [] [hC (.bool (decide (l.head? = some c)))] rfl (by and_intros <;> first | exact hC1 | exact oK) ?_
  refine At.rt [] [] [] Tryd.func56 ?_
  exact ⟨rfl, rfl, rfl⟩
theorem outL_len (ys : List (List UInt8)) : (outL ys).length ≤ ys.length := by
  induction ys with
  | nil => exact Nat.le_refl _
  | cons y ys ih =>
    have h1 : (evL y).length ≤ 1 := by unfold evL; split <;> simp
    have h2 : outL (y :: ys) = evL y ++ outL ys := by simp [outL]
    rw [h2, List.length_append, List.length_cons]; omega
theorem LY_line {stop : Bool} : ∀ {s : List UInt8} {ys : List (List UInt8)}, LY stop s ys → ∀ x, x ∈ ys → x.length ≤ s.length ∧ x ≠ [] ∧ (x = ln1 x ∨ x = ln1 x ++ [10])
  | s, [], _, x, hx => by simp at hx
  | s, y :: ys, ⟨h1, h2, h3⟩, x, hx => by
    have hy : y.length ≤ s.length ∧ y ≠ [] ∧ (y = ln1 y ∨ y = ln1 y ++ [10]) := by
      subst h2
      refine ⟨by rw [List.length_take]; omega, ?_, by rw [ln1_take]; exact ln1_cut rfl⟩
      cases s with
      | nil => exact absurd rfl h1
      | cons c s => rw [List.take_succ_cons]; simp
    rcases List.mem_cons.1 hx with rfl | hx
    · exact hy
    · rcases h3 with ⟨rfl, -⟩ | h3
      · simp at hx
      · obtain ⟨h4, h5⟩ := LY_line h3 x hx
        have := lnR_len h1
        exact ⟨by omega, h5⟩
theorem Tryd.all_w (s : List UInt8) (w : World) (hl : s.length ≤ 1000000) (hW : Tryd.TxW w) : Tri Tryd.prog 22 [str s] w [] (fun v bx hp => ∃ (a : Option Nat) (c : Nat) (L : List (List Int)) (k e : Int), allB pnum s.length 0 [] s = (L, k, e) ∧ v = .tuple #[sv a L.length c, .int .i64 k, .int .i64 e] ∧ bx = [] ∧ hp = if e = 0 then [Seg.row a 36 7 L.length c (L.flatMap i64s)] else []) := by
  obtain ⟨ys, stop, hly, hstop, hylen, hbad, hall⟩ := allB_lines s.length s 0 [] (Nat.le_refl _)
  refine Tri.enter (bx := []) (hp := []) Tryd.func22 rfl (by kernel_rfl) rfl (Own.nil w) ?_
  refine At.go [] [] rfl oK ?_
  refine At.al fun b2 hb2 => ?_
  refine At.al fun b3 hb3 => ?_
  refine At.al fun b4 hb4 => ?_
  refine At.go [] [] rfl oK ?_
  refine At.al fun b5 hb5 => ?_
  refine At.go [] [] rfl oK ?_
  refine At.al fun b6 hb6 => ?_
  refine At.go [] [hB 0] rfl oK ?_
  refine At.step [] rfl rfl rfl rfl rfl trivial (OpOk.call rfl (fun w' hw' => Tryd.lines_w s w') ?_)
  rintro _ _ _ ⟨b, rfl, rfl, rfl⟩
  refine At.go [] [] rfl oK ?_
  refine At.nilRow 36 7 ?_
  have hz : (stop && Nat.beq ([] : List (List UInt8)).length ys.length) = false := by
    cases hs : stop with
    | false => rfl
    | true =>
      have := List.length_pos_iff.2 (hstop hs)
      cases hy : ys.length with
      | zero => omega
      | succ n => rfl
  refine At.rangeIA (stop := stop) (bi := [(b, 9, [str s])]) (bc := [(b6, 3, [.int .i64 0]), (b5, 52, [sv none 0 0]), (b4, 38, [.int .i64 0]), (b3, 3, [.int .i64 0]), (b2, 52, [sv none 0 0])]) (bo := fun bx => ∃ r, bx = [(b, 9, [str r])]) (hp := [Seg.row none 36 7 0 0 []]) rfl rfl rfl (rd := []) (by simp) (enc := fun x => [str x]) (ys := ys) (fun _ => rfl) rfl
    (
    fun pre bx hp => ∃ (a1 : Option Nat) (c1 : Nat), bx = [(b6, 3, [.int .i64 pre.length]), (b5, 52, [sv a1 (outL pre).length c1]), (b4, 38, [.int .i64 (if (stop && Nat.beq pre.length ys.length) = true then 3 else 0)]), (b3, 3, [.int .i64 (if (stop && Nat.beq pre.length ys.length) = true then pre.length else 0)]), (b2, 52, [sv none 0 0])] ∧ hp = [Seg.row a1 36 7 (outL pre).length c1 ((outL pre).flatMap i64s)]
    ) ⟨none, 0, by rw [hz]; rfl, rfl⟩ hstop (fun w' hext => Tryd.lines1_w stop s ys b w' hl hly) ?_ ?_ ?_
  · rintro lp D tm pre x bx hp w' a hpre ⟨a1, c1, rfl, rfl⟩ hext hky ha
    have hlen : pre.length + 1 ≤ ys.length := by have := hpre.length_le; simpa using this
    have hpn : (stop && Nat.beq pre.length ys.length) = false := by
      cases hs : Nat.beq pre.length ys.length with
      | false => exact Bool.and_false _
      | true => have := Nat.eq_of_beq_eq_true hs; omega
    simp only [hpn, Bool.false_eq_true, if_false] at hky ⊢
    have hfl : (stop && Nat.beq (pre ++ [x]).length ys.length) = badL x := by rw [hbad pre x hpre, List.length_append, List.length_singleton]
    rw [← hbad pre x hpre] at ha
    have hmem : x ∈ ys := hpre.subset (by simp)
    obtain ⟨hxl, hxn, hxe⟩ := LY_line hly x hmem
    have hn10 := ln1_no x
    have hll := ln1_len x
    have hol := outL_len pre
    have hT : ∀ {S : Base} {bx : Bx} {hp : List Seg}, CallOb Tryd.prog S bx hp 55 [str x, str [10]] (str (ln1 x)) := fun {_ _ _} w2 _ => Tryd.trim_w (ln1 x) x w2 (by omega) hxe hn10
    refine At.run 100 true [] [] rfl trivial ?_
    refine At.beginA ?_
    by_cases h0 : ln1 x = []
    · have hbf : badL x = false := by unfold badL; rw [decide_eq_true (.inl h0)]; rfl
      have hev : evL x = [] := by unfold evL; rw [if_pos (.inl (.inl h0))]
      rw [h0] at hT
      rw [hbf] at ha hfl
      subst ha
      refine At.go [true, true] [hB 0, hB 0, hC (.string { data := #[] })] rfl (by and_intros <;> first | exact hT | (simp [bl]; done) | exact oK) ?_
      exact At.roundEndA ⟨_, rfl, a1, c1, by rw [hfl, outL_snoc, hev, List.append_nil]; simp, by rw [outL_snoc, hev, List.append_nil]⟩
    · have hH : ∀ {S : Base} {bx : Bx} {hp : List Seg}, CallOb Tryd.prog S bx hp 56 [str (ln1 x), str [35]] (.bool (decide ((ln1 x).head? = some 35))) := fun {_ _ _} w2 _ => Tryd.pre_w (ln1 x) 35 w2 (by omega) h0
      by_cases h35 : (ln1 x).head? = some 35
      · have hbf : badL x = false := by unfold badL; rw [decide_eq_true (.inr h35)]; rfl
        have hev : evL x = [] := by unfold evL; rw [if_pos (.inl (.inr h35))]
        rw [hbf] at ha hfl
        subst ha
        refine At.go [false, true] [hB 0, hB 0, hC (.string { data := (ln1 x).toArray }), hC (.bool (decide ((ln1 x).head? = some 35)))] rfl (by and_intros <;> first | exact hT | exact hH | (simp [bl, h0]; done) | exact decide_eq_true h35 | exact oK) ?_
        exact At.roundEndA ⟨_, rfl, a1, c1, by rw [hfl, outL_snoc, hev, List.append_nil]; simp, by rw [outL_snoc, hev, List.append_nil]⟩
      · obtain ⟨hl7, hin, hee⟩ := lineB_in (f := pnum) (fun w n h => pnum_in h) (ln1 x)
        obtain ⟨p0, p1, p2, p3, p4, p5, p6, hpe⟩ := seven hl7
        have hcs : i64s (lineB pnum (ln1 x)).1 = [.int .i64 p0, .int .i64 p1, .int .i64 p2, .int .i64 p3, .int .i64 p4, .int .i64 p5, .int .i64 p6] := by rw [hpe]; rfl
        obtain ⟨e, he⟩ : ∃ e, (lineB pnum (ln1 x)).2 = e := ⟨_, rfl⟩
        have hP : ∀ {bx : Bx} {hp2 : List Seg}, CallOb Tryd.prog ⟨w', kys [(b6, 3, [.int .i64 pre.length]), (b5, 52, [sv a1 (outL pre).length c1]), (b4, 38, [.int .i64 0]), (b3, 3, [.int .i64 0]), (b2, 52, [sv none 0 0])] (loopSeg lp .ready 22 tm #[12] _ _ D :: [Seg.row a1 36 7 (outL pre).length c1 ((outL pre).flatMap i64s)])⟩ bx hp2 16 [str (ln1 x)] (.tuple #[.agg ⟨[.int .i64 p0, .int .i64 p1, .int .i64 p2, .int .i64 p3, .int .i64 p4, .int .i64 p5, .int .i64 p6]⟩, .int .i64 e]) := fun {_ _} w2 hw2 => by
          have := Tryd.parse_w (ln1 x) w2 (by omega) (hW.ext (hext.then hw2.ext fun i hi => hky i hi))
          rw [hcs, he] at this
          exact this
        by_cases h00 : e = 0
        · have hbf : badL x = false := by unfold badL; rw [he, decide_eq_true h00, Bool.not_true, Bool.and_false]
          have hev : evL x = [(lineB pnum (ln1 x)).1] := by unfold evL; rw [if_neg (by simp [h0, h35, he, h00])]
          rw [hbf] at ha hfl
          subst ha h00
          refine At.go [false, false] [hB 0, hB 0, hC (.string { data := (ln1 x).toArray }), hC (.bool (decide ((ln1 x).head? = some 35))), hC (.tuple ⟨[.agg ⟨[.int .i64 p0, .int .i64 p1, .int .i64 p2, .int .i64 p3, .int .i64 p4, .int .i64 p5, .int .i64 p6]⟩, .int .i64 0]⟩)] rfl (by and_intros <;> first | exact hT | exact hH | exact hP | (simp [bl, h0]; done) | exact decide_eq_false h35 | exact oK) ?_
          refine At.al fun b8 hb8 => ?_
          refine At.go [false] [hB 0, hB 2, hB 0] rfl (by and_intros <;> first | exact hT | exact hH | exact hP | (simp [bl, h0]; done) | exact decide_eq_false h35 | exact oK) ?_
          refine At.a1 1 7 56 fun b33 a34 c34 => ?_
          refine At.go [] [hB 2] rfl (by and_intros <;> first | exact hT | exact hH | exact hP | (simp [bl, h0]; done) | exact decide_eq_false h35 | exact oK) ?_
          refine At.keep [false, true, true, true, true, true] [true, true] rfl ?_
          exact At.roundEndA ⟨_, rfl, a34, c34, by rw [hfl, outL_snoc, hev]; simp [sv], by simp [outL_snoc, hev, hcs]⟩
        · have hbf : badL x = true := by unfold badL; rw [he, decide_eq_false h00, decide_eq_false (by simp [h0, h35])]; rfl
          have hev : evL x = [] := by unfold evL; rw [if_pos (.inr (by rw [he]; exact h00))]
          rw [hbf] at ha hfl
          subst ha
          refine At.go [false, false] [hB 0, hB 0, hC (.string { data := (ln1 x).toArray }), hC (.bool (decide ((ln1 x).head? = some 35))), hC (.tuple ⟨[.agg ⟨[.int .i64 p0, .int .i64 p1, .int .i64 p2, .int .i64 p3, .int .i64 p4, .int .i64 p5, .int .i64 p6]⟩, .int .i64 e]⟩)] rfl (by and_intros <;> first | exact hT | exact hH | exact hP | (simp [bl, h0]; done) | exact decide_eq_false h35 | (simp [h00]; done) | exact oK) ?_
          refine At.al fun b8 hb8 => ?_
          refine At.go [true] [hB 0] rfl (by and_intros <;> first | exact hT | exact hH | exact hP | (simp [bl, h0]; done) | exact decide_eq_false h35 | (simp [h00]; done) | exact oK) ?_
          refine At.dr 4 ?_
          refine AtD.fork2 0 1 (by kernel_rfl) (StepD.by [] rfl rfl rfl rfl trivial (OpOk.one true [] [hB 1] rfl oK ?_)) (StepD.by0 [] rfl rfl rfl trivial (OpOk.one true [] [hB 5] rfl oK ?_))
          · refine AtD.f1 1 [] [] [hB 5] rfl rfl rfl oK oK ?_
            refine AtD.f1 2 [] [] [hB 4] rfl rfl rfl oK oK ?_
            refine AtD.f1 3 [] [] [hB 3] rfl rfl rfl oK oK ?_
            refine AtD.dn ?_
            refine At.go [] [] rfl oK ?_
            refine At.keep [false, true, true, true, true, true] [true, true] rfl ?_
            exact At.roundRet ⟨_, rfl, a1, c1, by rw [hfl, outL_snoc, hev]; simp [sv], by simp [outL_snoc, hev]⟩
          · refine AtD.f1 0 [] [] [hB 1] rfl rfl rfl oK oK ?_
            refine AtD.f1 2 [] [] [hB 4] rfl rfl rfl oK oK ?_
            refine AtD.f1 3 [] [] [hB 3] rfl rfl rfl oK oK ?_
            refine AtD.dn ?_
            refine At.go [] [] rfl oK ?_
            refine At.keep [false, true, true, true, true, true] [true, true] rfl ?_
            exact At.roundRet ⟨_, rfl, a1, c1, by rw [hfl, outL_snoc, hev]; simp [sv], by simp [outL_snoc, hev]⟩
  · rintro hs D bo' bx' hp' ⟨r, rfl⟩ ⟨a1, c1, rfl, rfl⟩
    subst hs
    refine At.go [] [hB 2, hB 5, hB 4, hB 3] rfl oK ?_
    exact At.retCK [false, false, false, false, false, false] [true] [hB 5, hB 4, hB 3] Tryd.func22 rfl oK rfl ⟨a1, c1, outL ys, 0, 0, by rw [hall]; rfl, rfl, rfl, rfl⟩
  · rintro hs D bo' bx' hp' ⟨r, rfl⟩ ⟨a1, c1, rfl, rfl⟩
    subst hs
    simp only [Bool.true_and, Nat.beq_refl, if_true]
    exact St.retC [false, false, false, false, false, false] [false] [hB 5, hB 4, hB 3] Tryd.func22 rfl oK rfl ⟨none, 0, [], ys.length, 3, by rw [hall]; simp, rfl, rfl, rfl⟩
end Go.Proofs

/-
  Walks of layer 32: the statement of texts.
-/
namespace Go.Proofs
open Go Go.Eng
set_option maxRecDepth 100000
set_option maxHeartbeats 4000000
attribute [local irreducible] Tri

theorem allB_in {n : Nat} : ∀ {a : Int} {out : List (List Int)} {s : List UInt8}, (∀ x, x ∈ out → x.length = 7) → ∀ x, x ∈ (allB cnum n a out s).1 → x.length = 7 := by
  induction n with
  | zero => intro a out s h x hx; exact h x hx
  | succ n ih =>
    intro a out s h x hx
    unfold allB at hx
    split at hx
    · exact h x hx
    · split at hx
      · exact ih h x hx
      · split at hx
        · refine ih (fun y hy => ?_) x hx
          rcases List.mem_append.1 hy with hy | hy
          · exact h y hy
          · rw [List.mem_singleton] at hy; subst hy
            exact (lineB_in (f := cnum) (fun w n h => (cnum_some h).1) _).1
        · simp at hx
theorem allB_e {f : List UInt8 → Option Int} {n : Nat} : ∀ {a : Int} {out : List (List Int)} {s : List UInt8}, (allB f n a out s).2.2 ≠ 0 → (allB f n a out s).1 = [] := by
  induction n with
  | zero => intro a out s h; exact absurd rfl h
  | succ n ih =>
    intro a out s h
    unfold allB at h ⊢
    split
    · rename_i hs; rw [if_pos hs] at h; exact absurd rfl h
    · rename_i hs
      rw [if_neg hs] at h
      split
      · rename_i h1; rw [if_pos h1] at h; exact ih h
      · rename_i h1
        rw [if_neg h1] at h
        split
        · rename_i h2; rw [if_pos h2] at h; exact ih h
        · rfl
/-- One thing of a row of things of seven numbers. -/
theorem flat7 {L : List (List Int)} (h : ∀ x, x ∈ L → x.length = 7) : ∀ {i : Nat} {x : List Int}, L[i]? = some x → ∀ j, j < 7 → (L.flatMap i64s)[i * 7 + j]? = (i64s x)[j]? := by
  induction L with
  | nil => intro i x hx; simp at hx
  | cons y L ih =>
    intro i x hx j hj
    have hy := h y (by simp)
    rw [List.flatMap_cons]
    cases i with
    | zero =>
      simp at hx; subst hx
      rw [List.getElem?_append_left (by rw [i64s_len]; omega)]; simp
    | succ i =>
      rw [List.getElem?_append_right (by rw [i64s_len]; omega), i64s_len, hy, show (i + 1) * 7 + j - 7 = i * 7 + j by omega]
      exact ih (fun z hz => h z (by simp [hz])) (by simpa using hx) j hj
theorem Tryd.all32_w (s : List UInt8) (w : World) (hl : s.length ≤ 9223372036854775807) (hW : Tryd.TxW w) : Fun Tryd.prog 8 [str s] w (.bool true) := by
  refine Tri.enter (bx := []) (hp := []) Tryd.func8 rfl (by kernel_rfl) rfl (Own.nil w) ?_
  have hA : ∀ {bx : Bx} {hp : List Seg}, CallOb Tryd.prog ⟨w, kys [] []⟩ bx hp 14 [] (.bool true) := fun {_ _} w' hw' => Tryd.alive32_w w' (hW.ext hw'.ext)
  have hdec : 1000 < (s.length : Int) ∨ ¬ 1000 < (s.length : Int) := by omega
  by_cases h3 : 1000 < s.length
  · refine At.go [false, true] [hC (.bool true)] rfl (by and_intros <;> first | exact hA | (simp only [bl_of]; first | exact decide_eq_true (by omega) | exact decide_eq_false (by omega)) | exact oK) ?_
    refine At.rt [] [] [] Tryd.func8 ?_
    exact ⟨rfl, rfl, rfl⟩
  refine At.go [false, false] [hC (.bool true)] rfl (by and_intros <;> first | exact hA | (simp only [bl_of]; first | exact decide_eq_true (by omega) | exact decide_eq_false (by omega)) | exact oK) ?_
  refine At.step [] rfl rfl rfl rfl rfl trivial (OpOk.call rfl (fun w' hw' => Tryd.all_w s w' (by omega) (hW.ext hw'.ext)) ?_)
  rintro _ _ _ ⟨a, c, L, k, e, he, rfl, rfl, rfl⟩
  have h7 : ∀ x, x ∈ L → x.length = 7 := by
    have := allB_in (n := s.length) (a := 0) (out := []) (s := s) (by simp)
    rw [← allB_same, he] at this
    exact this
  by_cases h0 : e = 0
  · simp only [if_pos h0, List.append_nil, List.singleton_append, List.nil_append]
    refine At.go [] [] rfl oK ?_
    refine At.step [] rfl rfl rfl rfl rfl trivial (OpOk.call rfl (fun w' hw' => Tryd.refAll_w s w' (by omega)) ?_)
    rintro _ _ _ ⟨a', c', L', k', e', he', rfl, rfl, rfl⟩
    rw [← allB_same, he] at he'
    obtain ⟨rfl, rfl, rfl⟩ : L = L' ∧ k = k' ∧ e = e' := by simpa using he'
    simp only [if_pos h0, List.append_nil, List.singleton_append, List.nil_append]
    refine At.row63 0 rfl fun hcap => ?_
    refine At.go [false, false, false] [] rfl (by and_intros <;> first | (simp; done) | exact oK) ?_
    refine At.loop (env0 := [(3, .slice (svA a) L.length c), (6, .slice (svA a') L.length c'), (9, .int .i64 0)]) (fun m_ env bx hp => ∃ (i : Nat), m_ = L.length - i ∧ (i ≤ L.length) ∧ env = [(3, .slice (svA a) L.length c), (6, .slice (svA a') L.length c'), (9, .int .i64 i)] ∧ bx = [] ∧ hp = [Seg.row a' 36 7 L.length c' (List.flatMap i64s L), Seg.row a 36 7 L.length c (List.flatMap i64s L)]) rfl
      ⟨0, rfl, (by omega), rfl, rfl, rfl⟩ sB ?_
    rintro m_ env bx hp ⟨i, rfl, hi, rfl, rfl, rfl⟩ ih
    by_cases hlt : i < L.length
    · obtain ⟨x, hx⟩ : ∃ x, L[i]? = some x := ⟨_, List.getElem?_eq_getElem hlt⟩
      obtain ⟨p0, p1, p2, p3, p4, p5, p6, hpe⟩ := seven (h7 x (List.mem_of_getElem? hx))
      refine At.rowSome 0 rfl (by omega) fun g hg => ?_
      subst hg
      refine At.rowSome 1 rfl (by omega) fun g' hg' => ?_
      subst hg'
      have hcs : i64s x = [.int .i64 p0, .int .i64 p1, .int .i64 p2, .int .i64 p3, .int .i64 p4, .int .i64 p5, .int .i64 p6] := by rw [hpe]; rfl
      have r : ∀ {bx : Bx} {hp : List Seg} (m q cc : Nat), nth hp m = some (Seg.row (some q) 36 7 L.length cc (L.flatMap i64s)) → RdW ⟨w, kys [] []⟩ bx hp q (0 + (i : Int).toNat * 7) [.int .i64 p0, .int .i64 p1, .int .i64 p2, .int .i64 p3, .int .i64 p4, .int .i64 p5, .int .i64 p6] := fun {_ _} m q cc h => RdW.row h fun j u hu => by
        rw [← hcs] at hu
        have hj : j < 7 := by
          have := (List.getElem?_eq_some_iff.1 hu).1
          rw [hcs] at this; exact this
        rw [show 0 + (i : Int).toNat * 7 + j = i * 7 + j by omega, flat7 h7 hx j hj, hu]
      refine At.go [true] [] rfl (by and_intros <;> first | exact r 0 _ _ rfl | exact r 1 _ _ rfl | (simp; done) | exact oK) ?_
      refine At.qt [] [hR [.int .i64 p0, .int .i64 p1, .int .i64 p2, .int .i64 p3, .int .i64 p4, .int .i64 p5, .int .i64 p6], hR [.int .i64 p0, .int .i64 p1, .int .i64 p2, .int .i64 p3, .int .i64 p4, .int .i64 p5, .int .i64 p6]] rfl rfl (by and_intros <;> first | exact r 0 _ _ rfl | exact r 1 _ _ rfl | (simp; done) | exact oK) ?_
      refine At.go [false] [] rfl (by and_intros <;> first | exact r 0 _ _ rfl | exact r 1 _ _ rfl | (simp; done) | exact oK) ?_
      exact At.weak (ih _ _ _ _ (by omega) ⟨i + 1, rfl, by omega, rfl, rfl, rfl⟩) sB
    · refine At.go [false] [] rfl oK ?_
      refine At.rt [] [] [] Tryd.func8 ?_
      exact ⟨rfl, rfl, rfl⟩
  · have hL : L = [] := by
      have := allB_e (n := s.length) (a := 0) (out := []) (s := s) (f := pnum) (by rw [he]; exact h0)
      rw [he] at this; exact this
    subst hL
    simp only [if_neg h0, List.append_nil, List.nil_append]
    refine At.go [] [] rfl oK ?_
    refine At.step [] rfl rfl rfl rfl rfl trivial (OpOk.call rfl (fun w' hw' => Tryd.refAll_w s w' (by omega)) ?_)
    rintro _ _ _ ⟨a', c', L', k', e', he', rfl, rfl, rfl⟩
    rw [← allB_same, he] at he'
    obtain ⟨rfl, rfl, rfl⟩ : [] = L' ∧ k = k' ∧ e = e' := by simpa using he'
    simp only [if_neg h0, List.append_nil, List.nil_append]
    refine At.go [false, false, false] [] rfl (by and_intros <;> first | (simp; done) | exact oK) ?_
    refine At.unr ?_
    refine At.go [false] [] rfl (by and_intros <;> first | (simp; done) | exact oK) ?_
    refine At.rt [] [] [] Tryd.func8 ?_
    exact ⟨rfl, rfl, rfl⟩
end Go.Proofs

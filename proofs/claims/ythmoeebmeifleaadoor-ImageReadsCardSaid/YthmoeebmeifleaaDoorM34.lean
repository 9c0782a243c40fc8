/-
  Walks: lists of strings alike; the statement's example of layer 21.
-/
import Derived.Test.YthmoeebmeifleaaDoorM15
import Derived.Test.YthmoeebmeifleaaDoorM7
import Derived.Test.YthmoeebmeifleaaDoorM26
import Derived.Test.YthmoeebmeifleaaDoorM32
import Derived.Test.YthmoeebmeifleaaDoorM33
/-
  Walks: lists of strings alike; the statement's example of layer 21.
-/
namespace Go.Proofs
open Go Go.Eng
set_option maxRecDepth 100000
set_option maxHeartbeats 4000000
attribute [local irreducible] Tri

theorem same_no {A B : List (List UInt8)} (hl : A.length = B.length) (h : ∀ j, j < A.length → A[j]? = B[j]?) : A = B := by
  apply List.ext_getElem?
  intro j
  by_cases hj : j < A.length
  · exact h j hj
  · rw [List.getElem?_eq_none (by omega), List.getElem?_eq_none (by omega)]
theorem Tryd.same03_w (A B : List (List UInt8)) (a b : Option Addr) (ca cb : Nat) (w : World) (hla : A.length ≤ 1000000) (_hlb : B.length ≤ 1000000) (ha : SlOk w a (A.map str)) (hb : SlOk w b (B.map str)) :
    Fun Tryd.prog 10 [.slice a A.length ca, .slice b B.length cb] w (.bool (decide (A = B))) := by
  refine Tri.enter (bx := []) (hp := []) Tryd.func10 rfl (by kernel_rfl) rfl (Own.nil w) ?_
  by_cases hl : A.length = B.length
  · refine At.go [false] [] rfl (by and_intros <;> first | (simp [hl]; done) | exact oK) ?_
    refine At.loop (env0 := [(0, .slice a A.length ca), (1, .slice b B.length cb), (5, .int .i64 0)]) (fun m_ env bx hp => ∃ (i : Nat), m_ = A.length - i ∧ (i ≤ A.length) ∧ (∀ j, j < i → A[j]? = B[j]?) ∧ env = [(0, .slice a A.length ca), (1, .slice b B.length cb), (5, .int .i64 i)] ∧ bx = [] ∧ hp = []) rfl
      ⟨0, rfl, (by omega), (fun j h => absurd h (Nat.not_lt_zero j)), rfl, rfl, rfl⟩ sB ?_
    rintro m_ env bx hp ⟨i, rfl, hi, hno, rfl, rfl, rfl⟩ ih
    by_cases hlt : i < A.length
    · obtain ⟨x, hx⟩ : ∃ x, A[i]? = some x := ⟨_, List.getElem?_eq_getElem hlt⟩
      obtain ⟨y, hy⟩ : ∃ y, B[i]? = some y := ⟨_, List.getElem?_eq_getElem (by omega)⟩
      have ex : (A.map str)[i]? = some (str x) := by rw [List.getElem?_map, hx]; rfl
      have ey : (B.map str)[i]? = some (str y) := by rw [List.getElem?_map, hy]; rfl
      obtain ⟨g, o, rfl, hc⟩ := ha.get (by intro h; rw [h] at ex; simp at ex)
      obtain ⟨g', o', rfl, hc'⟩ := hb.get (by intro h; rw [h] at ey; simp at ey)
      have rA : ∀ {bx : Bx} {hp : List Seg}, RdW ⟨w, kys [] []⟩ bx hp g (o + (i : Int).toNat * 1) [str x] := fun {_ _} => RdW.base1 (by simp [kys]) (by rw [Int.toNat_natCast, Nat.mul_one]; exact hc _ _ ex)
      have rB : ∀ {bx : Bx} {hp : List Seg}, RdW ⟨w, kys [] []⟩ bx hp g' (o' + (i : Int).toNat * 1) [str y] := fun {_ _} => RdW.base1 (by simp [kys]) (by rw [Int.toNat_natCast, Nat.mul_one]; exact hc' _ _ ey)
      by_cases hxy : x = y
      · have q1 : (!decide (bl ⟨x.toArray⟩ = bl ⟨y.toArray⟩)) = false := by rw [bl_of, bl_of, decide_eq_true hxy]; rfl
        refine At.go [true] [] rfl (by and_intros <;> first | exact rA | exact rB | exact q1 | exact decide_eq_true (by omega) | exact oK) ?_
        refine At.qt [] [hR [.string { data := x.toArray }], hR [.string { data := y.toArray }]] rfl rfl (by and_intros <;> first | exact rA | exact rB | exact q1 | exact decide_eq_true (by omega) | exact oK) ?_
        refine At.go [false] [] rfl (by and_intros <;> first | exact rA | exact rB | exact q1 | exact decide_eq_true (by omega) | exact oK) ?_
        exact At.weak (ih _ _ _ _ (by omega) ⟨i + 1, rfl, by omega, fun j hj => by by_cases hji : j = i; subst hji; rw [hx, hy, hxy]; exact hno j (by omega), rfl, rfl, rfl⟩) sB
      · have q1 : (!decide (bl ⟨x.toArray⟩ = bl ⟨y.toArray⟩)) = true := by rw [bl_of, bl_of, decide_eq_false hxy]; rfl
        have hne : decide (A = B) = false := decide_eq_false fun h => by rw [h, hy] at hx; exact hxy (Option.some.inj hx).symm
        rw [hne]
        refine At.go [true] [] rfl (by and_intros <;> first | exact rA | exact rB | exact q1 | exact decide_eq_true (by omega) | exact oK) ?_
        refine At.qt [] [hR [.string { data := x.toArray }], hR [.string { data := y.toArray }]] rfl rfl (by and_intros <;> first | exact rA | exact rB | exact q1 | exact decide_eq_true (by omega) | exact oK) ?_
        refine At.go [true] [] rfl (by and_intros <;> first | exact rA | exact rB | exact q1 | exact decide_eq_true (by omega) | exact oK) ?_
        refine At.rt [] [] [] Tryd.func10 ?_
        exact ⟨rfl, rfl, rfl⟩
    · obtain rfl : i = A.length := by omega
      rw [decide_eq_true (same_no hl hno)]
      refine At.go [false] [] rfl (by and_intros <;> first | exact decide_eq_false (by omega) | exact oK) ?_
      refine At.rt [] [] [] Tryd.func10 ?_
      exact ⟨rfl, rfl, rfl⟩
  · rw [decide_eq_false (fun h => hl (by rw [h]) : ¬ A = B)]
    refine At.go [true] [] rfl (by and_intros <;> first | (simp; omega) | exact oK) ?_
    refine At.rt [] [] [] Tryd.func10 ?_
    exact ⟨rfl, rfl, rfl⟩
end Go.Proofs

/-
  Walk of the statement ImageReads.
-/
namespace Go.Proofs
open Go Go.Eng
set_option maxRecDepth 100000
set_option maxHeartbeats 4000000
attribute [local irreducible] Tri

theorem nm0 : nmB 115 0 = [115, 48] := by
  unfold nmB Lib.itoa
  rw [if_pos (by decide), if_neg (by decide), Lib.decDigits, dif_pos (by decide)]; rfl
def exS : FL := [([115, 48], [1, 97, 165])]
theorem ex_rows : rowsB [1, 97, 165] = [[97]] ∧ justB [1, 97, 165] = true := by decide
theorem ex_heads : headsF [] 4 = ([], true) := rfl
theorem ex_seg0 : segF [] 0 = ([], true) := by
  unfold segF; rw [nm0]; rfl
theorem ex_seg1 : segF exS 0 = ([[97]], true) := by
  unfold segF; rw [nm0]
  have e : readN exS [115, 48] = [1, 97, 165] := rfl
  rw [e, ex_rows.1, ex_rows.2]; rfl
theorem ex_last : lastF [] = -1 := by rw [lastF_max]; rfl
theorem Tryd.alive21_w (w : World) (hT : Tryd.Pow w) : Fun Tryd.prog 4 [] w (.bool true) := by
  have h0 : ∀ p, p ∈ ([] : FL) → p.2.length ≤ 6000 := fun p hp => by cases hp
  have hin : inK .i64 0 := by simp only [inK]; omega
  have fL : ∀ {bx : Bx} {hp : List Seg}, CallOb Tryd.prog ⟨w, kys [] []⟩ bx hp 13 [.slice none 0 0] (.int .i64 (-1)) := fun {_ _} w' _ => by
    have := Tryd.imLast_w [] none 0 w' (by decide) (.inl rfl) (fun p hp => by cases hp); rwa [ex_last] at this
  refine Tri.enter (bx := []) (hp := []) Tryd.func4 rfl (by kernel_rfl) rfl (Own.nil w) ?_
  refine At.go [] [] rfl (by and_intros <;> first | exact trivial | exact oK) ?_
  refine At.step [] rfl rfl rfl rfl rfl trivial (OpOk.call rfl (fun w' hw' => Tryd.imHeaders_w [] 0 4 0 0 none 0 w' (by decide) h0 (.inl rfl)) ?_)
  rintro _ _ _ ⟨g1, k1, rfl, rfl, rfl⟩
  rw [ex_heads]
  refine At.go [] [] rfl (by and_intros <;> first | exact trivial | exact oK) ?_
  refine At.step [] rfl rfl rfl rfl rfl trivial (OpOk.call rfl (fun w' hw' => Tryd.imSegment_w [] 0 none 0 w' (by decide) h0 (.inl rfl) hin (tab_ext hT hw'.ext)) ?_)
  rintro _ _ _ ⟨g2, k2, rfl, rfl, rfl⟩
  rw [ex_seg0]
  refine At.go [] [] rfl (by and_intros <;> first | exact trivial | exact oK) ?_
  refine At.st [] (OpOk.buildSlice rfl rfl rfl rfl rfl rfl rfl (fun bs hbs => ?_))
  skip
  refine At.step [] rfl rfl rfl rfl rfl trivial (OpOk.call rfl (fun w' hw' => Tryd.imSegment_w exS 0 (some ⟨bs, 0, none⟩) 1 w' (by decide) (fun p hp => by simp [exS] at hp; subst hp; decide) (SlOk.blk (hw'.bx _ (nth_mem (i := 0) rfl))) hin (tab_ext hT hw'.ext)) ?_)
  rintro _ _ _ ⟨g3, k3, rfl, rfl, rfl⟩
  rw [ex_seg1]
  refine At.rowSome 0 rfl (by decide) fun q hq => ?_
  subst hq
  have r : ∀ {bx : Bx} {hp : List Seg}, nth hp 0 = some (Seg.row (some q) 9 1 (([[97]], true) : List (List UInt8) × Bool).1.length k3 ((([[97]], true) : List (List UInt8) × Bool).1.map str)) → RdW ⟨w, kys [] []⟩ bx hp q (0 + Int.toNat 0 * 1) [str [97]] := fun {_ _} h => RdW.row1 h (i := 0) rfl rfl
  refine At.go [true, true, true, true, true, true, true] [hC (.int .i64 (-1)), hR [.string { data := #[97] }]] rfl (by and_intros <;> first | exact fL | exact r rfl | (simp; done) | exact oK) ?_
  refine At.rt [] [] [] Tryd.func4 ?_
  exact ⟨rfl, rfl, rfl⟩
theorem headsF_len {S : FL} {n : Int} (h : ∀ p, p ∈ S → p.2.length ≤ 6000) : (headsF S n).1.length ≤ 6000 := by
  unfold headsF
  split
  · have h1 := hsB_len n (rowsB (readN S headsB))
    have h2 := (scan_len (readN S headsB)).1
    have h3 := readF_len (n := headsB) h
    have h4 : (rowsB (readN S headsB)).length = (scan (readN S headsB)).length := by unfold rowsB; rw [List.length_map]
    simp only; omega
  · exact Nat.zero_le _
theorem segF_len {S : FL} {k : Int} (h : ∀ p, p ∈ S → p.2.length ≤ 6000) : (segF S k).1.length ≤ 6000 := by
  unfold segF
  split
  · exact Nat.zero_le _
  · have h2 := (scan_len (readN S (nmB 115 k))).1
    have h3 := readF_len (n := nmB 115 k) h
    have h4 : (rowsB (readN S (nmB 115 k))).length = (scan (readN S (nmB 115 k))).length := by unfold rowsB; rw [List.length_map]
    simp only; omega
theorem Tryd.imageReads_w (S : FL) (c1 h c3 c4 k : Int) (n : List UInt8) (a : Option Addr) (cap : Nat) (w : World) (hlen : S.length ≤ 9223372036854775807) (hrow : SlOk w a (fl S)) (hns : ∀ p, p ∈ S → p.1.length ≤ 9223372036854775807 ∧ p.2.length ≤ 9223372036854775807) (hn : n.length ≤ 9223372036854775807) (hk : inK .i64 k) (hT : Tryd.Pow w) :
    Fun Tryd.prog 3 [.slice a S.length cap, .agg ⟨[.int .i64 c1, .int .i64 h, .int .i64 c3, .int .i64 c4]⟩, .int .i64 k, str n] w (.bool true) := by
  refine Tri.enter (bx := []) (hp := []) Tryd.func3 rfl (by kernel_rfl) rfl (Own.nil w) ?_
  have hA : ∀ {bx : Bx} {hp : List Seg}, CallOb Tryd.prog ⟨w, kys [] []⟩ bx hp 4 [] (.bool true) := fun {_ _} w' hw' => Tryd.alive21_w w' (tab_ext hT hw'.ext)
  obtain ⟨gr, hgr⟩ : ∃ gr, greatF S = gr := ⟨_, rfl⟩
  have hG : ∀ {bx : Bx} {hp : List Seg}, CallOb Tryd.prog ⟨w, kys [] []⟩ bx hp 5 [.slice a S.length cap] (.bool gr) := fun {_ _} w' hw' => by
    rw [← hgr]; exact Tryd.great09_w S a cap w' hlen (hrow.ext hw'.ext (by simp [kys])) hns
  cases gr with
  | true =>
    refine At.go [] [] rfl (by and_intros <;> first | exact hA | exact hG | exact oK) ?_
    refine At.bo fun b5 hb5 => ?_
    refine At.go [false, true, true] [hC (.bool true), hC (.bool true)] rfl (by and_intros <;> first | exact hA | exact hG | exact oK) ?_
    refine At.rt [] [] [] Tryd.func3 ?_
    exact ⟨rfl, rfl, rfl⟩
  | false =>
    obtain ⟨h60, hS⟩ := greatF_lens hgr
    by_cases hn100 : 100 < n.length
    · refine At.go [] [] rfl (by and_intros <;> first | exact hA | exact hG | (rw [bl_of]; exact decide_eq_true (by omega)) | exact oK) ?_
      refine At.bo fun b5 hb5 => ?_
      refine At.go [false, false, true] [hC (.bool true), hC (.bool false)] rfl (by and_intros <;> first | exact hA | exact hG | (rw [bl_of]; exact decide_eq_true (by omega)) | exact oK) ?_
      refine At.rt [] [] [] Tryd.func3 ?_
      exact ⟨rfl, rfl, rfl⟩
    refine At.go [] [] rfl (by and_intros <;> first | exact hA | exact hG | (rw [bl_of]; exact decide_eq_false (by omega)) | exact oK) ?_
    refine At.bo fun b5 hb5 => ?_
    refine At.go [false, false, false] [hC (.bool true), hC (.bool false), hB 0] rfl (by and_intros <;> first | exact hA | exact hG | (rw [bl_of]; exact decide_eq_false (by omega)) | exact oK) ?_
    refine At.step [] rfl rfl rfl rfl rfl trivial (OpOk.call rfl (fun w' hw' => Tryd.imHeaders_w S c1 h c3 c4 a cap w' h60 hS (hrow.ext hw'.ext (by simp [kys]))) ?_)
    rintro _ _ _ ⟨g1, k1, rfl, rfl, rfl⟩
    refine At.go [] [hB 0] rfl (by and_intros <;> first | exact trivial | exact oK) ?_
    refine At.step [] rfl rfl rfl rfl rfl trivial (OpOk.call rfl (fun w' hw' => Tryd.rfHeaders_w S c1 h c3 c4 a cap w' h60 hS (hrow.ext hw'.ext (by simp [kys]))) ?_)
    rintro _ _ _ ⟨g2, k2, rfl, rfl, rfl⟩
    refine At.go [] [] rfl (by and_intros <;> first | exact trivial | exact oK) ?_
    refine At.step [] rfl rfl rfl rfl rfl trivial (OpOk.call rfl (fun w' hw' => Tryd.imSegment_w S k a cap w' h60 hS (hrow.ext hw'.ext (by simp [kys])) hk (tab_ext hT hw'.ext)) ?_)
    rintro _ _ _ ⟨g3, k3, rfl, rfl, rfl⟩
    refine At.go [] [] rfl (by and_intros <;> first | exact trivial | exact oK) ?_
    refine At.step [] rfl rfl rfl rfl rfl trivial (OpOk.call rfl (fun w' hw' => Tryd.rfSegment_w S k a cap w' h60 hS (hrow.ext hw'.ext (by simp [kys]))) ?_)
    rintro _ _ _ ⟨g4, k4, rfl, rfl, rfl⟩
    have hsl := segF_len (k := k) hS
    have hhl := headsF_len (n := h) hS
    have fS : ∀ {bx : Bx} {hp : List Seg}, nth hp 1 = some (Seg.row g3 9 1 (segF S k).1.length k3 ((segF S k).1.map str)) → nth hp 0 = some (Seg.row g4 9 1 (segF S k).1.length k4 ((segF S k).1.map str)) →
        CallOb Tryd.prog ⟨w, kys [] []⟩ bx hp 10 [.slice (svA g3) (segF S k).1.length k3, .slice (svA g4) (segF S k).1.length k4] (.bool true) := fun {_ _} e1 e0 w' hw' => by
      have := Tryd.same03_w (segF S k).1 (segF S k).1 (svA g3) (svA g4) k3 k4 w' (by omega) (by omega) (SlOk.row (hw'.hp _ (nth_mem e1))) (SlOk.row (hw'.hp _ (nth_mem e0)))
      rwa [decide_eq_true rfl] at this
    have fI : ∀ {bx : Bx} {hp : List Seg}, CallOb Tryd.prog ⟨w, kys [] []⟩ bx hp 11 [.slice a S.length cap, str n] (str (readN S n)) := fun {_ _} w' hw' => Tryd.imRead_w S n a cap w' (by omega) (hrow.ext hw'.ext (by simp [kys]))
    have fJ : ∀ {bx : Bx} {hp : List Seg}, CallOb Tryd.prog ⟨w, kys [] []⟩ bx hp 12 [.slice a S.length cap, str n] (str (readN S n)) := fun {_ _} w' hw' => Tryd.r9Read_w S n a cap w' (by omega) (hrow.ext hw'.ext (by simp [kys]))
    have fL : ∀ {bx : Bx} {hp : List Seg}, CallOb Tryd.prog ⟨w, kys [] []⟩ bx hp 13 [.slice a S.length cap] (.int .i64 (lastF S)) := fun {_ _} w' hw' => Tryd.imLast_w S a cap w' h60 (hrow.ext hw'.ext (by simp [kys])) fun p hp => (hns p hp).1
    have fM : ∀ {bx : Bx} {hp : List Seg}, CallOb Tryd.prog ⟨w, kys [] []⟩ bx hp 14 [.slice a S.length cap] (.int .i64 (lastF S)) := fun {_ _} w' hw' => Tryd.rfLast_w S a cap w' h60 (hrow.ext hw'.ext (by simp [kys])) fun p hp => (hns p hp).1
    refine At.go [false, false, false, false, false] [hC (.bool true), hC (.string { data := (readN S n).toArray }), hC (.string { data := (readN S n).toArray })] rfl (by and_intros <;> first | exact fS rfl rfl | exact fI | exact fJ | (simp; done) | exact oK) ?_
    refine At.loop (env0 := [(0, .slice a (List.length S) cap), (9, .slice (svA g1) (headsF S h).fst.length k1), (11, .slice (svA g2) (headsF S h).fst.length k2), (17, .int .i64 0)]) (fun m_ env bx hp => ∃ (i : Nat), m_ = (headsF S h).1.length - i ∧ (i ≤ (headsF S h).1.length) ∧ env = [(0, .slice a (List.length S) cap), (9, .slice (svA g1) (headsF S h).fst.length k1), (11, .slice (svA g2) (headsF S h).fst.length k2), (17, .int .i64 i)] ∧ bx = [(b5, 24, [.int .i64 c1, .int .i64 h, .int .i64 c3, .int .i64 c4])] ∧ hp = [Seg.row g4 9 1 (segF S k).fst.length k4 (List.map str (segF S k).fst), Seg.row g3 9 1 (segF S k).fst.length k3 (List.map str (segF S k).fst), Seg.row g2 36 6 (headsF S h).fst.length k2 (List.flatMap hdC (headsF S h).fst), Seg.row g1 36 6 (headsF S h).fst.length k1 (List.flatMap hdC (headsF S h).fst)]) rfl
      ⟨0, rfl, (by omega), rfl, rfl, rfl⟩ sB ?_
    rintro m_ env bx hp ⟨i, rfl, hi, rfl, rfl, rfl⟩ ih
    by_cases hlt : i < (headsF S h).1.length
    · obtain ⟨⟨x1, x2, x3, x4, x5, x6⟩, hx⟩ : ∃ x, (headsF S h).1[i]? = some x := ⟨_, List.getElem?_eq_getElem hlt⟩
      refine At.rowSome 2 rfl (by omega) fun q2 hq => ?_
      subst hq
      refine At.rowSome 3 rfl (by omega) fun q1 hq => ?_
      subst hq
      have r : ∀ {bx : Bx} {hp : List Seg} (m q cc : Nat), nth hp m = some (Seg.row (some q) 36 6 (headsF S h).1.length cc ((headsF S h).1.flatMap hdC)) → RdW ⟨w, kys [] []⟩ bx hp q (0 + (i : Int).toNat * 6) [.int .i64 x1, .int .i64 x2, .int .i64 x3, .int .i64 x4, str x5, str x6] := fun {_ _} m q cc e => RdW.row e fun j u hu => by
        rw [show 0 + (i : Int).toNat * 6 + j = i * 6 + j by omega]
        exact flat_get (f := hdC) (sz := 6) (fun _ _ => rfl) hx j u hu
      refine At.go [true] [] rfl (by and_intros <;> first | exact r 2 _ _ rfl | exact r 3 _ _ rfl | (simp; done) | exact decide_eq_true (by omega) | exact oK) ?_
      refine At.qt [] [hR [.int .i64 x1, .int .i64 x2, .int .i64 x3, .int .i64 x4, .string { data := x5.toArray }, .string { data := x6.toArray }], hR [.int .i64 x1, .int .i64 x2, .int .i64 x3, .int .i64 x4, .string { data := x5.toArray }, .string { data := x6.toArray }]] rfl rfl (by and_intros <;> first | exact r 2 _ _ rfl | exact r 3 _ _ rfl | (simp; done) | exact decide_eq_true (by omega) | exact oK) ?_
      refine At.go [false] [] rfl (by and_intros <;> first | exact r 2 _ _ rfl | exact r 3 _ _ rfl | (simp; done) | exact decide_eq_true (by omega) | exact oK) ?_
      exact At.weak (ih _ _ _ _ (by omega) ⟨i + 1, rfl, by omega, rfl, rfl, rfl⟩) sB
    · refine At.go [false] [hC (.int .i64 (lastF S)), hC (.int .i64 (lastF S))] rfl (by and_intros <;> first | exact decide_eq_false (by omega) | exact fL | exact fM | exact oK) ?_
      refine At.rt [] [] [] Tryd.func3 ?_
      exact ⟨by simp [tupV], rfl, rfl⟩
end Go.Proofs

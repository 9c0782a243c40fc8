/-
  Walks of the column's statements.
-/
import Derived.Test.YtdiglfjmjkhgoaaW10
import Derived.Test.YtdiglfjmjkhgoaaW5
namespace Go.Proofs
open Go Go.Eng

theorem Try.gets_w (s : ByteArray) (most : Int) (w : World) : Fun Try.prog 4 [.string s, .int .i64 most] w (.bool true) := by
  refine Tri.enter (bx := []) (hp := []) Try.func4 rfl (by kernel_rfl) rfl (Own.nil w) ?_
  refine At.run 100 true [false] [hC (.bool true)] rfl (by (repeat' apply And.intro) <;> first | exact fun w' _ => Try.alive_w w' | exact True.intro | omega | rfl | (simp only [inK]; omega) | exact decide_eq_true (by omega) | exact decide_eq_false (by omega) | (simp; done) | (simp; omega) | exact AggOk.mk (by kernel_rfl) (by kernel_rfl)) ?_
  by_cases hl : 300 < (bl s).length
  · refine At.run 100 true [true] [] rfl (by (repeat' apply And.intro) <;> first | exact True.intro | omega | (simp only [inK]; omega) | (simp; done) | (simp; omega) | exact decide_eq_true (by omega) | exact decide_eq_false (by omega) | rfl | exact AggOk.mk (by kernel_rfl) (by kernel_rfl)) ?_
    exact At.ret [] rfl Try.func4 rfl trivial ⟨rfl, rfl, rfl⟩
  refine At.run 100 true [false] [] rfl (by (repeat' apply And.intro) <;> first | exact True.intro | omega | (simp only [inK]; omega) | (simp; done) | (simp; omega) | exact decide_eq_true (by omega) | exact decide_eq_false (by omega) | rfl | exact AggOk.mk (by kernel_rfl) (by kernel_rfl)) ?_
  by_cases hm : most < 0 ∨ 65536 < most
  · by_cases h0 : most < 0
    · refine At.run 100 true [true, true, true, true] [hC (.tuple #[sv none 0 0, .int .i64 0, .int .i64 1])] rfl (by (repeat' apply And.intro) <;> first | exact fun w' _ => Try.ColGet_bad s most w' hm | exact True.intro | omega | rfl | (simp only [inK]; omega) | exact decide_eq_true (by omega) | exact decide_eq_false (by omega) | (simp; done) | (simp; omega) | exact AggOk.mk (by kernel_rfl) (by kernel_rfl)) ?_
      exact At.ret [] rfl Try.func4 rfl trivial ⟨rfl, rfl, rfl⟩
    · refine At.run 100 true [false, true, true, true] [hC (.tuple #[sv none 0 0, .int .i64 0, .int .i64 1])] rfl (by (repeat' apply And.intro) <;> first | exact fun w' _ => Try.ColGet_bad s most w' hm | exact True.intro | omega | rfl | (simp only [inK]; omega) | exact decide_eq_true (by omega) | exact decide_eq_false (by omega) | (simp; done) | (simp; omega) | exact AggOk.mk (by kernel_rfl) (by kernel_rfl)) ?_
      exact At.ret [] rfl Try.func4 rfl trivial ⟨rfl, rfl, rfl⟩
  obtain ⟨most, rfl⟩ : ∃ n : Nat, most = n := ⟨most.toNat, by omega⟩
  refine At.step [] rfl rfl rfl rfl rfl trivial (OpOk.call rfl (fun w' hw' => Try.ColGet_w s most w' (by omega) (by omega)) ?_)
  rintro v bx' hp' ⟨a, cap, rfl, rfl, rfl⟩
  refine At.run 100 true [false, false] [] rfl (by (repeat' apply And.intro) <;> first | exact True.intro | omega | (simp only [inK]; omega) | (simp; done) | (simp; omega) | exact decide_eq_true (by omega) | exact decide_eq_false (by omega) | rfl | exact AggOk.mk (by kernel_rfl) (by kernel_rfl)) ?_
  refine At.step [] rfl rfl rfl rfl rfl trivial (OpOk.call rfl (fun w' hw' => Try.rGet_w s most w' (by omega) (by omega)) ?_)
  rintro v bx' hp' ⟨a2, cap2, rfl, rfl, rfl⟩
  obtain ⟨xs, n, e, hG⟩ : ∃ xs n e, colG (bl s) most = (xs, n, e) := ⟨_, _, _, rfl⟩
  have hlx := colG_len (bl s) most
  simp only [hG] at hlx ⊢
  have hrows : ∀ w', WOk ⟨w, kys [] []⟩ [] [Seg.row a2 2 1 xs.length cap2 (i64s xs), Seg.row a 2 1 xs.length cap (i64s xs)] w' → SlOk w' (svA a) (i64s xs) ∧ SlOk w' (svA a2) (i64s xs) :=
    fun w' hw' => ⟨SlOk.row (hw'.hp (Seg.row a 2 1 xs.length cap (i64s xs)) (by simp)), SlOk.row (hw'.hp (Seg.row a2 2 1 xs.length cap2 (i64s xs)) (by simp))⟩
  have hsame : CallOb Try.prog ⟨w, kys [] []⟩ [] [Seg.row a2 2 1 xs.length cap2 (i64s xs), Seg.row a 2 1 xs.length cap (i64s xs)] 11 [sv a xs.length cap, sv a2 xs.length cap2] (.bool true) := by
    intro w' hw'
    have := Try.same_w xs xs (svA a) (svA a2) cap cap2 w' (hrows w' hw').1 (hrows w' hw').2 (by omega)
    rw [show decide (xs = xs) = true by simp] at this
    exact this
  refine At.run 100 true [false, false, false] [hC (.bool true)] rfl (by (repeat' apply And.intro) <;> first | exact hsame | simp; done | exact True.intro | omega | rfl | (simp only [inK]; omega) | exact decide_eq_true (by omega) | exact decide_eq_false (by omega) | (simp; done) | (simp; omega) | exact AggOk.mk (by kernel_rfl) (by kernel_rfl)) ?_
  by_cases he : e = 0
  · subst he
    obtain ⟨ht, hn, -⟩ := colG_get hG
    have hput : CallOb Try.prog ⟨w, kys [] []⟩ [] [Seg.row a2 2 1 xs.length cap2 (i64s xs), Seg.row a 2 1 xs.length cap (i64s xs)] 8 [sv a xs.length cap] (.tuple #[str (colL xs), .int .i64 0]) :=
      fun w' hw' => Try.Put_w xs (svA a) cap w' (by omega) (hrows w' hw').1
    have hnl : n ≤ (bl s).length := by have := congrArg List.length ht; rw [List.length_take, ← hn] at this; omega
    refine At.run 100 true [false, true, true] [hC (.tuple #[str (colL xs), .int .i64 0])] rfl (by (repeat' apply And.intro) <;> first | exact hput | exact True.intro | omega | rfl | (simp only [inK]; omega) | exact decide_eq_true (by omega) | exact decide_eq_false (by omega) | (simp; done) | (simp; omega) | exact AggOk.mk (by kernel_rfl) (by kernel_rfl)) ?_
    refine At.keep [] [] rfl ?_
    refine At.ret [] rfl Try.func4 rfl trivial ⟨?_, rfl, rfl⟩
    simp only [tupV, bl_str, Int.toNat_natCast, ht, decide_true]
  · refine At.run 100 true [true] [] rfl (by (repeat' apply And.intro) <;> first | simp [he]; done | exact True.intro | omega | rfl | (simp only [inK]; omega) | exact decide_eq_true (by omega) | exact decide_eq_false (by omega) | (simp; done) | (simp; omega) | exact AggOk.mk (by kernel_rfl) (by kernel_rfl)) ?_
    refine At.keep [] [] rfl ?_
    exact At.ret [] rfl Try.func4 rfl trivial ⟨rfl, rfl, rfl⟩

theorem Try.Put_bad (n cap : Nat) (a : Option Addr) (w : World) (h : 65536 < n) : Fun Try.prog 8 [.slice a n cap] w (.tuple #[str [], .int .i64 4]) := by
  refine Tri.enter (bx := []) (hp := []) Try.func8 rfl (by kernel_rfl) rfl (Own.nil w) ?_
  refine At.run 100 true [true] [] rfl (by (repeat' apply And.intro) <;> first | exact True.intro | omega | (simp only [inK]; omega) | (simp; done) | (simp; omega) | exact decide_eq_true (by omega) | exact decide_eq_false (by omega) | rfl | exact AggOk.mk (by kernel_rfl) (by kernel_rfl)) ?_
  exact At.ret [] rfl Try.func8 rfl trivial ⟨rfl, rfl, rfl⟩

theorem Try.puts_w (xs : List Int) (a : Option Addr) (cap : Nat) (m : ByteArray) (w : World) (hrow : SlOk w a (i64s xs)) (hin : ∀ x, x ∈ xs → inK .i64 x) :
    Fun Try.prog 5 [.slice a xs.length cap, .string m] w (.bool true) := by
  refine Tri.enter (bx := []) (hp := []) Try.func5 rfl (by kernel_rfl) rfl (Own.nil w) ?_
  refine At.run 100 true [false] [hC (.bool true)] rfl (by (repeat' apply And.intro) <;> first | exact fun w' _ => Try.alive_w w' | exact True.intro | omega | rfl | (simp only [inK]; omega) | exact decide_eq_true (by omega) | exact decide_eq_false (by omega) | (simp; done) | (simp; omega) | exact AggOk.mk (by kernel_rfl) (by kernel_rfl)) ?_
  by_cases h1 : 500 < xs.length ∧ xs.length ≤ 65536
  · refine At.run 100 true [true, true, true] [] rfl (by (repeat' apply And.intro) <;> first | exact True.intro | omega | (simp only [inK]; omega) | (simp; done) | (simp; omega) | exact decide_eq_true (by omega) | exact decide_eq_false (by omega) | rfl | exact AggOk.mk (by kernel_rfl) (by kernel_rfl)) ?_
    exact At.ret [] rfl Try.func5 rfl trivial ⟨rfl, rfl, rfl⟩
  by_cases h2 : 300 < (bl m).length
  · by_cases h3 : 500 < xs.length
    · refine At.run 100 true [true, false, true] [] rfl (by (repeat' apply And.intro) <;> first | exact True.intro | omega | (simp only [inK]; omega) | (simp; done) | (simp; omega) | exact decide_eq_true (by omega) | exact decide_eq_false (by omega) | rfl | exact AggOk.mk (by kernel_rfl) (by kernel_rfl)) ?_
      exact At.ret [] rfl Try.func5 rfl trivial ⟨rfl, rfl, rfl⟩
    · refine At.run 100 true [false, false, true] [] rfl (by (repeat' apply And.intro) <;> first | exact True.intro | omega | (simp only [inK]; omega) | (simp; done) | (simp; omega) | exact decide_eq_true (by omega) | exact decide_eq_false (by omega) | rfl | exact AggOk.mk (by kernel_rfl) (by kernel_rfl)) ?_
      exact At.ret [] rfl Try.func5 rfl trivial ⟨rfl, rfl, rfl⟩
  by_cases h3 : 500 < xs.length
  · refine At.run 100 true [true, false, false, true, true] [hC (.tuple #[str [], .int .i64 4])] rfl (by (repeat' apply And.intro) <;> first | exact fun w' _ => Try.Put_bad xs.length cap a w' (by omega) | exact True.intro | omega | rfl | (simp only [inK]; omega) | exact decide_eq_true (by omega) | exact decide_eq_false (by omega) | (simp; done) | (simp; omega) | exact AggOk.mk (by kernel_rfl) (by kernel_rfl)) ?_
    exact At.ret [] rfl Try.func5 rfl trivial ⟨rfl, rfl, rfl⟩
  have hsl : ∀ {bx : Bx} {hp : List Seg} {w' : World}, WOk ⟨w, kys [] []⟩ bx hp w' → SlOk w' a (i64s xs) := fun {_ _ _} hw' => hrow.ext hw'.ext (by simp [kys])
  refine At.run 100 true [false, false, false, false] [hC (.tuple #[str (colL xs), .int .i64 0])] rfl (by (repeat' apply And.intro) <;> first | exact fun w' hw' => Try.Put_w xs a cap w' (by omega) (hsl hw') | exact True.intro | omega | rfl | (simp only [inK]; omega) | exact decide_eq_true (by omega) | exact decide_eq_false (by omega) | (simp; done) | (simp; omega) | exact AggOk.mk (by kernel_rfl) (by kernel_rfl)) ?_
  refine At.step [] rfl rfl rfl rfl rfl trivial (OpOk.call rfl (fun w' hw' => Try.Runs_w xs a cap w' (by omega) (hsl hw')) ?_)
  rintro v bx' hp' ⟨a1, c1, rfl, rfl, rfl⟩
  refine At.run 100 true [] [] rfl (by (repeat' apply And.intro) <;> first | exact True.intro | omega | (simp only [inK]; omega) | (simp; done) | (simp; omega) | exact decide_eq_true (by omega) | exact decide_eq_false (by omega) | rfl | exact AggOk.mk (by kernel_rfl) (by kernel_rfl)) ?_
  refine At.step [] rfl rfl rfl rfl rfl trivial (OpOk.call rfl (fun w' hw' => Try.rRuns_w xs a cap w' (by omega) (hsl hw')) ?_)
  rintro v bx' hp' ⟨a2, c2, rfl, rfl, rfl⟩
  have hrput : ∀ {hp : List Seg}, CallOb Try.prog ⟨w, kys [] []⟩ [] hp 13 [.slice a xs.length cap] (str (colL xs)) := fun {_} w' hw' => Try.rPut_w xs a cap w' (by omega) (hsl hw')
  have hrl := rle_len (diffs 0 xs)
  rw [diffs_len] at hrl
  have hcl : (colL xs).length ≤ 10 + 20 * xs.length := by
    have h64 : xs.length < 18446744073709551616 := by omega
    have l3 := numL_len10 _ h64
    have l4 := runs_len (rle (diffs 0 xs)) (fun x hx => by
      have := rle_mem _ x hx
      rw [diffs_len] at this
      exact runB_len (diffs_in _ _ _ this.1) (by omega))
    simp only [colL, List.length_append]; omega
  generalize rle (diffs 0 xs) = rs at *
  refine At.run 100 true [false, false, false] [hC (str (colL xs))] rfl (by (repeat' apply And.intro) <;> first | exact hrput | simp; done | exact True.intro | omega | rfl | (simp only [inK]; omega) | exact decide_eq_true (by omega) | exact decide_eq_false (by omega) | (simp; done) | (simp; omega) | exact AggOk.mk (by kernel_rfl) (by kernel_rfl)) ?_
  refine At.loop (n := rs.length) (env0 := [(0, .slice a xs.length cap), (1, .string m), (5, str (colL xs)), (7, sv a1 rs.length c1), (8, sv a2 rs.length c2), (9, .int .i64 0)]) (fun m' env bx hp => ∃ i : Nat, m' = rs.length - i ∧ i ≤ rs.length ∧
    env = [(0, .slice a xs.length cap), (1, .string m), (5, str (colL xs)), (7, sv a1 rs.length c1), (8, sv a2 rs.length c2), (9, .int .i64 i)] ∧ bx = [] ∧ hp = [Seg.row a2 30 2 rs.length c2 (rs.flatMap encR), Seg.row a1 30 2 rs.length c1 (rs.flatMap encR)]) rfl
    ⟨0, by simp, by omega, rfl, rfl, rfl⟩ ⟨rfl, rfl, rfl, rfl, rfl, rfl, trivial⟩ ?_
  rintro m' env bx hp ⟨i, rfl, hi, rfl, rfl, rfl⟩ ih
  by_cases hlt : i < rs.length
  · refine At.rowSome 0 rfl (by omega) (fun g2 hg2 => ?_)
    refine At.rowSome 1 rfl (by omega) (fun g1 hg1 => ?_)
    subst hg2; subst hg1
    obtain ⟨⟨d, n⟩, hx⟩ : ∃ x, rs[i]? = some x := ⟨_, List.getElem?_eq_getElem hlt⟩
    refine At.run 100 true [true] [] rfl (by (repeat' apply And.intro) <;> first | exact True.intro | omega | (simp only [inK]; omega) | (simp; done) | (simp; omega) | exact decide_eq_true (by omega) | exact decide_eq_false (by omega) | rfl | exact AggOk.mk (by kernel_rfl) (by kernel_rfl)) ?_
    have r1 : ∀ {bx : Bx}, RdW ⟨w, kys [] []⟩ bx [Seg.row (some g2) 30 2 rs.length c2 (rs.flatMap encR), Seg.row (some g1) 30 2 rs.length c1 (rs.flatMap encR)] g1 (0 + (i : Int).toNat * 2) [.int .i64 d, .int .i64 n] := fun {bx} => RdW.row (j := 1) rfl (encR_cells hx (by simp; omega))
    have r2 : ∀ {bx : Bx}, RdW ⟨w, kys [] []⟩ bx [Seg.row (some g2) 30 2 rs.length c2 (rs.flatMap encR), Seg.row (some g1) 30 2 rs.length c1 (rs.flatMap encR)] g2 (0 + (i : Int).toNat * 2) [.int .i64 d, .int .i64 n] := fun {bx} => RdW.row (j := 0) rfl (encR_cells hx (by simp; omega))
    refine At.quiet true [] [hR [.int .i64 d, .int .i64 n], hR [.int .i64 d, .int .i64 n]] ⟨by kernel_rfl, by kernel_rfl, rfl, rfl, rfl⟩ rfl rfl rfl (by (repeat' apply And.intro) <;> first | exact r1 | exact r2 | exact True.intro | omega | rfl | (simp only [inK]; omega) | exact decide_eq_true (by omega) | exact decide_eq_false (by omega) | (simp; done) | (simp; omega) | exact AggOk.mk (by kernel_rfl) (by kernel_rfl)) ?_
    refine At.run 100 true [false] [] rfl (by (repeat' apply And.intro) <;> first | exact True.intro | omega | (simp only [inK]; omega) | (simp; done) | (simp; omega) | exact decide_eq_true (by omega) | exact decide_eq_false (by omega) | rfl | exact AggOk.mk (by kernel_rfl) (by kernel_rfl)) ?_
    refine At.weak (ih (rs.length - (i + 1)) _ _ _ (by omega) ⟨i + 1, rfl, by omega, rfl, rfl, rfl⟩) ⟨rfl, rfl, rfl, rfl, rfl, some_int_eq (by omega), trivial⟩
  · refine At.run 6 true [false] [] rfl (by (repeat' apply And.intro) <;> first | exact True.intro | omega | (simp only [inK]; omega) | (simp; done) | (simp; omega) | exact decide_eq_true (by omega) | exact decide_eq_false (by omega) | rfl | exact AggOk.mk (by kernel_rfl) (by kernel_rfl)) ?_
    have hcm : (colL xs ++ bl m).length ≤ 100000 := by rw [List.length_append]; omega
    refine At.run 100 true [] [] rfl (by (repeat' apply And.intro) <;> first | simp only [bl_str]; omega | exact True.intro | omega | rfl | (simp only [inK]; omega) | exact decide_eq_true (by omega) | exact decide_eq_false (by omega) | (simp; done) | (simp; omega) | exact AggOk.mk (by kernel_rfl) (by kernel_rfl)) ?_
    have hG : colG (colL xs ++ bl m) xs.length = (xs, (colL xs).length, 0) := colG_put hin _ (Nat.le_refl _) (by omega)
    refine At.step [] rfl rfl rfl rfl rfl trivial (OpOk.call rfl (fun w' hw' => Try.ColGet_w ⟨(colL xs ++ bl m).toArray⟩ xs.length w' (by omega) (by simp only [bl_str]; omega)) ?_)
    rintro v bx' hp' ⟨a3, c3, rfl, rfl, rfl⟩
    simp only [bl_str, hG]
    have hsame : ∀ {hp : List Seg}, CallOb Try.prog ⟨w, kys [] []⟩ [] (Seg.row a3 2 1 xs.length c3 (i64s xs) :: hp) 11 [sv a3 xs.length c3, .slice a xs.length cap] (.bool true) := by
      intro hp w' hw'
      have := Try.same_w xs xs (svA a3) a c3 cap w' (SlOk.row (hw'.hp (Seg.row a3 2 1 xs.length c3 (i64s xs)) (by simp))) (hsl hw') (by omega)
      rw [show decide (xs = xs) = true by simp] at this
      exact this
    refine At.run 100 true [true, true] [hC (.bool true)] rfl (by (repeat' apply And.intro) <;> first | exact hsame | simp; done | exact True.intro | omega | rfl | (simp only [inK]; omega) | exact decide_eq_true (by omega) | exact decide_eq_false (by omega) | (simp; done) | (simp; omega) | exact AggOk.mk (by kernel_rfl) (by kernel_rfl)) ?_
    refine At.keep [] [] rfl ?_
    exact At.ret [] rfl Try.func5 rfl trivial ⟨rfl, rfl, rfl⟩
end Go.Proofs

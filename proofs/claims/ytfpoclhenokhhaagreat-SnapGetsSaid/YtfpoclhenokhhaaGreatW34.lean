/-
  Walks of layer 13: its statements.
-/
import Derived.Test.YtfpoclhenokhhaaGreatW33
namespace Go.Proofs
open Go Go.Eng
set_option maxRecDepth 100000
set_option maxHeartbeats 4000000
attribute [local irreducible] Tri

theorem getBk_zero (s : List UInt8) (h : (getBk s).2 ≠ 0) : (getBk s).1 = zeroBk := by
  unfold getBk at h ⊢
  split
  · rfl
  · rename_i h1
    rw [if_neg h1] at h
    simp only at h ⊢
    split
    · rfl
    · rename_i h2
      rw [if_neg h2] at h
      split
      · rfl
      · rename_i h3
        rw [if_neg h3] at h
        split
        · rfl
        · rename_i h4
          rw [if_neg h4] at h
          split
          · rfl
          · rename_i h5
            rw [if_neg h5] at h
            split
            · rename_i h6; rw [if_pos h6] at h; exact (h rfl).elim
            · rfl
theorem zeroBk_in : BkIn zeroBk := ⟨fun x hx => by simp [zeroBk] at hx, fun x hx => by simp [zeroBk] at hx, fun x hx => by simp [zeroBk] at hx, fun x hx => by simp [zeroBk] at hx, by simp [zeroBk], by simp [zeroBk], by simp [zeroBk], by simp [zeroBk], by simp [zeroBk, inK]⟩
theorem zeroBk_ok (w : World) : BkOk w zeroBk ⟨none, none, none, none, 0, 0, 0, 0⟩ := ⟨.inl rfl, .inl rfl, .inl rfl, .inl rfl⟩
theorem getBk_in (s : List UInt8) : BkIn (getBk s).1 := by
  by_cases h : (getBk s).2 = 0
  · exact (getBk_get (Prod.ext rfl h)).2.2.1
  · rw [getBk_zero s h]; exact zeroBk_in
theorem sameB_refl (b : Bk) : sameB b b = true := by simp [sameB]

def z16 : List UInt8 := [0, 0, 0, 0, 0, 0, 0, 0, 0, 0, 0, 0, 0, 0, 0, 0]
theorem may_zero : mayB zeroBk = true := by decide
theorem col_nil : colL [] = [0] := by
  have h : numL 0 = [0] := by rw [numL_small (by omega)]; rfl
  have h2 : rle (diffs 0 []) = [] := rfl
  simp only [colL, h2, List.length_nil, h]; rfl
theorem book_zero : bookB zeroBk = z16 := by
  have h : numL 0 = [0] := by rw [numL_small (by omega)]; rfl
  simp [bookB, zeroBk, putB, colOf, col_nil, h, List.range_succ, z16]
theorem get_z16 : getBk z16 = (zeroBk, 0) := by
  have := getBk_put may_zero zeroBk_in (by simp [zeroBk]) []
  rw [book_zero, List.append_nil, if_pos rfl] at this
  exact this

theorem Tryz.alive13_w (w : World) : Fun Tryz.prog 6 [] w (.bool true) := by
  refine Tri.enter (bx := []) (hp := []) Tryz.func6 rfl (by kernel_rfl) rfl (Own.nil w) ?_
  have hP : ∀ {bx : Bx} {hp : List Seg}, CallOb Tryz.prog ⟨w, kys [] []⟩ bx hp 8 [.agg ⟨bkV zeroBk ⟨none, none, none, none, 0, 0, 0, 0⟩⟩] (.tuple #[str z16, .int .i64 0]) := fun {_ _} w' hw' => by
    have := Tryz.snapPut_w zeroBk ⟨none, none, none, none, 0, 0, 0, 0⟩ w' zeroBk_in (zeroBk_ok w') (by simp [zeroBk])
    rw [may_zero, if_pos rfl, if_pos rfl, book_zero] at this; exact this
  refine At.run 100 true [] [hC (.tuple #[str z16, .int .i64 0])] rfl (by (repeat' apply And.intro) <;> first | exact hP | exact True.intro | omega | rfl | (simp only [inK]; omega) | exact decide_eq_true (by omega) | exact decide_eq_false (by omega) | (simp; done) | (simp; omega) | (simp [Value.oneCell']; done) | exact i64s_one _ | exact AggOk.mk (by kernel_rfl) (by kernel_rfl)) ?_
  have hg := fun w' => Tryz.snapGet_w z16 w' (by decide)
  rw [get_z16] at hg
  refine At.step [] rfl rfl rfl rfl rfl trivial (OpOk.call rfl (fun w' _ => hg w') ?_)
  rintro v bx' hp' ⟨G, rfl, rfl, rfl⟩
  refine At.run 100 true [] [] rfl (by (repeat' apply And.intro) <;> first | exact True.intro | omega | (simp only [inK]; omega) | (simp; done) | (simp; omega) | exact decide_eq_true (by omega) | exact decide_eq_false (by omega) | rfl | (simp [Value.oneCell']; done) | exact i64s_one _ | exact AggOk.mk (by kernel_rfl) (by kernel_rfl)) ?_
  refine At.step [] rfl rfl rfl rfl rfl trivial (OpOk.alloc (cs := [sv none 0 0, sv none 0 0, sv none 0 0, sv none 0 0, .int .i64 0]) rfl (by kernel_rfl) fun b3 hb3 => ?_)
  have hS : ∀ {bx : Bx}, CallOb Tryz.prog ⟨w, kys [] []⟩ bx (Tryz.bkRows zeroBk G) 12 [.agg ⟨bkV zeroBk G.A⟩, .agg ⟨bkV zeroBk ⟨none, none, none, none, 0, 0, 0, 0⟩⟩] (.bool true) := fun {_} w' hw' => by
    have := Tryz.rSame_w zeroBk zeroBk G.A ⟨none, none, none, none, 0, 0, 0, 0⟩ w' zeroBk_in zeroBk_in (Tryz.bkRows_ok hw' (fun s hs => hs)) (zeroBk_ok w')
    rw [sameB_refl] at this; exact this
  refine At.run 100 true [true, true, true] [hB 0, hB 0, hC (.bool true)] rfl (by (repeat' apply And.intro) <;> first | exact hS | simp [Value.oneCell', bkV]; done | decide | exact True.intro | omega | rfl | (simp only [inK]; omega) | exact decide_eq_true (by omega) | exact decide_eq_false (by omega) | (simp; done) | (simp; omega) | (simp [Value.oneCell']; done) | exact i64s_one _ | exact AggOk.mk (by kernel_rfl) (by kernel_rfl)) ?_
  refine At.keep [] [] (by simp only [forceL_eq]; exact Prod.ext rfl (selL_none _)) ?_
  exact At.retK [] [] [] rfl rfl Tryz.func6 rfl trivial ⟨rfl, rfl, rfl⟩

theorem Tryz.gets13_w (s : List UInt8) (w : World) : Fun Tryz.prog 4 [str s] w (.bool true) := by
  refine Tri.enter (bx := []) (hp := []) Tryz.func4 rfl (by kernel_rfl) rfl (Own.nil w) ?_
  have hA : ∀ {bx : Bx} {hp : List Seg}, CallOb Tryz.prog ⟨w, kys [] []⟩ bx hp 6 [] (.bool true) := fun {_ _} w' hw' => Tryz.alive13_w w'
  have hsz : (bl ⟨s.toArray⟩).length = s.length := by rw [bl_str]
  by_cases hl : 1500 < s.length
  · refine At.run 100 true [false, true] [hC (.bool true)] rfl (by (repeat' apply And.intro) <;> first | exact hA | (rw [bl_str]; simp only [inK]; omega) | exact True.intro | omega | rfl | (simp only [inK]; omega) | exact decide_eq_true (by omega) | exact decide_eq_false (by omega) | (simp; done) | (simp; omega) | (simp [Value.oneCell']; done) | exact i64s_one _ | exact AggOk.mk (by kernel_rfl) (by kernel_rfl)) ?_
    exact At.retK [] [] [] rfl rfl Tryz.func4 rfl trivial ⟨rfl, rfl, rfl⟩
  · refine At.run 100 true [false, false] [hC (.bool true)] rfl (by (repeat' apply And.intro) <;> first | exact hA | (rw [bl_str]; simp only [inK]; omega) | exact True.intro | omega | rfl | (simp only [inK]; omega) | exact decide_eq_true (by omega) | exact decide_eq_false (by omega) | (simp; done) | (simp; omega) | (simp [Value.oneCell']; done) | exact i64s_one _ | exact AggOk.mk (by kernel_rfl) (by kernel_rfl)) ?_
    have hin := getBk_in s
    have hgz := getBk_get (s := s) (b := (getBk s).1)
    have hg := fun w' => Tryz.snapGet_w s w' (by omega)
    have hr := fun w' => Tryz.rGet13_w s w' (by omega)
    obtain ⟨b, e, hbe⟩ : ∃ b e, getBk s = (b, e) := ⟨_, _, rfl⟩
    rw [hbe] at hg hr hgz hin
    simp only at hg hr hgz hin
    refine At.step [] rfl rfl rfl rfl rfl trivial (OpOk.call rfl (fun w' _ => hg w') ?_)
    rintro v bx' hp' ⟨G, rfl, rfl, rfl⟩
    refine At.run 100 true [] [] rfl (by (repeat' apply And.intro) <;> first | exact True.intro | omega | (simp only [inK]; omega) | (simp; done) | (simp; omega) | exact decide_eq_true (by omega) | exact decide_eq_false (by omega) | rfl | (simp [Value.oneCell']; done) | exact i64s_one _ | exact AggOk.mk (by kernel_rfl) (by kernel_rfl)) ?_
    refine At.step [] rfl rfl rfl rfl rfl trivial (OpOk.alloc (cs := [sv none 0 0, sv none 0 0, sv none 0 0, sv none 0 0, .int .i64 0]) rfl (by kernel_rfl) fun b3 hb3 => ?_)
    refine At.run 100 true [] [hB 0] rfl (by (repeat' apply And.intro) <;> first | simp [Value.oneCell', bkV]; done | exact True.intro | omega | rfl | (simp only [inK]; omega) | exact decide_eq_true (by omega) | exact decide_eq_false (by omega) | (simp; done) | (simp; omega) | (simp [Value.oneCell']; done) | exact i64s_one _ | exact AggOk.mk (by kernel_rfl) (by kernel_rfl)) ?_
    refine At.step [] rfl rfl rfl rfl rfl trivial (OpOk.call rfl (fun w' _ => hr w') ?_)
    rintro v bx' hp' ⟨G2, rfl, rfl, rfl⟩
    refine At.run 100 true [] [] rfl (by (repeat' apply And.intro) <;> first | exact True.intro | omega | (simp only [inK]; omega) | (simp; done) | (simp; omega) | exact decide_eq_true (by omega) | exact decide_eq_false (by omega) | rfl | (simp [Value.oneCell']; done) | exact i64s_one _ | exact AggOk.mk (by kernel_rfl) (by kernel_rfl)) ?_
    refine At.step [] rfl rfl rfl rfl rfl trivial (OpOk.alloc (cs := [sv none 0 0, sv none 0 0, sv none 0 0, sv none 0 0, .int .i64 0]) rfl (by kernel_rfl) fun b5 hb5 => ?_)
    have hS : ∀ {bx : Bx}, CallOb Tryz.prog ⟨w, kys [] []⟩ bx (Tryz.bkRows b G2 ++ (Tryz.bkRows b G ++ [])) 12 [.agg ⟨bkV b G.A⟩, .agg ⟨bkV b G2.A⟩] (.bool true) := fun {_} w' hw' => by
      have := Tryz.rSame_w b b G.A G2.A w' hin hin (Tryz.bkRows_ok hw' (fun s hs => by simp [hs])) (Tryz.bkRows_ok hw' (fun s hs => by simp [hs]))
      rw [sameB_refl] at this; exact this
    by_cases he : e = 0
    · subst he
      obtain ⟨hsb, hm, -, hS4⟩ := hgz rfl
      have hP : ∀ {bx : Bx}, CallOb Tryz.prog ⟨w, kys [] []⟩ bx (Tryz.bkRows b G2 ++ (Tryz.bkRows b G ++ [])) 8 [.agg ⟨bkV b G.A⟩] (.tuple #[str s, .int .i64 0]) := fun {_} w' hw' => by
        have := Tryz.snapPut_w b G.A w' hin (Tryz.bkRows_ok hw' (fun s hs => by simp [hs])) (by omega)
        rw [hm, if_pos rfl, if_pos rfl, ← hsb] at this; exact this
      refine At.run 100 true [false, false, false, true] [hB 0, hB 1, hB 0, hC (.bool true), hB 1, hC (.tuple #[str s, .int .i64 0])] rfl (by (repeat' apply And.intro) <;> first | exact hS | exact hP | simp [Value.oneCell', bkV]; done | exact True.intro | omega | rfl | (simp only [inK]; omega) | exact decide_eq_true (by omega) | exact decide_eq_false (by omega) | (simp; done) | (simp; omega) | (simp [Value.oneCell']; done) | exact i64s_one _ | exact AggOk.mk (by kernel_rfl) (by kernel_rfl)) ?_
      refine At.keep [] [] (by simp only [forceL_eq]; exact Prod.ext rfl (selL_none _)) ?_
      exact At.retK [] [] [] rfl rfl Tryz.func4 rfl trivial ⟨by simp [tupV], rfl, rfl⟩
    · refine At.run 100 true [false, false, true] [hB 0, hB 1, hB 0, hC (.bool true)] rfl (by (repeat' apply And.intro) <;> first | exact hS | simp [Value.oneCell', bkV]; done | simp [he]; done | exact True.intro | omega | rfl | (simp only [inK]; omega) | exact decide_eq_true (by omega) | exact decide_eq_false (by omega) | (simp; done) | (simp; omega) | (simp [Value.oneCell']; done) | exact i64s_one _ | exact AggOk.mk (by kernel_rfl) (by kernel_rfl)) ?_
      refine At.keep [] [] (by simp only [forceL_eq]; exact Prod.ext rfl (selL_none _)) ?_
      exact At.retK [] [] [] rfl rfl Tryz.func4 rfl trivial ⟨rfl, rfl, rfl⟩

end Go.Proofs

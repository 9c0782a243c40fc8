/-
  Walks of layer 13: the reference gets a book.
-/
import Derived.Test.YtfpoclhenokhhaaGreatM9
import Derived.Test.YtfpoclhenokhhaaGreatM15
/-
  Walks of layer 13: the reference gets a book.
-/
namespace Go.Proofs
open Go Go.Eng
set_option maxRecDepth 100000
set_option maxHeartbeats 4000000
attribute [local irreducible] Tri



theorem selL_none {α : Type} (l : List α) : selL [] l = [] := by cases l <;> rfl

theorem Tryz.rg13_H {Q : Value → Bx → List Seg → Prop} (w : World) (b2 b5 b6 n : Nat) {x0 x1 x2 x3 y0 y1 y2 z0 z1 z2 z3 z4 z5 v0 v1 : List Int} {G0 G1 G2 G3 G4 G5 G6 G7 G8 G9 G10 G11 G12 G13 G14 : Option Nat} {c : Nat → Nat}  (m : x0.length ≤ 1024) (l1 : x1.length = x0.length) (l2 : x2.length = x0.length) (l3 : x3.length = x0.length)
    (hk : ∀ (h0 : Option Nat) (d0 : Nat), At (triCtx Tryz.prog 13 Tryz.f13 w [] Q) ⟨0, [0, 1, 0, 1, 1, 1, 1, 1, 1, 1, 1, 1, 1], []⟩ [] [(2, .pointer (some ⟨b2, 0, none⟩)), (5, .pointer (some ⟨b5, 0, none⟩)), (6, .pointer (some ⟨b6, 0, none⟩)), (15, .int .i64 0)] [(b6, 78, [sv G0 x0.length (c 0), sv G1 x1.length (c 1), sv G2 x2.length (c 2), sv G3 x3.length (c 3), sv G4 y0.length (c 4), sv G5 y1.length (c 5), sv G6 y2.length (c 6), sv G7 z0.length (c 7), sv G8 z1.length (c 8), sv G9 z2.length (c 9), sv G10 z3.length (c 10), sv G11 z4.length (c 11), sv G12 z5.length (c 12), sv G13 v0.length (c 13), sv G14 v1.length (c 14)]), (b5, 27, [sv h0 x0.length d0, sv none 0 0, sv none 0 0, sv none 0 0, .int .i64 n]), (b2, 27, [sv none 0 0, sv none 0 0, sv none 0 0, sv none 0 0, .int .i64 0])] [Seg.row none 61 2 0 0 [], Seg.row none 56 6 0 0 [], Seg.row none 51 3 0 0 ((rowsT 3 0 [y0, y1, y2]).flatMap i64s), Seg.row h0 46 4 x0.length d0 ((rowsT 4 x0.length [x0, x1, x2, x3]).flatMap i64s), Seg.row G14 2 1 v1.length (c 14) (i64s v1), Seg.row G13 2 1 v0.length (c 13) (i64s v0), Seg.row G12 2 1 z5.length (c 12) (i64s z5), Seg.row G11 2 1 z4.length (c 11) (i64s z4), Seg.row G10 2 1 z3.length (c 10) (i64s z3), Seg.row G9 2 1 z2.length (c 9) (i64s z2), Seg.row G8 2 1 z1.length (c 8) (i64s z1), Seg.row G7 2 1 z0.length (c 7) (i64s z0), Seg.row G6 2 1 y2.length (c 6) (i64s y2), Seg.row G5 2 1 y1.length (c 5) (i64s y1), Seg.row G4 2 1 y0.length (c 4) (i64s y0), Seg.row G3 2 1 x3.length (c 3) (i64s x3), Seg.row G2 2 1 x2.length (c 2) (i64s x2), Seg.row G1 2 1 x1.length (c 1) (i64s x1), Seg.row G0 2 1 x0.length (c 0) (i64s x0)] ⟨w, kys [] []⟩) :
    At (triCtx Tryz.prog 13 Tryz.f13 w [] Q) ⟨0, [0, 1, 0, 1, 1, 1, 1, 1, 1, 1, 1, 1], []⟩ [] [(2, .pointer (some ⟨b2, 0, none⟩)), (5, .pointer (some ⟨b5, 0, none⟩)), (6, .pointer (some ⟨b6, 0, none⟩)), (14, .int .i64 0)] [(b6, 78, [sv G0 x0.length (c 0), sv G1 x1.length (c 1), sv G2 x2.length (c 2), sv G3 x3.length (c 3), sv G4 y0.length (c 4), sv G5 y1.length (c 5), sv G6 y2.length (c 6), sv G7 z0.length (c 7), sv G8 z1.length (c 8), sv G9 z2.length (c 9), sv G10 z3.length (c 10), sv G11 z4.length (c 11), sv G12 z5.length (c 12), sv G13 v0.length (c 13), sv G14 v1.length (c 14)]), (b5, 27, [sv none 0 0, sv none 0 0, sv none 0 0, sv none 0 0, .int .i64 n]), (b2, 27, [sv none 0 0, sv none 0 0, sv none 0 0, sv none 0 0, .int .i64 0])] [Seg.row none 61 2 0 0 [], Seg.row none 56 6 0 0 [], Seg.row none 51 3 0 0 [], Seg.row none 46 4 0 0 ((rowsT 4 0 [x0, x1, x2, x3]).flatMap i64s), Seg.row G14 2 1 v1.length (c 14) (i64s v1), Seg.row G13 2 1 v0.length (c 13) (i64s v0), Seg.row G12 2 1 z5.length (c 12) (i64s z5), Seg.row G11 2 1 z4.length (c 11) (i64s z4), Seg.row G10 2 1 z3.length (c 10) (i64s z3), Seg.row G9 2 1 z2.length (c 9) (i64s z2), Seg.row G8 2 1 z1.length (c 8) (i64s z1), Seg.row G7 2 1 z0.length (c 7) (i64s z0), Seg.row G6 2 1 y2.length (c 6) (i64s y2), Seg.row G5 2 1 y1.length (c 5) (i64s y1), Seg.row G4 2 1 y0.length (c 4) (i64s y0), Seg.row G3 2 1 x3.length (c 3) (i64s x3), Seg.row G2 2 1 x2.length (c 2) (i64s x2), Seg.row G1 2 1 x1.length (c 1) (i64s x1), Seg.row G0 2 1 x0.length (c 0) (i64s x0)] ⟨w, kys [] []⟩ := by
  refine At.loop (n := x0.length) (env0 := [(2, .pointer (some ⟨b2, 0, none⟩)), (5, .pointer (some ⟨b5, 0, none⟩)), (6, .pointer (some ⟨b6, 0, none⟩)), (14, .int .i64 0)]) (fun mm env bx hp => ∃ (i : Nat) (gq : Option Nat) (cq : Nat), mm = x0.length - i ∧ i ≤ x0.length ∧ env = [(2, .pointer (some ⟨b2, 0, none⟩)), (5, .pointer (some ⟨b5, 0, none⟩)), (6, .pointer (some ⟨b6, 0, none⟩)), (14, .int .i64 i)] ∧
    bx = [(b6, 78, [sv G0 x0.length (c 0), sv G1 x1.length (c 1), sv G2 x2.length (c 2), sv G3 x3.length (c 3), sv G4 y0.length (c 4), sv G5 y1.length (c 5), sv G6 y2.length (c 6), sv G7 z0.length (c 7), sv G8 z1.length (c 8), sv G9 z2.length (c 9), sv G10 z3.length (c 10), sv G11 z4.length (c 11), sv G12 z5.length (c 12), sv G13 v0.length (c 13), sv G14 v1.length (c 14)]), (b5, 27, [sv gq i cq, sv none 0 0, sv none 0 0, sv none 0 0, .int .i64 n]), (b2, 27, [sv none 0 0, sv none 0 0, sv none 0 0, sv none 0 0, .int .i64 0])] ∧ hp = [Seg.row none 61 2 0 0 [], Seg.row none 56 6 0 0 [], Seg.row none 51 3 0 0 [], Seg.row gq 46 4 i cq ((rowsT 4 i [x0, x1, x2, x3]).flatMap i64s), Seg.row G14 2 1 v1.length (c 14) (i64s v1), Seg.row G13 2 1 v0.length (c 13) (i64s v0), Seg.row G12 2 1 z5.length (c 12) (i64s z5), Seg.row G11 2 1 z4.length (c 11) (i64s z4), Seg.row G10 2 1 z3.length (c 10) (i64s z3), Seg.row G9 2 1 z2.length (c 9) (i64s z2), Seg.row G8 2 1 z1.length (c 8) (i64s z1), Seg.row G7 2 1 z0.length (c 7) (i64s z0), Seg.row G6 2 1 y2.length (c 6) (i64s y2), Seg.row G5 2 1 y1.length (c 5) (i64s y1), Seg.row G4 2 1 y0.length (c 4) (i64s y0), Seg.row G3 2 1 x3.length (c 3) (i64s x3), Seg.row G2 2 1 x2.length (c 2) (i64s x2), Seg.row G1 2 1 x1.length (c 1) (i64s x1), Seg.row G0 2 1 x0.length (c 0) (i64s x0)]) rfl ⟨0, none, 0, rfl, by omega, rfl, rfl, rfl⟩ ⟨rfl, rfl, rfl, rfl, trivial⟩ ?_
  rintro mm env bx hp ⟨i, h0, d0, rfl, hi0, rfl, rfl, rfl⟩ ih
  by_cases hlt : i < x0.length
  · have hle : i < 1024 := by omega
    obtain ⟨q0, e0⟩ : ∃ q, x0[i]? = some q := ⟨_, List.getElem?_eq_getElem (by omega)⟩
    obtain ⟨q1, e1⟩ : ∃ q, x1[i]? = some q := ⟨_, List.getElem?_eq_getElem (by omega)⟩
    obtain ⟨q2, e2⟩ : ∃ q, x2[i]? = some q := ⟨_, List.getElem?_eq_getElem (by omega)⟩
    obtain ⟨q3, e3⟩ : ∃ q, x3[i]? = some q := ⟨_, List.getElem?_eq_getElem (by omega)⟩
    refine At.rowSome 18 rfl (by omega) (fun gg0 hg0 => ?_)
    subst hg0
    refine At.rowSome 17 rfl (by omega) (fun gg1 hg1 => ?_)
    subst hg1
    refine At.rowSome 16 rfl (by omega) (fun gg2 hg2 => ?_)
    subst hg2
    refine At.rowSome 15 rfl (by omega) (fun gg3 hg3 => ?_)
    subst hg3
    have r0 : ∀ {bx : Bx} {sa sb sc sd : Seg}, RdW ⟨w, kys [] []⟩ bx [sa, sb, sc, sd, Seg.row G14 2 1 v1.length (c 14) (i64s v1), Seg.row G13 2 1 v0.length (c 13) (i64s v0), Seg.row G12 2 1 z5.length (c 12) (i64s z5), Seg.row G11 2 1 z4.length (c 11) (i64s z4), Seg.row G10 2 1 z3.length (c 10) (i64s z3), Seg.row G9 2 1 z2.length (c 9) (i64s z2), Seg.row G8 2 1 z1.length (c 8) (i64s z1), Seg.row G7 2 1 z0.length (c 7) (i64s z0), Seg.row G6 2 1 y2.length (c 6) (i64s y2), Seg.row G5 2 1 y1.length (c 5) (i64s y1), Seg.row G4 2 1 y0.length (c 4) (i64s y0), Seg.row (some gg3) 2 1 x3.length (c 3) (i64s x3), Seg.row (some gg2) 2 1 x2.length (c 2) (i64s x2), Seg.row (some gg1) 2 1 x1.length (c 1) (i64s x1), Seg.row (some gg0) 2 1 x0.length (c 0) (i64s x0)] gg0 (0 + (i : Int).toNat * 1) [.int .i64 q0] := fun {bx sa sb sc sd} => RdW.row (j := 18) rfl (fun i' u hu => by
      match i', hu with
      | 0, hu => simp at hu; subst hu; rw [show 0 + (i : Int).toNat * 1 + 0 = i by omega]; exact i64s_get e0)
    have r1 : ∀ {bx : Bx} {sa sb sc sd : Seg}, RdW ⟨w, kys [] []⟩ bx [sa, sb, sc, sd, Seg.row G14 2 1 v1.length (c 14) (i64s v1), Seg.row G13 2 1 v0.length (c 13) (i64s v0), Seg.row G12 2 1 z5.length (c 12) (i64s z5), Seg.row G11 2 1 z4.length (c 11) (i64s z4), Seg.row G10 2 1 z3.length (c 10) (i64s z3), Seg.row G9 2 1 z2.length (c 9) (i64s z2), Seg.row G8 2 1 z1.length (c 8) (i64s z1), Seg.row G7 2 1 z0.length (c 7) (i64s z0), Seg.row G6 2 1 y2.length (c 6) (i64s y2), Seg.row G5 2 1 y1.length (c 5) (i64s y1), Seg.row G4 2 1 y0.length (c 4) (i64s y0), Seg.row (some gg3) 2 1 x3.length (c 3) (i64s x3), Seg.row (some gg2) 2 1 x2.length (c 2) (i64s x2), Seg.row (some gg1) 2 1 x1.length (c 1) (i64s x1), Seg.row (some gg0) 2 1 x0.length (c 0) (i64s x0)] gg1 (0 + (i : Int).toNat * 1) [.int .i64 q1] := fun {bx sa sb sc sd} => RdW.row (j := 17) rfl (fun i' u hu => by
      match i', hu with
      | 0, hu => simp at hu; subst hu; rw [show 0 + (i : Int).toNat * 1 + 0 = i by omega]; exact i64s_get e1)
    have r2 : ∀ {bx : Bx} {sa sb sc sd : Seg}, RdW ⟨w, kys [] []⟩ bx [sa, sb, sc, sd, Seg.row G14 2 1 v1.length (c 14) (i64s v1), Seg.row G13 2 1 v0.length (c 13) (i64s v0), Seg.row G12 2 1 z5.length (c 12) (i64s z5), Seg.row G11 2 1 z4.length (c 11) (i64s z4), Seg.row G10 2 1 z3.length (c 10) (i64s z3), Seg.row G9 2 1 z2.length (c 9) (i64s z2), Seg.row G8 2 1 z1.length (c 8) (i64s z1), Seg.row G7 2 1 z0.length (c 7) (i64s z0), Seg.row G6 2 1 y2.length (c 6) (i64s y2), Seg.row G5 2 1 y1.length (c 5) (i64s y1), Seg.row G4 2 1 y0.length (c 4) (i64s y0), Seg.row (some gg3) 2 1 x3.length (c 3) (i64s x3), Seg.row (some gg2) 2 1 x2.length (c 2) (i64s x2), Seg.row (some gg1) 2 1 x1.length (c 1) (i64s x1), Seg.row (some gg0) 2 1 x0.length (c 0) (i64s x0)] gg2 (0 + (i : Int).toNat * 1) [.int .i64 q2] := fun {bx sa sb sc sd} => RdW.row (j := 16) rfl (fun i' u hu => by
      match i', hu with
      | 0, hu => simp at hu; subst hu; rw [show 0 + (i : Int).toNat * 1 + 0 = i by omega]; exact i64s_get e2)
    have r3 : ∀ {bx : Bx} {sa sb sc sd : Seg}, RdW ⟨w, kys [] []⟩ bx [sa, sb, sc, sd, Seg.row G14 2 1 v1.length (c 14) (i64s v1), Seg.row G13 2 1 v0.length (c 13) (i64s v0), Seg.row G12 2 1 z5.length (c 12) (i64s z5), Seg.row G11 2 1 z4.length (c 11) (i64s z4), Seg.row G10 2 1 z3.length (c 10) (i64s z3), Seg.row G9 2 1 z2.length (c 9) (i64s z2), Seg.row G8 2 1 z1.length (c 8) (i64s z1), Seg.row G7 2 1 z0.length (c 7) (i64s z0), Seg.row G6 2 1 y2.length (c 6) (i64s y2), Seg.row G5 2 1 y1.length (c 5) (i64s y1), Seg.row G4 2 1 y0.length (c 4) (i64s y0), Seg.row (some gg3) 2 1 x3.length (c 3) (i64s x3), Seg.row (some gg2) 2 1 x2.length (c 2) (i64s x2), Seg.row (some gg1) 2 1 x1.length (c 1) (i64s x1), Seg.row (some gg0) 2 1 x0.length (c 0) (i64s x0)] gg3 (0 + (i : Int).toNat * 1) [.int .i64 q3] := fun {bx sa sb sc sd} => RdW.row (j := 15) rfl (fun i' u hu => by
      match i', hu with
      | 0, hu => simp at hu; subst hu; rw [show 0 + (i : Int).toNat * 1 + 0 = i by omega]; exact i64s_get e3)
    have hrow : i64s [q0, q1, q2, q3] = i64s (Eng.rowAt 4 [x0, x1, x2, x3] i) := by simp [Eng.rowAt, nthI, List.range_succ, e0, e1, e2, e3]
    refine At.run 100 true [true] [hB 0] rfl (by (repeat' apply And.intro) <;> first | exact True.intro | omega | (simp only [inK]; omega) | (simp; done) | (simp; omega) | exact decide_eq_true (by omega) | exact decide_eq_false (by omega) | rfl | (simp [Value.oneCell']; done) | exact i64s_one _ | exact AggOk.mk (by kernel_rfl) (by kernel_rfl)) ?_
    refine At.draw 27 rfl rfl rfl rfl ?_
    refine AtD.pures (ob := True) true (by kernel_rfl) [0] (fuel := 26) (by kernel_rfl) rfl (by (repeat' apply And.intro) <;> first | exact True.intro | omega | (simp only [inK]; omega) | (simp; done) | (simp; omega) | exact decide_eq_true (by omega) | exact decide_eq_false (by omega) | rfl | (simp [Value.oneCell']; done) | exact i64s_one _ | exact AggOk.mk (by kernel_rfl) (by kernel_rfl)) ?_
    refine AtD.late 2 21 1 23 3 true [] [hB 0, hR [.int .i64 q0], hB 0, hR [.int .i64 q1], hB 0, hR [.int .i64 q2], hB 0, hR [.int .i64 q3]] [hB 1] ⟨by kernel_rfl, by kernel_rfl, by kernel_rfl, rfl, by kernel_rfl, by kernel_rfl, rfl, rfl, by kernel_rfl⟩ rfl rfl rfl (by (repeat' apply And.intro) <;> first | exact r0 | exact r1 | exact r2 | exact r3 | exact True.intro | omega | rfl | (simp only [inK]; omega) | exact decide_eq_true (by omega) | exact decide_eq_false (by omega) | (simp; done) | (simp; omega) | (simp [Value.oneCell']; done) | exact i64s_one _ | exact AggOk.mk (by kernel_rfl) (by kernel_rfl)) rfl rfl (by (repeat' apply And.intro) <;> first | exact True.intro | omega | (simp only [inK]; omega) | (simp; done) | (simp; omega) | exact decide_eq_true (by omega) | exact decide_eq_false (by omega) | rfl | (simp [Value.oneCell']; done) | exact i64s_one _ | exact AggOk.mk (by kernel_rfl) (by kernel_rfl)) ?_ ?_
    · refine AtD.fork1 23 (by kernel_rfl) (StepD.by [] rfl rfl rfl rfl trivial (OpOk.buildSlice rfl rfl rfl rfl rfl rfl rfl (fun bb hbb => ?_)))
      refine AtD.fork1 24 (by kernel_rfl) (StepD.by [] rfl rfl rfl rfl trivial (OpOk.append 3 4 32 (i64s [q0, q1, q2, q3]) rfl rfl rfl rfl rfl rfl rfl (RdW.blk0 (i := 0) rfl) rfl (i64s_one _) (by omega) (by omega) fun gq' cq' => ?_))
      refine AtD.pures (ob := True) true (by kernel_rfl) [25] (fuel := 1) (by kernel_rfl) rfl (by (repeat' apply And.intro) <;> first | exact True.intro | omega | (simp only [inK]; omega) | (simp; done) | (simp; omega) | exact decide_eq_true (by omega) | exact decide_eq_false (by omega) | rfl | (simp [Value.oneCell']; done) | exact i64s_one _ | exact AggOk.mk (by kernel_rfl) (by kernel_rfl)) ?_
      refine AtD.fork1 26 (by kernel_rfl) (StepD.by0 [] rfl rfl rfl trivial (OpOk.one true [] [hB 2] rfl (by (repeat' apply And.intro) <;> first | simp [Value.oneCell', sv]; done | exact True.intro | omega | rfl | (simp only [inK]; omega) | exact decide_eq_true (by omega) | exact decide_eq_false (by omega) | (simp; done) | (simp; omega) | (simp [Value.oneCell']; done) | exact i64s_one _ | exact AggOk.mk (by kernel_rfl) (by kernel_rfl)) ?_))
      refine AtD.done (by kernel_rfl) ?_
      refine At.keep [false, true, true, true] [true, true, true, true, true, true, true, true, true, true, true, true, true, true, true, true, true, true, true] rfl ?_
      refine At.run 100 true [] [] rfl (by (repeat' apply And.intro) <;> first | exact True.intro | omega | (simp only [inK]; omega) | (simp; done) | (simp; omega) | exact decide_eq_true (by omega) | exact decide_eq_false (by omega) | rfl | (simp [Value.oneCell']; done) | exact i64s_one _ | exact AggOk.mk (by kernel_rfl) (by kernel_rfl)) ?_
      refine At.weak (ih (x0.length - (i + 1)) _ _ _ (by omega) ⟨i + 1, gq', cq', rfl, by omega, rfl, rfl, ?_⟩) ⟨rfl, rfl, rfl, some_int_eq (by omega), trivial⟩
      simp only [rowsT_snoc, List.flatMap_append, List.flatMap_cons, List.flatMap_nil, List.append_nil, ← hrow]
    · refine StepD.by [] rfl rfl rfl rfl trivial (OpOk.buildSlice rfl rfl rfl rfl rfl rfl rfl (fun bb hbb => ?_))
      refine AtD.fork1 1 (by kernel_rfl) (StepD.by [] rfl rfl rfl rfl trivial (OpOk.one true [] [hB 2] rfl (by (repeat' apply And.intro) <;> first | exact True.intro | omega | (simp only [inK]; omega) | (simp; done) | (simp; omega) | exact decide_eq_true (by omega) | exact decide_eq_false (by omega) | rfl | (simp [Value.oneCell']; done) | exact i64s_one _ | exact AggOk.mk (by kernel_rfl) (by kernel_rfl)) ?_))
      refine AtD.fork1 24 (by kernel_rfl) (StepD.by [] rfl rfl rfl rfl trivial (OpOk.append 3 4 32 (i64s [q0, q1, q2, q3]) rfl rfl rfl rfl rfl rfl rfl (RdW.blk0 (i := 0) rfl) rfl (i64s_one _) (by omega) (by omega) fun gq' cq' => ?_))
      refine AtD.pures (ob := True) true (by kernel_rfl) [25] (fuel := 1) (by kernel_rfl) rfl (by (repeat' apply And.intro) <;> first | exact True.intro | omega | (simp only [inK]; omega) | (simp; done) | (simp; omega) | exact decide_eq_true (by omega) | exact decide_eq_false (by omega) | rfl | (simp [Value.oneCell']; done) | exact i64s_one _ | exact AggOk.mk (by kernel_rfl) (by kernel_rfl)) ?_
      refine AtD.fork1 26 (by kernel_rfl) (StepD.by0 [] rfl rfl rfl trivial (OpOk.one true [] [hB 2] rfl (by (repeat' apply And.intro) <;> first | simp [Value.oneCell', sv]; done | exact True.intro | omega | rfl | (simp only [inK]; omega) | exact decide_eq_true (by omega) | exact decide_eq_false (by omega) | (simp; done) | (simp; omega) | (simp [Value.oneCell']; done) | exact i64s_one _ | exact AggOk.mk (by kernel_rfl) (by kernel_rfl)) ?_))
      refine AtD.done (by kernel_rfl) ?_
      refine At.keep [false, true, true, true] [true, true, true, true, true, true, true, true, true, true, true, true, true, true, true, true, true, true, true] rfl ?_
      refine At.run 100 true [] [] rfl (by (repeat' apply And.intro) <;> first | exact True.intro | omega | (simp only [inK]; omega) | (simp; done) | (simp; omega) | exact decide_eq_true (by omega) | exact decide_eq_false (by omega) | rfl | (simp [Value.oneCell']; done) | exact i64s_one _ | exact AggOk.mk (by kernel_rfl) (by kernel_rfl)) ?_
      refine At.weak (ih (x0.length - (i + 1)) _ _ _ (by omega) ⟨i + 1, gq', cq', rfl, by omega, rfl, rfl, ?_⟩) ⟨rfl, rfl, rfl, some_int_eq (by omega), trivial⟩
      simp only [rowsT_snoc, List.flatMap_append, List.flatMap_cons, List.flatMap_nil, List.append_nil, ← hrow]
  · have : i = x0.length := by omega
    subst this
    refine At.run 100 true [false] [hB 0] rfl (by (repeat' apply And.intro) <;> first | exact True.intro | omega | (simp only [inK]; omega) | (simp; done) | (simp; omega) | exact decide_eq_true (by omega) | exact decide_eq_false (by omega) | rfl | (simp [Value.oneCell']; done) | exact i64s_one _ | exact AggOk.mk (by kernel_rfl) (by kernel_rfl)) ?_
    exact At.weak (hk h0 d0) ⟨rfl, rfl, rfl, rfl, trivial⟩

theorem Tryz.rg13_S {Q : Value → Bx → List Seg → Prop} (w : World) (b2 b5 b6 n : Nat) {x0 x1 x2 x3 y0 y1 y2 z0 z1 z2 z3 z4 z5 v0 v1 : List Int} {G0 G1 G2 G3 G4 G5 G6 G7 G8 G9 G10 G11 G12 G13 G14 : Option Nat} {c : Nat → Nat} (h0 : Option Nat) (d0 : Nat) (m : y0.length ≤ 1024) (l5 : y1.length = y0.length) (l6 : y2.length = y0.length)
    (hk : ∀ (h1 : Option Nat) (d1 : Nat), At (triCtx Tryz.prog 13 Tryz.f13 w [] Q) ⟨0, [0, 1, 0, 1, 1, 1, 1, 1, 1, 1, 1, 1, 1, 1], []⟩ [] [(2, .pointer (some ⟨b2, 0, none⟩)), (5, .pointer (some ⟨b5, 0, none⟩)), (6, .pointer (some ⟨b6, 0, none⟩)), (16, .int .i64 0)] [(b6, 78, [sv G0 x0.length (c 0), sv G1 x1.length (c 1), sv G2 x2.length (c 2), sv G3 x3.length (c 3), sv G4 y0.length (c 4), sv G5 y1.length (c 5), sv G6 y2.length (c 6), sv G7 z0.length (c 7), sv G8 z1.length (c 8), sv G9 z2.length (c 9), sv G10 z3.length (c 10), sv G11 z4.length (c 11), sv G12 z5.length (c 12), sv G13 v0.length (c 13), sv G14 v1.length (c 14)]), (b5, 27, [sv h0 x0.length d0, sv h1 y0.length d1, sv none 0 0, sv none 0 0, .int .i64 n]), (b2, 27, [sv none 0 0, sv none 0 0, sv none 0 0, sv none 0 0, .int .i64 0])] [Seg.row none 61 2 0 0 [], Seg.row none 56 6 0 0 ((rowsT 6 0 [z0, z1, z2, z3, z4, z5]).flatMap i64s), Seg.row h1 51 3 y0.length d1 ((rowsT 3 y0.length [y0, y1, y2]).flatMap i64s), Seg.row h0 46 4 x0.length d0 ((rowsT 4 x0.length [x0, x1, x2, x3]).flatMap i64s), Seg.row G14 2 1 v1.length (c 14) (i64s v1), Seg.row G13 2 1 v0.length (c 13) (i64s v0), Seg.row G12 2 1 z5.length (c 12) (i64s z5), Seg.row G11 2 1 z4.length (c 11) (i64s z4), Seg.row G10 2 1 z3.length (c 10) (i64s z3), Seg.row G9 2 1 z2.length (c 9) (i64s z2), Seg.row G8 2 1 z1.length (c 8) (i64s z1), Seg.row G7 2 1 z0.length (c 7) (i64s z0), Seg.row G6 2 1 y2.length (c 6) (i64s y2), Seg.row G5 2 1 y1.length (c 5) (i64s y1), Seg.row G4 2 1 y0.length (c 4) (i64s y0), Seg.row G3 2 1 x3.length (c 3) (i64s x3), Seg.row G2 2 1 x2.length (c 2) (i64s x2), Seg.row G1 2 1 x1.length (c 1) (i64s x1), Seg.row G0 2 1 x0.length (c 0) (i64s x0)] ⟨w, kys [] []⟩) :
    At (triCtx Tryz.prog 13 Tryz.f13 w [] Q) ⟨0, [0, 1, 0, 1, 1, 1, 1, 1, 1, 1, 1, 1, 1], []⟩ [] [(2, .pointer (some ⟨b2, 0, none⟩)), (5, .pointer (some ⟨b5, 0, none⟩)), (6, .pointer (some ⟨b6, 0, none⟩)), (15, .int .i64 0)] [(b6, 78, [sv G0 x0.length (c 0), sv G1 x1.length (c 1), sv G2 x2.length (c 2), sv G3 x3.length (c 3), sv G4 y0.length (c 4), sv G5 y1.length (c 5), sv G6 y2.length (c 6), sv G7 z0.length (c 7), sv G8 z1.length (c 8), sv G9 z2.length (c 9), sv G10 z3.length (c 10), sv G11 z4.length (c 11), sv G12 z5.length (c 12), sv G13 v0.length (c 13), sv G14 v1.length (c 14)]), (b5, 27, [sv h0 x0.length d0, sv none 0 0, sv none 0 0, sv none 0 0, .int .i64 n]), (b2, 27, [sv none 0 0, sv none 0 0, sv none 0 0, sv none 0 0, .int .i64 0])] [Seg.row none 61 2 0 0 [], Seg.row none 56 6 0 0 [], Seg.row none 51 3 0 0 ((rowsT 3 0 [y0, y1, y2]).flatMap i64s), Seg.row h0 46 4 x0.length d0 ((rowsT 4 x0.length [x0, x1, x2, x3]).flatMap i64s), Seg.row G14 2 1 v1.length (c 14) (i64s v1), Seg.row G13 2 1 v0.length (c 13) (i64s v0), Seg.row G12 2 1 z5.length (c 12) (i64s z5), Seg.row G11 2 1 z4.length (c 11) (i64s z4), Seg.row G10 2 1 z3.length (c 10) (i64s z3), Seg.row G9 2 1 z2.length (c 9) (i64s z2), Seg.row G8 2 1 z1.length (c 8) (i64s z1), Seg.row G7 2 1 z0.length (c 7) (i64s z0), Seg.row G6 2 1 y2.length (c 6) (i64s y2), Seg.row G5 2 1 y1.length (c 5) (i64s y1), Seg.row G4 2 1 y0.length (c 4) (i64s y0), Seg.row G3 2 1 x3.length (c 3) (i64s x3), Seg.row G2 2 1 x2.length (c 2) (i64s x2), Seg.row G1 2 1 x1.length (c 1) (i64s x1), Seg.row G0 2 1 x0.length (c 0) (i64s x0)] ⟨w, kys [] []⟩ := by
  refine At.loop (n := y0.length) (env0 := [(2, .pointer (some ⟨b2, 0, none⟩)), (5, .pointer (some ⟨b5, 0, none⟩)), (6, .pointer (some ⟨b6, 0, none⟩)), (15, .int .i64 0)]) (fun mm env bx hp => ∃ (i : Nat) (gq : Option Nat) (cq : Nat), mm = y0.length - i ∧ i ≤ y0.length ∧ env = [(2, .pointer (some ⟨b2, 0, none⟩)), (5, .pointer (some ⟨b5, 0, none⟩)), (6, .pointer (some ⟨b6, 0, none⟩)), (15, .int .i64 i)] ∧
    bx = [(b6, 78, [sv G0 x0.length (c 0), sv G1 x1.length (c 1), sv G2 x2.length (c 2), sv G3 x3.length (c 3), sv G4 y0.length (c 4), sv G5 y1.length (c 5), sv G6 y2.length (c 6), sv G7 z0.length (c 7), sv G8 z1.length (c 8), sv G9 z2.length (c 9), sv G10 z3.length (c 10), sv G11 z4.length (c 11), sv G12 z5.length (c 12), sv G13 v0.length (c 13), sv G14 v1.length (c 14)]), (b5, 27, [sv h0 x0.length d0, sv gq i cq, sv none 0 0, sv none 0 0, .int .i64 n]), (b2, 27, [sv none 0 0, sv none 0 0, sv none 0 0, sv none 0 0, .int .i64 0])] ∧ hp = [Seg.row none 61 2 0 0 [], Seg.row none 56 6 0 0 [], Seg.row gq 51 3 i cq ((rowsT 3 i [y0, y1, y2]).flatMap i64s), Seg.row h0 46 4 x0.length d0 ((rowsT 4 x0.length [x0, x1, x2, x3]).flatMap i64s), Seg.row G14 2 1 v1.length (c 14) (i64s v1), Seg.row G13 2 1 v0.length (c 13) (i64s v0), Seg.row G12 2 1 z5.length (c 12) (i64s z5), Seg.row G11 2 1 z4.length (c 11) (i64s z4), Seg.row G10 2 1 z3.length (c 10) (i64s z3), Seg.row G9 2 1 z2.length (c 9) (i64s z2), Seg.row G8 2 1 z1.length (c 8) (i64s z1), Seg.row G7 2 1 z0.length (c 7) (i64s z0), Seg.row G6 2 1 y2.length (c 6) (i64s y2), Seg.row G5 2 1 y1.length (c 5) (i64s y1), Seg.row G4 2 1 y0.length (c 4) (i64s y0), Seg.row G3 2 1 x3.length (c 3) (i64s x3), Seg.row G2 2 1 x2.length (c 2) (i64s x2), Seg.row G1 2 1 x1.length (c 1) (i64s x1), Seg.row G0 2 1 x0.length (c 0) (i64s x0)]) rfl ⟨0, none, 0, rfl, by omega, rfl, rfl, rfl⟩ ⟨rfl, rfl, rfl, rfl, trivial⟩ ?_
  rintro mm env bx hp ⟨i, h1, d1, rfl, hi1, rfl, rfl, rfl⟩ ih
  by_cases hlt : i < y0.length
  · have hle : i < 1024 := by omega
    obtain ⟨q0, e0⟩ : ∃ q, y0[i]? = some q := ⟨_, List.getElem?_eq_getElem (by omega)⟩
    obtain ⟨q1, e1⟩ : ∃ q, y1[i]? = some q := ⟨_, List.getElem?_eq_getElem (by omega)⟩
    obtain ⟨q2, e2⟩ : ∃ q, y2[i]? = some q := ⟨_, List.getElem?_eq_getElem (by omega)⟩
    refine At.rowSome 14 rfl (by omega) (fun gg0 hg0 => ?_)
    subst hg0
    refine At.rowSome 13 rfl (by omega) (fun gg1 hg1 => ?_)
    subst hg1
    refine At.rowSome 12 rfl (by omega) (fun gg2 hg2 => ?_)
    subst hg2
    have r0 : ∀ {bx : Bx} {sa sb sc sd : Seg}, RdW ⟨w, kys [] []⟩ bx [sa, sb, sc, sd, Seg.row G14 2 1 v1.length (c 14) (i64s v1), Seg.row G13 2 1 v0.length (c 13) (i64s v0), Seg.row G12 2 1 z5.length (c 12) (i64s z5), Seg.row G11 2 1 z4.length (c 11) (i64s z4), Seg.row G10 2 1 z3.length (c 10) (i64s z3), Seg.row G9 2 1 z2.length (c 9) (i64s z2), Seg.row G8 2 1 z1.length (c 8) (i64s z1), Seg.row G7 2 1 z0.length (c 7) (i64s z0), Seg.row (some gg2) 2 1 y2.length (c 6) (i64s y2), Seg.row (some gg1) 2 1 y1.length (c 5) (i64s y1), Seg.row (some gg0) 2 1 y0.length (c 4) (i64s y0), Seg.row G3 2 1 x3.length (c 3) (i64s x3), Seg.row G2 2 1 x2.length (c 2) (i64s x2), Seg.row G1 2 1 x1.length (c 1) (i64s x1), Seg.row G0 2 1 x0.length (c 0) (i64s x0)] gg0 (0 + (i : Int).toNat * 1) [.int .i64 q0] := fun {bx sa sb sc sd} => RdW.row (j := 14) rfl (fun i' u hu => by
      match i', hu with
      | 0, hu => simp at hu; subst hu; rw [show 0 + (i : Int).toNat * 1 + 0 = i by omega]; exact i64s_get e0)
    have r1 : ∀ {bx : Bx} {sa sb sc sd : Seg}, RdW ⟨w, kys [] []⟩ bx [sa, sb, sc, sd, Seg.row G14 2 1 v1.length (c 14) (i64s v1), Seg.row G13 2 1 v0.length (c 13) (i64s v0), Seg.row G12 2 1 z5.length (c 12) (i64s z5), Seg.row G11 2 1 z4.length (c 11) (i64s z4), Seg.row G10 2 1 z3.length (c 10) (i64s z3), Seg.row G9 2 1 z2.length (c 9) (i64s z2), Seg.row G8 2 1 z1.length (c 8) (i64s z1), Seg.row G7 2 1 z0.length (c 7) (i64s z0), Seg.row (some gg2) 2 1 y2.length (c 6) (i64s y2), Seg.row (some gg1) 2 1 y1.length (c 5) (i64s y1), Seg.row (some gg0) 2 1 y0.length (c 4) (i64s y0), Seg.row G3 2 1 x3.length (c 3) (i64s x3), Seg.row G2 2 1 x2.length (c 2) (i64s x2), Seg.row G1 2 1 x1.length (c 1) (i64s x1), Seg.row G0 2 1 x0.length (c 0) (i64s x0)] gg1 (0 + (i : Int).toNat * 1) [.int .i64 q1] := fun {bx sa sb sc sd} => RdW.row (j := 13) rfl (fun i' u hu => by
      match i', hu with
      | 0, hu => simp at hu; subst hu; rw [show 0 + (i : Int).toNat * 1 + 0 = i by omega]; exact i64s_get e1)
    have r2 : ∀ {bx : Bx} {sa sb sc sd : Seg}, RdW ⟨w, kys [] []⟩ bx [sa, sb, sc, sd, Seg.row G14 2 1 v1.length (c 14) (i64s v1), Seg.row G13 2 1 v0.length (c 13) (i64s v0), Seg.row G12 2 1 z5.length (c 12) (i64s z5), Seg.row G11 2 1 z4.length (c 11) (i64s z4), Seg.row G10 2 1 z3.length (c 10) (i64s z3), Seg.row G9 2 1 z2.length (c 9) (i64s z2), Seg.row G8 2 1 z1.length (c 8) (i64s z1), Seg.row G7 2 1 z0.length (c 7) (i64s z0), Seg.row (some gg2) 2 1 y2.length (c 6) (i64s y2), Seg.row (some gg1) 2 1 y1.length (c 5) (i64s y1), Seg.row (some gg0) 2 1 y0.length (c 4) (i64s y0), Seg.row G3 2 1 x3.length (c 3) (i64s x3), Seg.row G2 2 1 x2.length (c 2) (i64s x2), Seg.row G1 2 1 x1.length (c 1) (i64s x1), Seg.row G0 2 1 x0.length (c 0) (i64s x0)] gg2 (0 + (i : Int).toNat * 1) [.int .i64 q2] := fun {bx sa sb sc sd} => RdW.row (j := 12) rfl (fun i' u hu => by
      match i', hu with
      | 0, hu => simp at hu; subst hu; rw [show 0 + (i : Int).toNat * 1 + 0 = i by omega]; exact i64s_get e2)
    have hrow : i64s [q0, q1, q2] = i64s (Eng.rowAt 3 [y0, y1, y2] i) := by simp [Eng.rowAt, nthI, List.range_succ, e0, e1, e2]
    refine At.run 100 true [true] [hB 0] rfl (by (repeat' apply And.intro) <;> first | exact True.intro | omega | (simp only [inK]; omega) | (simp; done) | (simp; omega) | exact decide_eq_true (by omega) | exact decide_eq_false (by omega) | rfl | (simp [Value.oneCell']; done) | exact i64s_one _ | exact AggOk.mk (by kernel_rfl) (by kernel_rfl)) ?_
    refine At.draw 22 rfl rfl rfl rfl ?_
    refine AtD.pures (ob := True) true (by kernel_rfl) [0] (fuel := 21) (by kernel_rfl) rfl (by (repeat' apply And.intro) <;> first | exact True.intro | omega | (simp only [inK]; omega) | (simp; done) | (simp; omega) | exact decide_eq_true (by omega) | exact decide_eq_false (by omega) | rfl | (simp [Value.oneCell']; done) | exact i64s_one _ | exact AggOk.mk (by kernel_rfl) (by kernel_rfl)) ?_
    refine AtD.late 2 16 1 18 3 true [] [hB 0, hR [.int .i64 q0], hB 0, hR [.int .i64 q1], hB 0, hR [.int .i64 q2]] [hB 1] ⟨by kernel_rfl, by kernel_rfl, by kernel_rfl, rfl, by kernel_rfl, by kernel_rfl, rfl, rfl, by kernel_rfl⟩ rfl rfl rfl (by (repeat' apply And.intro) <;> first | exact r0 | exact r1 | exact r2 | exact True.intro | omega | rfl | (simp only [inK]; omega) | exact decide_eq_true (by omega) | exact decide_eq_false (by omega) | (simp; done) | (simp; omega) | (simp [Value.oneCell']; done) | exact i64s_one _ | exact AggOk.mk (by kernel_rfl) (by kernel_rfl)) rfl rfl (by (repeat' apply And.intro) <;> first | exact True.intro | omega | (simp only [inK]; omega) | (simp; done) | (simp; omega) | exact decide_eq_true (by omega) | exact decide_eq_false (by omega) | rfl | (simp [Value.oneCell']; done) | exact i64s_one _ | exact AggOk.mk (by kernel_rfl) (by kernel_rfl)) ?_ ?_
    · refine AtD.fork1 18 (by kernel_rfl) (StepD.by [] rfl rfl rfl rfl trivial (OpOk.buildSlice rfl rfl rfl rfl rfl rfl rfl (fun bb hbb => ?_)))
      refine AtD.fork1 19 (by kernel_rfl) (StepD.by [] rfl rfl rfl rfl trivial (OpOk.append 2 3 24 (i64s [q0, q1, q2]) rfl rfl rfl rfl rfl rfl rfl (RdW.blk0 (i := 0) rfl) rfl (i64s_one _) (by omega) (by omega) fun gq' cq' => ?_))
      refine AtD.pures (ob := True) true (by kernel_rfl) [20] (fuel := 1) (by kernel_rfl) rfl (by (repeat' apply And.intro) <;> first | exact True.intro | omega | (simp only [inK]; omega) | (simp; done) | (simp; omega) | exact decide_eq_true (by omega) | exact decide_eq_false (by omega) | rfl | (simp [Value.oneCell']; done) | exact i64s_one _ | exact AggOk.mk (by kernel_rfl) (by kernel_rfl)) ?_
      refine AtD.fork1 21 (by kernel_rfl) (StepD.by0 [] rfl rfl rfl trivial (OpOk.one true [] [hB 2] rfl (by (repeat' apply And.intro) <;> first | simp [Value.oneCell', sv]; done | exact True.intro | omega | rfl | (simp only [inK]; omega) | exact decide_eq_true (by omega) | exact decide_eq_false (by omega) | (simp; done) | (simp; omega) | (simp [Value.oneCell']; done) | exact i64s_one _ | exact AggOk.mk (by kernel_rfl) (by kernel_rfl)) ?_))
      refine AtD.done (by kernel_rfl) ?_
      refine At.keep [false, true, true, true] [true, true, true, true, true, true, true, true, true, true, true, true, true, true, true, true, true, true, true] rfl ?_
      refine At.run 100 true [] [] rfl (by (repeat' apply And.intro) <;> first | exact True.intro | omega | (simp only [inK]; omega) | (simp; done) | (simp; omega) | exact decide_eq_true (by omega) | exact decide_eq_false (by omega) | rfl | (simp [Value.oneCell']; done) | exact i64s_one _ | exact AggOk.mk (by kernel_rfl) (by kernel_rfl)) ?_
      refine At.weak (ih (y0.length - (i + 1)) _ _ _ (by omega) ⟨i + 1, gq', cq', rfl, by omega, rfl, rfl, ?_⟩) ⟨rfl, rfl, rfl, some_int_eq (by omega), trivial⟩
      simp only [rowsT_snoc, List.flatMap_append, List.flatMap_cons, List.flatMap_nil, List.append_nil, ← hrow]
    · refine StepD.by [] rfl rfl rfl rfl trivial (OpOk.buildSlice rfl rfl rfl rfl rfl rfl rfl (fun bb hbb => ?_))
      refine AtD.fork1 1 (by kernel_rfl) (StepD.by [] rfl rfl rfl rfl trivial (OpOk.one true [] [hB 2] rfl (by (repeat' apply And.intro) <;> first | exact True.intro | omega | (simp only [inK]; omega) | (simp; done) | (simp; omega) | exact decide_eq_true (by omega) | exact decide_eq_false (by omega) | rfl | (simp [Value.oneCell']; done) | exact i64s_one _ | exact AggOk.mk (by kernel_rfl) (by kernel_rfl)) ?_))
      refine AtD.fork1 19 (by kernel_rfl) (StepD.by [] rfl rfl rfl rfl trivial (OpOk.append 2 3 24 (i64s [q0, q1, q2]) rfl rfl rfl rfl rfl rfl rfl (RdW.blk0 (i := 0) rfl) rfl (i64s_one _) (by omega) (by omega) fun gq' cq' => ?_))
      refine AtD.pures (ob := True) true (by kernel_rfl) [20] (fuel := 1) (by kernel_rfl) rfl (by (repeat' apply And.intro) <;> first | exact True.intro | omega | (simp only [inK]; omega) | (simp; done) | (simp; omega) | exact decide_eq_true (by omega) | exact decide_eq_false (by omega) | rfl | (simp [Value.oneCell']; done) | exact i64s_one _ | exact AggOk.mk (by kernel_rfl) (by kernel_rfl)) ?_
      refine AtD.fork1 21 (by kernel_rfl) (StepD.by0 [] rfl rfl rfl trivial (OpOk.one true [] [hB 2] rfl (by (repeat' apply And.intro) <;> first | simp [Value.oneCell', sv]; done | exact True.intro | omega | rfl | (simp only [inK]; omega) | exact decide_eq_true (by omega) | exact decide_eq_false (by omega) | (simp; done) | (simp; omega) | (simp [Value.oneCell']; done) | exact i64s_one _ | exact AggOk.mk (by kernel_rfl) (by kernel_rfl)) ?_))
      refine AtD.done (by kernel_rfl) ?_
      refine At.keep [false, true, true, true] [true, true, true, true, true, true, true, true, true, true, true, true, true, true, true, true, true, true, true] rfl ?_
      refine At.run 100 true [] [] rfl (by (repeat' apply And.intro) <;> first | exact True.intro | omega | (simp only [inK]; omega) | (simp; done) | (simp; omega) | exact decide_eq_true (by omega) | exact decide_eq_false (by omega) | rfl | (simp [Value.oneCell']; done) | exact i64s_one _ | exact AggOk.mk (by kernel_rfl) (by kernel_rfl)) ?_
      refine At.weak (ih (y0.length - (i + 1)) _ _ _ (by omega) ⟨i + 1, gq', cq', rfl, by omega, rfl, rfl, ?_⟩) ⟨rfl, rfl, rfl, some_int_eq (by omega), trivial⟩
      simp only [rowsT_snoc, List.flatMap_append, List.flatMap_cons, List.flatMap_nil, List.append_nil, ← hrow]
  · have : i = y0.length := by omega
    subst this
    refine At.run 100 true [false] [hB 0] rfl (by (repeat' apply And.intro) <;> first | exact True.intro | omega | (simp only [inK]; omega) | (simp; done) | (simp; omega) | exact decide_eq_true (by omega) | exact decide_eq_false (by omega) | rfl | (simp [Value.oneCell']; done) | exact i64s_one _ | exact AggOk.mk (by kernel_rfl) (by kernel_rfl)) ?_
    exact At.weak (hk h1 d1) ⟨rfl, rfl, rfl, rfl, trivial⟩

theorem Tryz.rg13_O {Q : Value → Bx → List Seg → Prop} (w : World) (b2 b5 b6 n : Nat) {x0 x1 x2 x3 y0 y1 y2 z0 z1 z2 z3 z4 z5 v0 v1 : List Int} {G0 G1 G2 G3 G4 G5 G6 G7 G8 G9 G10 G11 G12 G13 G14 : Option Nat} {c : Nat → Nat} (h0 : Option Nat) (d0 : Nat) (h1 : Option Nat) (d1 : Nat) (m : z0.length ≤ 1024) (l8 : z1.length = z0.length) (l9 : z2.length = z0.length) (l10 : z3.length = z0.length) (l11 : z4.length = z0.length) (l12 : z5.length = z0.length)
    (hk : ∀ (h2 : Option Nat) (d2 : Nat), At (triCtx Tryz.prog 13 Tryz.f13 w [] Q) ⟨0, [0, 1, 0, 1, 1, 1, 1, 1, 1, 1, 1, 1, 1, 1, 1], []⟩ [] [(2, .pointer (some ⟨b2, 0, none⟩)), (5, .pointer (some ⟨b5, 0, none⟩)), (6, .pointer (some ⟨b6, 0, none⟩)), (17, .int .i64 0)] [(b6, 78, [sv G0 x0.length (c 0), sv G1 x1.length (c 1), sv G2 x2.length (c 2), sv G3 x3.length (c 3), sv G4 y0.length (c 4), sv G5 y1.length (c 5), sv G6 y2.length (c 6), sv G7 z0.length (c 7), sv G8 z1.length (c 8), sv G9 z2.length (c 9), sv G10 z3.length (c 10), sv G11 z4.length (c 11), sv G12 z5.length (c 12), sv G13 v0.length (c 13), sv G14 v1.length (c 14)]), (b5, 27, [sv h0 x0.length d0, sv h1 y0.length d1, sv h2 z0.length d2, sv none 0 0, .int .i64 n]), (b2, 27, [sv none 0 0, sv none 0 0, sv none 0 0, sv none 0 0, .int .i64 0])] [Seg.row none 61 2 0 0 ((rowsT 2 0 [v0, v1]).flatMap i64s), Seg.row h2 56 6 z0.length d2 ((rowsT 6 z0.length [z0, z1, z2, z3, z4, z5]).flatMap i64s), Seg.row h1 51 3 y0.length d1 ((rowsT 3 y0.length [y0, y1, y2]).flatMap i64s), Seg.row h0 46 4 x0.length d0 ((rowsT 4 x0.length [x0, x1, x2, x3]).flatMap i64s), Seg.row G14 2 1 v1.length (c 14) (i64s v1), Seg.row G13 2 1 v0.length (c 13) (i64s v0), Seg.row G12 2 1 z5.length (c 12) (i64s z5), Seg.row G11 2 1 z4.length (c 11) (i64s z4), Seg.row G10 2 1 z3.length (c 10) (i64s z3), Seg.row G9 2 1 z2.length (c 9) (i64s z2), Seg.row G8 2 1 z1.length (c 8) (i64s z1), Seg.row G7 2 1 z0.length (c 7) (i64s z0), Seg.row G6 2 1 y2.length (c 6) (i64s y2), Seg.row G5 2 1 y1.length (c 5) (i64s y1), Seg.row G4 2 1 y0.length (c 4) (i64s y0), Seg.row G3 2 1 x3.length (c 3) (i64s x3), Seg.row G2 2 1 x2.length (c 2) (i64s x2), Seg.row G1 2 1 x1.length (c 1) (i64s x1), Seg.row G0 2 1 x0.length (c 0) (i64s x0)] ⟨w, kys [] []⟩) :
    At (triCtx Tryz.prog 13 Tryz.f13 w [] Q) ⟨0, [0, 1, 0, 1, 1, 1, 1, 1, 1, 1, 1, 1, 1, 1], []⟩ [] [(2, .pointer (some ⟨b2, 0, none⟩)), (5, .pointer (some ⟨b5, 0, none⟩)), (6, .pointer (some ⟨b6, 0, none⟩)), (16, .int .i64 0)] [(b6, 78, [sv G0 x0.length (c 0), sv G1 x1.length (c 1), sv G2 x2.length (c 2), sv G3 x3.length (c 3), sv G4 y0.length (c 4), sv G5 y1.length (c 5), sv G6 y2.length (c 6), sv G7 z0.length (c 7), sv G8 z1.length (c 8), sv G9 z2.length (c 9), sv G10 z3.length (c 10), sv G11 z4.length (c 11), sv G12 z5.length (c 12), sv G13 v0.length (c 13), sv G14 v1.length (c 14)]), (b5, 27, [sv h0 x0.length d0, sv h1 y0.length d1, sv none 0 0, sv none 0 0, .int .i64 n]), (b2, 27, [sv none 0 0, sv none 0 0, sv none 0 0, sv none 0 0, .int .i64 0])] [Seg.row none 61 2 0 0 [], Seg.row none 56 6 0 0 ((rowsT 6 0 [z0, z1, z2, z3, z4, z5]).flatMap i64s), Seg.row h1 51 3 y0.length d1 ((rowsT 3 y0.length [y0, y1, y2]).flatMap i64s), Seg.row h0 46 4 x0.length d0 ((rowsT 4 x0.length [x0, x1, x2, x3]).flatMap i64s), Seg.row G14 2 1 v1.length (c 14) (i64s v1), Seg.row G13 2 1 v0.length (c 13) (i64s v0), Seg.row G12 2 1 z5.length (c 12) (i64s z5), Seg.row G11 2 1 z4.length (c 11) (i64s z4), Seg.row G10 2 1 z3.length (c 10) (i64s z3), Seg.row G9 2 1 z2.length (c 9) (i64s z2), Seg.row G8 2 1 z1.length (c 8) (i64s z1), Seg.row G7 2 1 z0.length (c 7) (i64s z0), Seg.row G6 2 1 y2.length (c 6) (i64s y2), Seg.row G5 2 1 y1.length (c 5) (i64s y1), Seg.row G4 2 1 y0.length (c 4) (i64s y0), Seg.row G3 2 1 x3.length (c 3) (i64s x3), Seg.row G2 2 1 x2.length (c 2) (i64s x2), Seg.row G1 2 1 x1.length (c 1) (i64s x1), Seg.row G0 2 1 x0.length (c 0) (i64s x0)] ⟨w, kys [] []⟩ := by
  refine At.loop (n := z0.length) (env0 := [(2, .pointer (some ⟨b2, 0, none⟩)), (5, .pointer (some ⟨b5, 0, none⟩)), (6, .pointer (some ⟨b6, 0, none⟩)), (16, .int .i64 0)]) (fun mm env bx hp => ∃ (i : Nat) (gq : Option Nat) (cq : Nat), mm = z0.length - i ∧ i ≤ z0.length ∧ env = [(2, .pointer (some ⟨b2, 0, none⟩)), (5, .pointer (some ⟨b5, 0, none⟩)), (6, .pointer (some ⟨b6, 0, none⟩)), (16, .int .i64 i)] ∧
    bx = [(b6, 78, [sv G0 x0.length (c 0), sv G1 x1.length (c 1), sv G2 x2.length (c 2), sv G3 x3.length (c 3), sv G4 y0.length (c 4), sv G5 y1.length (c 5), sv G6 y2.length (c 6), sv G7 z0.length (c 7), sv G8 z1.length (c 8), sv G9 z2.length (c 9), sv G10 z3.length (c 10), sv G11 z4.length (c 11), sv G12 z5.length (c 12), sv G13 v0.length (c 13), sv G14 v1.length (c 14)]), (b5, 27, [sv h0 x0.length d0, sv h1 y0.length d1, sv gq i cq, sv none 0 0, .int .i64 n]), (b2, 27, [sv none 0 0, sv none 0 0, sv none 0 0, sv none 0 0, .int .i64 0])] ∧ hp = [Seg.row none 61 2 0 0 [], Seg.row gq 56 6 i cq ((rowsT 6 i [z0, z1, z2, z3, z4, z5]).flatMap i64s), Seg.row h1 51 3 y0.length d1 ((rowsT 3 y0.length [y0, y1, y2]).flatMap i64s), Seg.row h0 46 4 x0.length d0 ((rowsT 4 x0.length [x0, x1, x2, x3]).flatMap i64s), Seg.row G14 2 1 v1.length (c 14) (i64s v1), Seg.row G13 2 1 v0.length (c 13) (i64s v0), Seg.row G12 2 1 z5.length (c 12) (i64s z5), Seg.row G11 2 1 z4.length (c 11) (i64s z4), Seg.row G10 2 1 z3.length (c 10) (i64s z3), Seg.row G9 2 1 z2.length (c 9) (i64s z2), Seg.row G8 2 1 z1.length (c 8) (i64s z1), Seg.row G7 2 1 z0.length (c 7) (i64s z0), Seg.row G6 2 1 y2.length (c 6) (i64s y2), Seg.row G5 2 1 y1.length (c 5) (i64s y1), Seg.row G4 2 1 y0.length (c 4) (i64s y0), Seg.row G3 2 1 x3.length (c 3) (i64s x3), Seg.row G2 2 1 x2.length (c 2) (i64s x2), Seg.row G1 2 1 x1.length (c 1) (i64s x1), Seg.row G0 2 1 x0.length (c 0) (i64s x0)]) rfl ⟨0, none, 0, rfl, by omega, rfl, rfl, rfl⟩ ⟨rfl, rfl, rfl, rfl, trivial⟩ ?_
  rintro mm env bx hp ⟨i, h2, d2, rfl, hi2, rfl, rfl, rfl⟩ ih
  by_cases hlt : i < z0.length
  · have hle : i < 1024 := by omega
    obtain ⟨q0, e0⟩ : ∃ q, z0[i]? = some q := ⟨_, List.getElem?_eq_getElem (by omega)⟩
    obtain ⟨q1, e1⟩ : ∃ q, z1[i]? = some q := ⟨_, List.getElem?_eq_getElem (by omega)⟩
    obtain ⟨q2, e2⟩ : ∃ q, z2[i]? = some q := ⟨_, List.getElem?_eq_getElem (by omega)⟩
    obtain ⟨q3, e3⟩ : ∃ q, z3[i]? = some q := ⟨_, List.getElem?_eq_getElem (by omega)⟩
    obtain ⟨q4, e4⟩ : ∃ q, z4[i]? = some q := ⟨_, List.getElem?_eq_getElem (by omega)⟩
    obtain ⟨q5, e5⟩ : ∃ q, z5[i]? = some q := ⟨_, List.getElem?_eq_getElem (by omega)⟩
    refine At.rowSome 11 rfl (by omega) (fun gg0 hg0 => ?_)
    subst hg0
    refine At.rowSome 10 rfl (by omega) (fun gg1 hg1 => ?_)
    subst hg1
    refine At.rowSome 9 rfl (by omega) (fun gg2 hg2 => ?_)
    subst hg2
    refine At.rowSome 8 rfl (by omega) (fun gg3 hg3 => ?_)
    subst hg3
    refine At.rowSome 7 rfl (by omega) (fun gg4 hg4 => ?_)
    subst hg4
    refine At.rowSome 6 rfl (by omega) (fun gg5 hg5 => ?_)
    subst hg5
    have r0 : ∀ {bx : Bx} {sa sb sc sd : Seg}, RdW ⟨w, kys [] []⟩ bx [sa, sb, sc, sd, Seg.row G14 2 1 v1.length (c 14) (i64s v1), Seg.row G13 2 1 v0.length (c 13) (i64s v0), Seg.row (some gg5) 2 1 z5.length (c 12) (i64s z5), Seg.row (some gg4) 2 1 z4.length (c 11) (i64s z4), Seg.row (some gg3) 2 1 z3.length (c 10) (i64s z3), Seg.row (some gg2) 2 1 z2.length (c 9) (i64s z2), Seg.row (some gg1) 2 1 z1.length (c 8) (i64s z1), Seg.row (some gg0) 2 1 z0.length (c 7) (i64s z0), Seg.row G6 2 1 y2.length (c 6) (i64s y2), Seg.row G5 2 1 y1.length (c 5) (i64s y1), Seg.row G4 2 1 y0.length (c 4) (i64s y0), Seg.row G3 2 1 x3.length (c 3) (i64s x3), Seg.row G2 2 1 x2.length (c 2) (i64s x2), Seg.row G1 2 1 x1.length (c 1) (i64s x1), Seg.row G0 2 1 x0.length (c 0) (i64s x0)] gg0 (0 + (i : Int).toNat * 1) [.int .i64 q0] := fun {bx sa sb sc sd} => RdW.row (j := 11) rfl (fun i' u hu => by
      match i', hu with
      | 0, hu => simp at hu; subst hu; rw [show 0 + (i : Int).toNat * 1 + 0 = i by omega]; exact i64s_get e0)
    have r1 : ∀ {bx : Bx} {sa sb sc sd : Seg}, RdW ⟨w, kys [] []⟩ bx [sa, sb, sc, sd, Seg.row G14 2 1 v1.length (c 14) (i64s v1), Seg.row G13 2 1 v0.length (c 13) (i64s v0), Seg.row (some gg5) 2 1 z5.length (c 12) (i64s z5), Seg.row (some gg4) 2 1 z4.length (c 11) (i64s z4), Seg.row (some gg3) 2 1 z3.length (c 10) (i64s z3), Seg.row (some gg2) 2 1 z2.length (c 9) (i64s z2), Seg.row (some gg1) 2 1 z1.length (c 8) (i64s z1), Seg.row (some gg0) 2 1 z0.length (c 7) (i64s z0), Seg.row G6 2 1 y2.length (c 6) (i64s y2), Seg.row G5 2 1 y1.length (c 5) (i64s y1), Seg.row G4 2 1 y0.length (c 4) (i64s y0), Seg.row G3 2 1 x3.length (c 3) (i64s x3), Seg.row G2 2 1 x2.length (c 2) (i64s x2), Seg.row G1 2 1 x1.length (c 1) (i64s x1), Seg.row G0 2 1 x0.length (c 0) (i64s x0)] gg1 (0 + (i : Int).toNat * 1) [.int .i64 q1] := fun {bx sa sb sc sd} => RdW.row (j := 10) rfl (fun i' u hu => by
      match i', hu with
      | 0, hu => simp at hu; subst hu; rw [show 0 + (i : Int).toNat * 1 + 0 = i by omega]; exact i64s_get e1)
    have r2 : ∀ {bx : Bx} {sa sb sc sd : Seg}, RdW ⟨w, kys [] []⟩ bx [sa, sb, sc, sd, Seg.row G14 2 1 v1.length (c 14) (i64s v1), Seg.row G13 2 1 v0.length (c 13) (i64s v0), Seg.row (some gg5) 2 1 z5.length (c 12) (i64s z5), Seg.row (some gg4) 2 1 z4.length (c 11) (i64s z4), Seg.row (some gg3) 2 1 z3.length (c 10) (i64s z3), Seg.row (some gg2) 2 1 z2.length (c 9) (i64s z2), Seg.row (some gg1) 2 1 z1.length (c 8) (i64s z1), Seg.row (some gg0) 2 1 z0.length (c 7) (i64s z0), Seg.row G6 2 1 y2.length (c 6) (i64s y2), Seg.row G5 2 1 y1.length (c 5) (i64s y1), Seg.row G4 2 1 y0.length (c 4) (i64s y0), Seg.row G3 2 1 x3.length (c 3) (i64s x3), Seg.row G2 2 1 x2.length (c 2) (i64s x2), Seg.row G1 2 1 x1.length (c 1) (i64s x1), Seg.row G0 2 1 x0.length (c 0) (i64s x0)] gg2 (0 + (i : Int).toNat * 1) [.int .i64 q2] := fun {bx sa sb sc sd} => RdW.row (j := 9) rfl (fun i' u hu => by
      match i', hu with
      | 0, hu => simp at hu; subst hu; rw [show 0 + (i : Int).toNat * 1 + 0 = i by omega]; exact i64s_get e2)
    have r3 : ∀ {bx : Bx} {sa sb sc sd : Seg}, RdW ⟨w, kys [] []⟩ bx [sa, sb, sc, sd, Seg.row G14 2 1 v1.length (c 14) (i64s v1), Seg.row G13 2 1 v0.length (c 13) (i64s v0), Seg.row (some gg5) 2 1 z5.length (c 12) (i64s z5), Seg.row (some gg4) 2 1 z4.length (c 11) (i64s z4), Seg.row (some gg3) 2 1 z3.length (c 10) (i64s z3), Seg.row (some gg2) 2 1 z2.length (c 9) (i64s z2), Seg.row (some gg1) 2 1 z1.length (c 8) (i64s z1), Seg.row (some gg0) 2 1 z0.length (c 7) (i64s z0), Seg.row G6 2 1 y2.length (c 6) (i64s y2), Seg.row G5 2 1 y1.length (c 5) (i64s y1), Seg.row G4 2 1 y0.length (c 4) (i64s y0), Seg.row G3 2 1 x3.length (c 3) (i64s x3), Seg.row G2 2 1 x2.length (c 2) (i64s x2), Seg.row G1 2 1 x1.length (c 1) (i64s x1), Seg.row G0 2 1 x0.length (c 0) (i64s x0)] gg3 (0 + (i : Int).toNat * 1) [.int .i64 q3] := fun {bx sa sb sc sd} => RdW.row (j := 8) rfl (fun i' u hu => by
      match i', hu with
      | 0, hu => simp at hu; subst hu; rw [show 0 + (i : Int).toNat * 1 + 0 = i by omega]; exact i64s_get e3)
    have r4 : ∀ {bx : Bx} {sa sb sc sd : Seg}, RdW ⟨w, kys [] []⟩ bx [sa, sb, sc, sd, Seg.row G14 2 1 v1.length (c 14) (i64s v1), Seg.row G13 2 1 v0.length (c 13) (i64s v0), Seg.row (some gg5) 2 1 z5.length (c 12) (i64s z5), Seg.row (some gg4) 2 1 z4.length (c 11) (i64s z4), Seg.row (some gg3) 2 1 z3.length (c 10) (i64s z3), Seg.row (some gg2) 2 1 z2.length (c 9) (i64s z2), Seg.row (some gg1) 2 1 z1.length (c 8) (i64s z1), Seg.row (some gg0) 2 1 z0.length (c 7) (i64s z0), Seg.row G6 2 1 y2.length (c 6) (i64s y2), Seg.row G5 2 1 y1.length (c 5) (i64s y1), Seg.row G4 2 1 y0.length (c 4) (i64s y0), Seg.row G3 2 1 x3.length (c 3) (i64s x3), Seg.row G2 2 1 x2.length (c 2) (i64s x2), Seg.row G1 2 1 x1.length (c 1) (i64s x1), Seg.row G0 2 1 x0.length (c 0) (i64s x0)] gg4 (0 + (i : Int).toNat * 1) [.int .i64 q4] := fun {bx sa sb sc sd} => RdW.row (j := 7) rfl (fun i' u hu => by
      match i', hu with
      | 0, hu => simp at hu; subst hu; rw [show 0 + (i : Int).toNat * 1 + 0 = i by omega]; exact i64s_get e4)
    have r5 : ∀ {bx : Bx} {sa sb sc sd : Seg}, RdW ⟨w, kys [] []⟩ bx [sa, sb, sc, sd, Seg.row G14 2 1 v1.length (c 14) (i64s v1), Seg.row G13 2 1 v0.length (c 13) (i64s v0), Seg.row (some gg5) 2 1 z5.length (c 12) (i64s z5), Seg.row (some gg4) 2 1 z4.length (c 11) (i64s z4), Seg.row (some gg3) 2 1 z3.length (c 10) (i64s z3), Seg.row (some gg2) 2 1 z2.length (c 9) (i64s z2), Seg.row (some gg1) 2 1 z1.length (c 8) (i64s z1), Seg.row (some gg0) 2 1 z0.length (c 7) (i64s z0), Seg.row G6 2 1 y2.length (c 6) (i64s y2), Seg.row G5 2 1 y1.length (c 5) (i64s y1), Seg.row G4 2 1 y0.length (c 4) (i64s y0), Seg.row G3 2 1 x3.length (c 3) (i64s x3), Seg.row G2 2 1 x2.length (c 2) (i64s x2), Seg.row G1 2 1 x1.length (c 1) (i64s x1), Seg.row G0 2 1 x0.length (c 0) (i64s x0)] gg5 (0 + (i : Int).toNat * 1) [.int .i64 q5] := fun {bx sa sb sc sd} => RdW.row (j := 6) rfl (fun i' u hu => by
      match i', hu with
      | 0, hu => simp at hu; subst hu; rw [show 0 + (i : Int).toNat * 1 + 0 = i by omega]; exact i64s_get e5)
    have hrow : i64s [q0, q1, q2, q3, q4, q5] = i64s (Eng.rowAt 6 [z0, z1, z2, z3, z4, z5] i) := by simp [Eng.rowAt, nthI, List.range_succ, e0, e1, e2, e3, e4, e5]
    refine At.run 100 true [true] [hB 0] rfl (by (repeat' apply And.intro) <;> first | exact True.intro | omega | (simp only [inK]; omega) | (simp; done) | (simp; omega) | exact decide_eq_true (by omega) | exact decide_eq_false (by omega) | rfl | (simp [Value.oneCell']; done) | exact i64s_one _ | exact AggOk.mk (by kernel_rfl) (by kernel_rfl)) ?_
    refine At.draw 37 rfl rfl rfl rfl ?_
    refine AtD.pures (ob := True) true (by kernel_rfl) [0] (fuel := 36) (by kernel_rfl) rfl (by (repeat' apply And.intro) <;> first | exact True.intro | omega | (simp only [inK]; omega) | (simp; done) | (simp; omega) | exact decide_eq_true (by omega) | exact decide_eq_false (by omega) | rfl | (simp [Value.oneCell']; done) | exact i64s_one _ | exact AggOk.mk (by kernel_rfl) (by kernel_rfl)) ?_
    refine AtD.late 2 31 1 33 3 true [] [hB 0, hR [.int .i64 q0], hB 0, hR [.int .i64 q1], hB 0, hR [.int .i64 q2], hB 0, hR [.int .i64 q3], hB 0, hR [.int .i64 q4], hB 0, hR [.int .i64 q5]] [hB 1] ⟨by kernel_rfl, by kernel_rfl, by kernel_rfl, rfl, by kernel_rfl, by kernel_rfl, rfl, rfl, by kernel_rfl⟩ rfl rfl rfl (by (repeat' apply And.intro) <;> first | exact r0 | exact r1 | exact r2 | exact r3 | exact r4 | exact r5 | exact True.intro | omega | rfl | (simp only [inK]; omega) | exact decide_eq_true (by omega) | exact decide_eq_false (by omega) | (simp; done) | (simp; omega) | (simp [Value.oneCell']; done) | exact i64s_one _ | exact AggOk.mk (by kernel_rfl) (by kernel_rfl)) rfl rfl (by (repeat' apply And.intro) <;> first | exact True.intro | omega | (simp only [inK]; omega) | (simp; done) | (simp; omega) | exact decide_eq_true (by omega) | exact decide_eq_false (by omega) | rfl | (simp [Value.oneCell']; done) | exact i64s_one _ | exact AggOk.mk (by kernel_rfl) (by kernel_rfl)) ?_ ?_
    · refine AtD.fork1 33 (by kernel_rfl) (StepD.by [] rfl rfl rfl rfl trivial (OpOk.buildSlice rfl rfl rfl rfl rfl rfl rfl (fun bb hbb => ?_)))
      refine AtD.fork1 34 (by kernel_rfl) (StepD.by [] rfl rfl rfl rfl trivial (OpOk.append 1 6 48 (i64s [q0, q1, q2, q3, q4, q5]) rfl rfl rfl rfl rfl rfl rfl (RdW.blk0 (i := 0) rfl) rfl (i64s_one _) (by omega) (by omega) fun gq' cq' => ?_))
      refine AtD.pures (ob := True) true (by kernel_rfl) [35] (fuel := 1) (by kernel_rfl) rfl (by (repeat' apply And.intro) <;> first | exact True.intro | omega | (simp only [inK]; omega) | (simp; done) | (simp; omega) | exact decide_eq_true (by omega) | exact decide_eq_false (by omega) | rfl | (simp [Value.oneCell']; done) | exact i64s_one _ | exact AggOk.mk (by kernel_rfl) (by kernel_rfl)) ?_
      refine AtD.fork1 36 (by kernel_rfl) (StepD.by0 [] rfl rfl rfl trivial (OpOk.one true [] [hB 2] rfl (by (repeat' apply And.intro) <;> first | simp [Value.oneCell', sv]; done | exact True.intro | omega | rfl | (simp only [inK]; omega) | exact decide_eq_true (by omega) | exact decide_eq_false (by omega) | (simp; done) | (simp; omega) | (simp [Value.oneCell']; done) | exact i64s_one _ | exact AggOk.mk (by kernel_rfl) (by kernel_rfl)) ?_))
      refine AtD.done (by kernel_rfl) ?_
      refine At.keep [false, true, true, true] [true, true, true, true, true, true, true, true, true, true, true, true, true, true, true, true, true, true, true] rfl ?_
      refine At.run 100 true [] [] rfl (by (repeat' apply And.intro) <;> first | exact True.intro | omega | (simp only [inK]; omega) | (simp; done) | (simp; omega) | exact decide_eq_true (by omega) | exact decide_eq_false (by omega) | rfl | (simp [Value.oneCell']; done) | exact i64s_one _ | exact AggOk.mk (by kernel_rfl) (by kernel_rfl)) ?_
      refine At.weak (ih (z0.length - (i + 1)) _ _ _ (by omega) ⟨i + 1, gq', cq', rfl, by omega, rfl, rfl, ?_⟩) ⟨rfl, rfl, rfl, some_int_eq (by omega), trivial⟩
      simp only [rowsT_snoc, List.flatMap_append, List.flatMap_cons, List.flatMap_nil, List.append_nil, ← hrow]
    · refine StepD.by [] rfl rfl rfl rfl trivial (OpOk.buildSlice rfl rfl rfl rfl rfl rfl rfl (fun bb hbb => ?_))
      refine AtD.fork1 1 (by kernel_rfl) (StepD.by [] rfl rfl rfl rfl trivial (OpOk.one true [] [hB 2] rfl (by (repeat' apply And.intro) <;> first | exact True.intro | omega | (simp only [inK]; omega) | (simp; done) | (simp; omega) | exact decide_eq_true (by omega) | exact decide_eq_false (by omega) | rfl | (simp [Value.oneCell']; done) | exact i64s_one _ | exact AggOk.mk (by kernel_rfl) (by kernel_rfl)) ?_))
      refine AtD.fork1 34 (by kernel_rfl) (StepD.by [] rfl rfl rfl rfl trivial (OpOk.append 1 6 48 (i64s [q0, q1, q2, q3, q4, q5]) rfl rfl rfl rfl rfl rfl rfl (RdW.blk0 (i := 0) rfl) rfl (i64s_one _) (by omega) (by omega) fun gq' cq' => ?_))
      refine AtD.pures (ob := True) true (by kernel_rfl) [35] (fuel := 1) (by kernel_rfl) rfl (by (repeat' apply And.intro) <;> first | exact True.intro | omega | (simp only [inK]; omega) | (simp; done) | (simp; omega) | exact decide_eq_true (by omega) | exact decide_eq_false (by omega) | rfl | (simp [Value.oneCell']; done) | exact i64s_one _ | exact AggOk.mk (by kernel_rfl) (by kernel_rfl)) ?_
      refine AtD.fork1 36 (by kernel_rfl) (StepD.by0 [] rfl rfl rfl trivial (OpOk.one true [] [hB 2] rfl (by (repeat' apply And.intro) <;> first | simp [Value.oneCell', sv]; done | exact True.intro | omega | rfl | (simp only [inK]; omega) | exact decide_eq_true (by omega) | exact decide_eq_false (by omega) | (simp; done) | (simp; omega) | (simp [Value.oneCell']; done) | exact i64s_one _ | exact AggOk.mk (by kernel_rfl) (by kernel_rfl)) ?_))
      refine AtD.done (by kernel_rfl) ?_
      refine At.keep [false, true, true, true] [true, true, true, true, true, true, true, true, true, true, true, true, true, true, true, true, true, true, true] rfl ?_
      refine At.run 100 true [] [] rfl (by (repeat' apply And.intro) <;> first | exact True.intro | omega | (simp only [inK]; omega) | (simp; done) | (simp; omega) | exact decide_eq_true (by omega) | exact decide_eq_false (by omega) | rfl | (simp [Value.oneCell']; done) | exact i64s_one _ | exact AggOk.mk (by kernel_rfl) (by kernel_rfl)) ?_
      refine At.weak (ih (z0.length - (i + 1)) _ _ _ (by omega) ⟨i + 1, gq', cq', rfl, by omega, rfl, rfl, ?_⟩) ⟨rfl, rfl, rfl, some_int_eq (by omega), trivial⟩
      simp only [rowsT_snoc, List.flatMap_append, List.flatMap_cons, List.flatMap_nil, List.append_nil, ← hrow]
  · have : i = z0.length := by omega
    subst this
    refine At.run 100 true [false] [hB 0] rfl (by (repeat' apply And.intro) <;> first | exact True.intro | omega | (simp only [inK]; omega) | (simp; done) | (simp; omega) | exact decide_eq_true (by omega) | exact decide_eq_false (by omega) | rfl | (simp [Value.oneCell']; done) | exact i64s_one _ | exact AggOk.mk (by kernel_rfl) (by kernel_rfl)) ?_
    exact At.weak (hk h2 d2) ⟨rfl, rfl, rfl, rfl, trivial⟩

theorem Tryz.rg13_R {Q : Value → Bx → List Seg → Prop} (w : World) (b2 b5 b6 n : Nat) {x0 x1 x2 x3 y0 y1 y2 z0 z1 z2 z3 z4 z5 v0 v1 : List Int} {G0 G1 G2 G3 G4 G5 G6 G7 G8 G9 G10 G11 G12 G13 G14 : Option Nat} {c : Nat → Nat} (h0 : Option Nat) (d0 : Nat) (h1 : Option Nat) (d1 : Nat) (h2 : Option Nat) (d2 : Nat) (m : v0.length ≤ 1024) (l14 : v1.length = v0.length)
    (hk : ∀ (h3 : Option Nat) (d3 : Nat), At (triCtx Tryz.prog 13 Tryz.f13 w [] Q) ⟨3, [0, 0, 1, 1, 1, 1, 1, 1, 1, 1, 1, 1, 1, 1, 1], [0, 1, 2]⟩ [] [(2, .pointer (some ⟨b2, 0, none⟩)), (5, .pointer (some ⟨b5, 0, none⟩)), (6, .pointer (some ⟨b6, 0, none⟩))] [(b6, 78, [sv G0 x0.length (c 0), sv G1 x1.length (c 1), sv G2 x2.length (c 2), sv G3 x3.length (c 3), sv G4 y0.length (c 4), sv G5 y1.length (c 5), sv G6 y2.length (c 6), sv G7 z0.length (c 7), sv G8 z1.length (c 8), sv G9 z2.length (c 9), sv G10 z3.length (c 10), sv G11 z4.length (c 11), sv G12 z5.length (c 12), sv G13 v0.length (c 13), sv G14 v1.length (c 14)]), (b5, 27, [sv h0 x0.length d0, sv h1 y0.length d1, sv h2 z0.length d2, sv h3 v0.length d3, .int .i64 n]), (b2, 27, [sv none 0 0, sv none 0 0, sv none 0 0, sv none 0 0, .int .i64 0])] [Seg.row h3 61 2 v0.length d3 ((rowsT 2 v0.length [v0, v1]).flatMap i64s), Seg.row h2 56 6 z0.length d2 ((rowsT 6 z0.length [z0, z1, z2, z3, z4, z5]).flatMap i64s), Seg.row h1 51 3 y0.length d1 ((rowsT 3 y0.length [y0, y1, y2]).flatMap i64s), Seg.row h0 46 4 x0.length d0 ((rowsT 4 x0.length [x0, x1, x2, x3]).flatMap i64s), Seg.row G14 2 1 v1.length (c 14) (i64s v1), Seg.row G13 2 1 v0.length (c 13) (i64s v0), Seg.row G12 2 1 z5.length (c 12) (i64s z5), Seg.row G11 2 1 z4.length (c 11) (i64s z4), Seg.row G10 2 1 z3.length (c 10) (i64s z3), Seg.row G9 2 1 z2.length (c 9) (i64s z2), Seg.row G8 2 1 z1.length (c 8) (i64s z1), Seg.row G7 2 1 z0.length (c 7) (i64s z0), Seg.row G6 2 1 y2.length (c 6) (i64s y2), Seg.row G5 2 1 y1.length (c 5) (i64s y1), Seg.row G4 2 1 y0.length (c 4) (i64s y0), Seg.row G3 2 1 x3.length (c 3) (i64s x3), Seg.row G2 2 1 x2.length (c 2) (i64s x2), Seg.row G1 2 1 x1.length (c 1) (i64s x1), Seg.row G0 2 1 x0.length (c 0) (i64s x0)] ⟨w, kys [] []⟩) :
    At (triCtx Tryz.prog 13 Tryz.f13 w [] Q) ⟨0, [0, 1, 0, 1, 1, 1, 1, 1, 1, 1, 1, 1, 1, 1, 1], []⟩ [] [(2, .pointer (some ⟨b2, 0, none⟩)), (5, .pointer (some ⟨b5, 0, none⟩)), (6, .pointer (some ⟨b6, 0, none⟩)), (17, .int .i64 0)] [(b6, 78, [sv G0 x0.length (c 0), sv G1 x1.length (c 1), sv G2 x2.length (c 2), sv G3 x3.length (c 3), sv G4 y0.length (c 4), sv G5 y1.length (c 5), sv G6 y2.length (c 6), sv G7 z0.length (c 7), sv G8 z1.length (c 8), sv G9 z2.length (c 9), sv G10 z3.length (c 10), sv G11 z4.length (c 11), sv G12 z5.length (c 12), sv G13 v0.length (c 13), sv G14 v1.length (c 14)]), (b5, 27, [sv h0 x0.length d0, sv h1 y0.length d1, sv h2 z0.length d2, sv none 0 0, .int .i64 n]), (b2, 27, [sv none 0 0, sv none 0 0, sv none 0 0, sv none 0 0, .int .i64 0])] [Seg.row none 61 2 0 0 ((rowsT 2 0 [v0, v1]).flatMap i64s), Seg.row h2 56 6 z0.length d2 ((rowsT 6 z0.length [z0, z1, z2, z3, z4, z5]).flatMap i64s), Seg.row h1 51 3 y0.length d1 ((rowsT 3 y0.length [y0, y1, y2]).flatMap i64s), Seg.row h0 46 4 x0.length d0 ((rowsT 4 x0.length [x0, x1, x2, x3]).flatMap i64s), Seg.row G14 2 1 v1.length (c 14) (i64s v1), Seg.row G13 2 1 v0.length (c 13) (i64s v0), Seg.row G12 2 1 z5.length (c 12) (i64s z5), Seg.row G11 2 1 z4.length (c 11) (i64s z4), Seg.row G10 2 1 z3.length (c 10) (i64s z3), Seg.row G9 2 1 z2.length (c 9) (i64s z2), Seg.row G8 2 1 z1.length (c 8) (i64s z1), Seg.row G7 2 1 z0.length (c 7) (i64s z0), Seg.row G6 2 1 y2.length (c 6) (i64s y2), Seg.row G5 2 1 y1.length (c 5) (i64s y1), Seg.row G4 2 1 y0.length (c 4) (i64s y0), Seg.row G3 2 1 x3.length (c 3) (i64s x3), Seg.row G2 2 1 x2.length (c 2) (i64s x2), Seg.row G1 2 1 x1.length (c 1) (i64s x1), Seg.row G0 2 1 x0.length (c 0) (i64s x0)] ⟨w, kys [] []⟩ := by
  refine At.loop (n := v0.length) (env0 := [(2, .pointer (some ⟨b2, 0, none⟩)), (5, .pointer (some ⟨b5, 0, none⟩)), (6, .pointer (some ⟨b6, 0, none⟩)), (17, .int .i64 0)]) (fun mm env bx hp => ∃ (i : Nat) (gq : Option Nat) (cq : Nat), mm = v0.length - i ∧ i ≤ v0.length ∧ env = [(2, .pointer (some ⟨b2, 0, none⟩)), (5, .pointer (some ⟨b5, 0, none⟩)), (6, .pointer (some ⟨b6, 0, none⟩)), (17, .int .i64 i)] ∧
    bx = [(b6, 78, [sv G0 x0.length (c 0), sv G1 x1.length (c 1), sv G2 x2.length (c 2), sv G3 x3.length (c 3), sv G4 y0.length (c 4), sv G5 y1.length (c 5), sv G6 y2.length (c 6), sv G7 z0.length (c 7), sv G8 z1.length (c 8), sv G9 z2.length (c 9), sv G10 z3.length (c 10), sv G11 z4.length (c 11), sv G12 z5.length (c 12), sv G13 v0.length (c 13), sv G14 v1.length (c 14)]), (b5, 27, [sv h0 x0.length d0, sv h1 y0.length d1, sv h2 z0.length d2, sv gq i cq, .int .i64 n]), (b2, 27, [sv none 0 0, sv none 0 0, sv none 0 0, sv none 0 0, .int .i64 0])] ∧ hp = [Seg.row gq 61 2 i cq ((rowsT 2 i [v0, v1]).flatMap i64s), Seg.row h2 56 6 z0.length d2 ((rowsT 6 z0.length [z0, z1, z2, z3, z4, z5]).flatMap i64s), Seg.row h1 51 3 y0.length d1 ((rowsT 3 y0.length [y0, y1, y2]).flatMap i64s), Seg.row h0 46 4 x0.length d0 ((rowsT 4 x0.length [x0, x1, x2, x3]).flatMap i64s), Seg.row G14 2 1 v1.length (c 14) (i64s v1), Seg.row G13 2 1 v0.length (c 13) (i64s v0), Seg.row G12 2 1 z5.length (c 12) (i64s z5), Seg.row G11 2 1 z4.length (c 11) (i64s z4), Seg.row G10 2 1 z3.length (c 10) (i64s z3), Seg.row G9 2 1 z2.length (c 9) (i64s z2), Seg.row G8 2 1 z1.length (c 8) (i64s z1), Seg.row G7 2 1 z0.length (c 7) (i64s z0), Seg.row G6 2 1 y2.length (c 6) (i64s y2), Seg.row G5 2 1 y1.length (c 5) (i64s y1), Seg.row G4 2 1 y0.length (c 4) (i64s y0), Seg.row G3 2 1 x3.length (c 3) (i64s x3), Seg.row G2 2 1 x2.length (c 2) (i64s x2), Seg.row G1 2 1 x1.length (c 1) (i64s x1), Seg.row G0 2 1 x0.length (c 0) (i64s x0)]) rfl ⟨0, none, 0, rfl, by omega, rfl, rfl, rfl⟩ ⟨rfl, rfl, rfl, rfl, trivial⟩ ?_
  rintro mm env bx hp ⟨i, h3, d3, rfl, hi3, rfl, rfl, rfl⟩ ih
  by_cases hlt : i < v0.length
  · have hle : i < 1024 := by omega
    obtain ⟨q0, e0⟩ : ∃ q, v0[i]? = some q := ⟨_, List.getElem?_eq_getElem (by omega)⟩
    obtain ⟨q1, e1⟩ : ∃ q, v1[i]? = some q := ⟨_, List.getElem?_eq_getElem (by omega)⟩
    refine At.rowSome 5 rfl (by omega) (fun gg0 hg0 => ?_)
    subst hg0
    refine At.rowSome 4 rfl (by omega) (fun gg1 hg1 => ?_)
    subst hg1
    have r0 : ∀ {bx : Bx} {sa sb sc sd : Seg}, RdW ⟨w, kys [] []⟩ bx [sa, sb, sc, sd, Seg.row (some gg1) 2 1 v1.length (c 14) (i64s v1), Seg.row (some gg0) 2 1 v0.length (c 13) (i64s v0), Seg.row G12 2 1 z5.length (c 12) (i64s z5), Seg.row G11 2 1 z4.length (c 11) (i64s z4), Seg.row G10 2 1 z3.length (c 10) (i64s z3), Seg.row G9 2 1 z2.length (c 9) (i64s z2), Seg.row G8 2 1 z1.length (c 8) (i64s z1), Seg.row G7 2 1 z0.length (c 7) (i64s z0), Seg.row G6 2 1 y2.length (c 6) (i64s y2), Seg.row G5 2 1 y1.length (c 5) (i64s y1), Seg.row G4 2 1 y0.length (c 4) (i64s y0), Seg.row G3 2 1 x3.length (c 3) (i64s x3), Seg.row G2 2 1 x2.length (c 2) (i64s x2), Seg.row G1 2 1 x1.length (c 1) (i64s x1), Seg.row G0 2 1 x0.length (c 0) (i64s x0)] gg0 (0 + (i : Int).toNat * 1) [.int .i64 q0] := fun {bx sa sb sc sd} => RdW.row (j := 5) rfl (fun i' u hu => by
      match i', hu with
      | 0, hu => simp at hu; subst hu; rw [show 0 + (i : Int).toNat * 1 + 0 = i by omega]; exact i64s_get e0)
    have r1 : ∀ {bx : Bx} {sa sb sc sd : Seg}, RdW ⟨w, kys [] []⟩ bx [sa, sb, sc, sd, Seg.row (some gg1) 2 1 v1.length (c 14) (i64s v1), Seg.row (some gg0) 2 1 v0.length (c 13) (i64s v0), Seg.row G12 2 1 z5.length (c 12) (i64s z5), Seg.row G11 2 1 z4.length (c 11) (i64s z4), Seg.row G10 2 1 z3.length (c 10) (i64s z3), Seg.row G9 2 1 z2.length (c 9) (i64s z2), Seg.row G8 2 1 z1.length (c 8) (i64s z1), Seg.row G7 2 1 z0.length (c 7) (i64s z0), Seg.row G6 2 1 y2.length (c 6) (i64s y2), Seg.row G5 2 1 y1.length (c 5) (i64s y1), Seg.row G4 2 1 y0.length (c 4) (i64s y0), Seg.row G3 2 1 x3.length (c 3) (i64s x3), Seg.row G2 2 1 x2.length (c 2) (i64s x2), Seg.row G1 2 1 x1.length (c 1) (i64s x1), Seg.row G0 2 1 x0.length (c 0) (i64s x0)] gg1 (0 + (i : Int).toNat * 1) [.int .i64 q1] := fun {bx sa sb sc sd} => RdW.row (j := 4) rfl (fun i' u hu => by
      match i', hu with
      | 0, hu => simp at hu; subst hu; rw [show 0 + (i : Int).toNat * 1 + 0 = i by omega]; exact i64s_get e1)
    have hrow : i64s [q0, q1] = i64s (Eng.rowAt 2 [v0, v1] i) := by simp [Eng.rowAt, nthI, List.range_succ, e0, e1]
    refine At.run 100 true [true] [hB 0] rfl (by (repeat' apply And.intro) <;> first | exact True.intro | omega | (simp only [inK]; omega) | (simp; done) | (simp; omega) | exact decide_eq_true (by omega) | exact decide_eq_false (by omega) | rfl | (simp [Value.oneCell']; done) | exact i64s_one _ | exact AggOk.mk (by kernel_rfl) (by kernel_rfl)) ?_
    refine At.draw 17 rfl rfl rfl rfl ?_
    refine AtD.pures (ob := True) true (by kernel_rfl) [0] (fuel := 16) (by kernel_rfl) rfl (by (repeat' apply And.intro) <;> first | exact True.intro | omega | (simp only [inK]; omega) | (simp; done) | (simp; omega) | exact decide_eq_true (by omega) | exact decide_eq_false (by omega) | rfl | (simp [Value.oneCell']; done) | exact i64s_one _ | exact AggOk.mk (by kernel_rfl) (by kernel_rfl)) ?_
    refine AtD.late 2 11 1 13 3 true [] [hB 0, hR [.int .i64 q0], hB 0, hR [.int .i64 q1]] [hB 1] ⟨by kernel_rfl, by kernel_rfl, by kernel_rfl, rfl, by kernel_rfl, by kernel_rfl, rfl, rfl, by kernel_rfl⟩ rfl rfl rfl (by (repeat' apply And.intro) <;> first | exact r0 | exact r1 | exact True.intro | omega | rfl | (simp only [inK]; omega) | exact decide_eq_true (by omega) | exact decide_eq_false (by omega) | (simp; done) | (simp; omega) | (simp [Value.oneCell']; done) | exact i64s_one _ | exact AggOk.mk (by kernel_rfl) (by kernel_rfl)) rfl rfl (by (repeat' apply And.intro) <;> first | exact True.intro | omega | (simp only [inK]; omega) | (simp; done) | (simp; omega) | exact decide_eq_true (by omega) | exact decide_eq_false (by omega) | rfl | (simp [Value.oneCell']; done) | exact i64s_one _ | exact AggOk.mk (by kernel_rfl) (by kernel_rfl)) ?_ ?_
    · refine AtD.fork1 13 (by kernel_rfl) (StepD.by [] rfl rfl rfl rfl trivial (OpOk.buildSlice rfl rfl rfl rfl rfl rfl rfl (fun bb hbb => ?_)))
      refine AtD.fork1 14 (by kernel_rfl) (StepD.by [] rfl rfl rfl rfl trivial (OpOk.append 0 2 16 (i64s [q0, q1]) rfl rfl rfl rfl rfl rfl rfl (RdW.blk0 (i := 0) rfl) rfl (i64s_one _) (by omega) (by omega) fun gq' cq' => ?_))
      refine AtD.pures (ob := True) true (by kernel_rfl) [15] (fuel := 1) (by kernel_rfl) rfl (by (repeat' apply And.intro) <;> first | exact True.intro | omega | (simp only [inK]; omega) | (simp; done) | (simp; omega) | exact decide_eq_true (by omega) | exact decide_eq_false (by omega) | rfl | (simp [Value.oneCell']; done) | exact i64s_one _ | exact AggOk.mk (by kernel_rfl) (by kernel_rfl)) ?_
      refine AtD.fork1 16 (by kernel_rfl) (StepD.by0 [] rfl rfl rfl trivial (OpOk.one true [] [hB 2] rfl (by (repeat' apply And.intro) <;> first | simp [Value.oneCell', sv]; done | exact True.intro | omega | rfl | (simp only [inK]; omega) | exact decide_eq_true (by omega) | exact decide_eq_false (by omega) | (simp; done) | (simp; omega) | (simp [Value.oneCell']; done) | exact i64s_one _ | exact AggOk.mk (by kernel_rfl) (by kernel_rfl)) ?_))
      refine AtD.done (by kernel_rfl) ?_
      refine At.keep [false, true, true, true] [true, true, true, true, true, true, true, true, true, true, true, true, true, true, true, true, true, true, true] rfl ?_
      refine At.run 100 true [] [] rfl (by (repeat' apply And.intro) <;> first | exact True.intro | omega | (simp only [inK]; omega) | (simp; done) | (simp; omega) | exact decide_eq_true (by omega) | exact decide_eq_false (by omega) | rfl | (simp [Value.oneCell']; done) | exact i64s_one _ | exact AggOk.mk (by kernel_rfl) (by kernel_rfl)) ?_
      refine At.weak (ih (v0.length - (i + 1)) _ _ _ (by omega) ⟨i + 1, gq', cq', rfl, by omega, rfl, rfl, ?_⟩) ⟨rfl, rfl, rfl, some_int_eq (by omega), trivial⟩
      simp only [rowsT_snoc, List.flatMap_append, List.flatMap_cons, List.flatMap_nil, List.append_nil, ← hrow]
    · refine StepD.by [] rfl rfl rfl rfl trivial (OpOk.buildSlice rfl rfl rfl rfl rfl rfl rfl (fun bb hbb => ?_))
      refine AtD.fork1 1 (by kernel_rfl) (StepD.by [] rfl rfl rfl rfl trivial (OpOk.one true [] [hB 2] rfl (by (repeat' apply And.intro) <;> first | exact True.intro | omega | (simp only [inK]; omega) | (simp; done) | (simp; omega) | exact decide_eq_true (by omega) | exact decide_eq_false (by omega) | rfl | (simp [Value.oneCell']; done) | exact i64s_one _ | exact AggOk.mk (by kernel_rfl) (by kernel_rfl)) ?_))
      refine AtD.fork1 14 (by kernel_rfl) (StepD.by [] rfl rfl rfl rfl trivial (OpOk.append 0 2 16 (i64s [q0, q1]) rfl rfl rfl rfl rfl rfl rfl (RdW.blk0 (i := 0) rfl) rfl (i64s_one _) (by omega) (by omega) fun gq' cq' => ?_))
      refine AtD.pures (ob := True) true (by kernel_rfl) [15] (fuel := 1) (by kernel_rfl) rfl (by (repeat' apply And.intro) <;> first | exact True.intro | omega | (simp only [inK]; omega) | (simp; done) | (simp; omega) | exact decide_eq_true (by omega) | exact decide_eq_false (by omega) | rfl | (simp [Value.oneCell']; done) | exact i64s_one _ | exact AggOk.mk (by kernel_rfl) (by kernel_rfl)) ?_
      refine AtD.fork1 16 (by kernel_rfl) (StepD.by0 [] rfl rfl rfl trivial (OpOk.one true [] [hB 2] rfl (by (repeat' apply And.intro) <;> first | simp [Value.oneCell', sv]; done | exact True.intro | omega | rfl | (simp only [inK]; omega) | exact decide_eq_true (by omega) | exact decide_eq_false (by omega) | (simp; done) | (simp; omega) | (simp [Value.oneCell']; done) | exact i64s_one _ | exact AggOk.mk (by kernel_rfl) (by kernel_rfl)) ?_))
      refine AtD.done (by kernel_rfl) ?_
      refine At.keep [false, true, true, true] [true, true, true, true, true, true, true, true, true, true, true, true, true, true, true, true, true, true, true] rfl ?_
      refine At.run 100 true [] [] rfl (by (repeat' apply And.intro) <;> first | exact True.intro | omega | (simp only [inK]; omega) | (simp; done) | (simp; omega) | exact decide_eq_true (by omega) | exact decide_eq_false (by omega) | rfl | (simp [Value.oneCell']; done) | exact i64s_one _ | exact AggOk.mk (by kernel_rfl) (by kernel_rfl)) ?_
      refine At.weak (ih (v0.length - (i + 1)) _ _ _ (by omega) ⟨i + 1, gq', cq', rfl, by omega, rfl, rfl, ?_⟩) ⟨rfl, rfl, rfl, some_int_eq (by omega), trivial⟩
      simp only [rowsT_snoc, List.flatMap_append, List.flatMap_cons, List.flatMap_nil, List.append_nil, ← hrow]
  · have : i = v0.length := by omega
    subst this
    refine At.run 100 true [false] [hB 0] rfl (by (repeat' apply And.intro) <;> first | exact True.intro | omega | (simp only [inK]; omega) | (simp; done) | (simp; omega) | exact decide_eq_true (by omega) | exact decide_eq_false (by omega) | rfl | (simp [Value.oneCell']; done) | exact i64s_one _ | exact AggOk.mk (by kernel_rfl) (by kernel_rfl)) ?_
    exact At.weak (hk h3 d3) ⟨rfl, rfl, rfl, trivial⟩

theorem Tryz.rGet13_w (s : List UInt8) (w : World) (hs : s.length ≤ 9223372036854775807) :
    Tri Tryz.prog 13 [str s] w [] (fun v bx hp => ∃ G : BkG, v = .tuple #[.agg ⟨bkV (getBk s).1 G.A⟩, .int .i64 (getBk s).2] ∧ bx = [] ∧ hp = Tryz.bkRows (getBk s).1 G) := by
  refine Tri.enter (bx := []) (hp := []) Tryz.func13 rfl (by kernel_rfl) rfl (Own.nil w) ?_
  refine At.run 100 true [] [] rfl trivial ?_
  refine At.step [] rfl rfl rfl rfl rfl trivial (OpOk.alloc (cs := [sv none 0 0, sv none 0 0, sv none 0 0, sv none 0 0, .int .i64 0]) rfl (by kernel_rfl) fun b2 hb2 => ?_)
  refine At.run 100 true [] [] rfl trivial ?_
  refine At.step [] rfl rfl rfl rfl rfl trivial (OpOk.call rfl (fun w' hw' => Tryz.rOf_w ⟨s.toArray⟩ w') ?_)
  rintro v bx' hp' ⟨b, rfl, rfl, rfl⟩
  have hN0 := rdN_lt s 0 0 1099511627776
  have hA0 := rdN_a (l := s) (a := 0) (f := 0) (most := 1099511627776) (by omega)
  have hNum : ∀ {w' : World} {bx : Bx}, WOk ⟨w, kys [] []⟩ ((b, 84, rdr ⟨s.toArray⟩ 0 0) :: bx) [] w' → _ := fun {w'} {bx} hw' => Tryz.rNum_w ⟨s.toArray⟩ 0 0 b 1099511627776 w' (by omega) (by rw [bl_str]; exact hs) (Own.head hw'.toOwn)
  simp only [bl_str] at hNum
  obtain ⟨n, a, e0, hN⟩ : ∃ n a f, rdN s 0 0 1099511627776 = (n, a, f) := ⟨_, _, _, rfl⟩
  rw [hN] at hN0 hA0 hNum
  simp only at hN0 hA0 hNum
  refine At.run 100 true [] [hU (.int .u64 n) 0 (rdr ⟨s.toArray⟩ a e0)] rfl (by (repeat' apply And.intro) <;> first | exact fun w' hw' => hNum hw' | exact True.intro | omega | rfl | (simp only [inK]; omega) | exact decide_eq_true (by omega) | exact decide_eq_false (by omega) | (simp; done) | (simp; omega) | (simp [Value.oneCell']; done) | exact i64s_one _ | exact AggOk.mk (by kernel_rfl) (by kernel_rfl)) ?_
  refine At.step [] rfl rfl rfl rfl rfl trivial (OpOk.alloc (cs := [sv none 0 0, sv none 0 0, sv none 0 0, sv none 0 0, .int .i64 0]) rfl (by kernel_rfl) fun b5 hb5 => ?_)
  by_cases he0 : e0 = 0
  · subst he0
    have hlen : ((bl ⟨s.toArray⟩).length) = s.length := by rw [bl_str]
    refine At.run 100 true [false] [hB 0, hB 1, hB 1] rfl (by (repeat' apply And.intro) <;> first | simp [Value.oneCell', sv]; done | exact True.intro | omega | rfl | (simp only [inK]; omega) | exact decide_eq_true (by omega) | exact decide_eq_false (by omega) | (simp; done) | (simp; omega) | (simp [Value.oneCell']; done) | exact i64s_one _ | exact AggOk.mk (by kernel_rfl) (by kernel_rfl)) ?_
    refine At.step [] rfl rfl rfl rfl rfl trivial (OpOk.alloc (cs := [sv none 0 0, sv none 0 0, sv none 0 0, sv none 0 0, sv none 0 0, sv none 0 0, sv none 0 0, sv none 0 0, sv none 0 0, sv none 0 0, sv none 0 0, sv none 0 0, sv none 0 0, sv none 0 0, sv none 0 0]) rfl (by kernel_rfl) fun b6 hb6 => ?_)
    refine At.keep [true, true, false, true] [] rfl ?_
    refine At.run 100 true [] [] rfl (by (repeat' apply And.intro) <;> first | exact True.intro | omega | (simp only [inK]; omega) | (simp; done) | (simp; omega) | exact decide_eq_true (by omega) | exact decide_eq_false (by omega) | rfl | (simp [Value.oneCell']; done) | exact i64s_one _ | exact AggOk.mk (by kernel_rfl) (by kernel_rfl)) ?_
    refine At.loop (n := 15) (env0 := [(0, str (s.drop a)), (2, .pointer (some ⟨b2, 0, none⟩)), (5, .pointer (some ⟨b5, 0, none⟩)), (6, .pointer (some ⟨b6, 0, none⟩)), (7, .int .i64 0)]) (fun mm env bx hp => ∃ (i : Nat) (cs : List (List Int)) (r : List UInt8) (g : Nat → Option Nat) (c : Nat → Nat), mm = 15 - i ∧ i ≤ 15 ∧
      env = [(0, str r), (2, .pointer (some ⟨b2, 0, none⟩)), (5, .pointer (some ⟨b5, 0, none⟩)), (6, .pointer (some ⟨b6, 0, none⟩)), (7, .int .i64 i)] ∧ bx = [(b6, 78, cellG cs g c i), (b5, 27, [sv none 0 0, sv none 0 0, sv none 0 0, sv none 0 0, .int .i64 n]), (b2, 27, [sv none 0 0, sv none 0 0, sv none 0 0, sv none 0 0, .int .i64 0])] ∧ hp = rowsG 2 cs g c i ∧ getSeq (mosts.take i) (s.drop a) = (cs, r, 0)) rfl
      ⟨0, [], s.drop a, fun _ => none, fun _ => 0, rfl, by omega, rfl, rfl, rfl, rfl⟩ ⟨rfl, rfl, rfl, rfl, rfl, trivial⟩ ?_
    rintro mm env bx hp ⟨i, cs, r, g, c, rfl, hi, rfl, rfl, rfl, hseq⟩ ih
    obtain ⟨hcl, hrl, -⟩ := getSeq_in hseq
    have hcl : cs.length = i := by rw [hcl, List.length_take]; simp [mosts]; omega
    rw [List.length_drop] at hrl
    by_cases hlt : i < 15
    · have hmg := mosts_get hlt
      refine At.cutAll (ι := {m : Nat // mosts[i]? = some m ∧ m ≤ 65536}) ⟨3, [0, 1, 1, 0, 0, 1, 0, 0, 1, 0, 1, 1, 1, 1, 1, 1], [2, 3, 4, 5, 6, 7, 8, 9]⟩ (fun m => [(0, str r), (2, .pointer (some ⟨b2, 0, none⟩)), (5, .pointer (some ⟨b5, 0, none⟩)), (6, .pointer (some ⟨b6, 0, none⟩)), (7, .int .i64 i), (57, str r), (58, .int .i64 (m.1 : Nat))]) (fun _ => [(b6, 78, cellG cs g c i), (b5, 27, [sv none 0 0, sv none 0 0, sv none 0 0, sv none 0 0, .int .i64 n]), (b2, 27, [sv none 0 0, sv none 0 0, sv none 0 0, sv none 0 0, .int .i64 0])]) (fun _ => rowsG 2 cs g c i) ?_ (fun hz => ?_)
      · rintro ⟨m, hm, hm2⟩
        have hcg := fun w' => Tryz.rGet_w ⟨r.toArray⟩ m w' hm2 (by rw [bl_str]; omega)
        simp only [bl_str] at hcg
        have hca := colG_a r m
        obtain ⟨x, k, ee, hGc⟩ : ∃ c k ee, colG r m = (c, k, ee) := ⟨_, _, _, rfl⟩
        rw [hGc] at hcg hca
        simp only at hcg hca
        refine At.step [] rfl rfl rfl rfl rfl trivial (OpOk.call rfl (fun w' _ => hcg w') ?_)
        rintro v bx' hp' ⟨cg, cc, rfl, rfl, rfl⟩
        have hk2 : (k : Int) ≤ ((bl ⟨r.toArray⟩).length : Int) := by rw [bl_str]; omega
        have hsn := getSeq_snoc m hseq
        rw [hGc, ← mosts_take hm] at hsn
        simp only at hsn
        by_cases hee : ee = 0
        · subst hee
          rw [if_neg (by simp)] at hsn
          refine At.run 100 true [false] [] rfl (by (repeat' apply And.intro) <;> first | exact True.intro | omega | (simp only [inK]; omega) | (simp; done) | (simp; omega) | exact decide_eq_true (by omega) | exact decide_eq_false (by omega) | rfl | (simp [Value.oneCell']; done) | exact i64s_one _ | exact AggOk.mk (by kernel_rfl) (by kernel_rfl)) ?_
          refine At.step0 [] rfl rfl rfl rfl trivial (OpOk.storeBlk 0 rfl rfl rfl rfl rfl rfl (by rw [cellG_len]; simp only [List.length_cons, List.length_nil]; omega) ?_)
          refine At.run 100 true [] [] rfl (by (repeat' apply And.intro) <;> first | exact True.intro | omega | (simp only [inK]; omega) | (simp; done) | (simp; omega) | exact decide_eq_true (by omega) | exact decide_eq_false (by omega) | rfl | (simp [Value.oneCell']; done) | exact i64s_one _ | exact AggOk.mk (by kernel_rfl) (by kernel_rfl)) ?_
          refine At.weak (ih (15 - (i + 1)) _ _ _ (by omega) ⟨i + 1, cs ++ [x], r.drop k, _, _, rfl, by omega, rfl, ?_, rowsG_snoc hcl cg cc, hsn⟩) ⟨rfl, rfl, rfl, rfl, some_int_eq (by omega), trivial⟩
          rw [← cellG_set hcl hlt cg cc, show 0 + (i : Int).toNat * 1 = i by omega]; rfl
        · rw [if_pos hee] at hsn
          have hfull : (getSeq mosts (s.drop a)).2.2 = ee := by
            have := getSeq_bad (mosts.drop (i + 1)) (ms := mosts.take (i + 1)) (s := s.drop a) (by rw [hsn]; exact hee)
            rw [List.take_append_drop, hsn] at this; exact this
          obtain ⟨c9, r9, e9, h9⟩ : ∃ p1 p2 p3, getSeq mosts (s.drop a) = (p1, p2, p3) := ⟨_, _, _, rfl⟩
          rw [h9] at hfull
          simp only at hfull
          subst hfull
          have hb := (getBk_seq hN h9).1 hee
          refine At.run 100 true [true] [hB 2] rfl (by (repeat' apply And.intro) <;> first | simp [Value.oneCell', sv]; done | exact True.intro | omega | rfl | (simp only [inK]; omega) | exact decide_eq_true (by omega) | exact decide_eq_false (by omega) | (simp; done) | (simp; omega) | (simp [Value.oneCell']; done) | exact i64s_one _ | exact AggOk.mk (by kernel_rfl) (by kernel_rfl)) ?_
          refine At.keep [true, true, true] [] (by simp only [forceL_eq]; exact Prod.ext rfl (selL_none _)) ?_
          refine At.nilRow 46 4 ?_
          refine At.nilRow 51 3 ?_
          refine At.nilRow 56 6 ?_
          refine At.nilRow 61 2 ?_
          exact At.retK [] [true, true, true, true] [hB 2] rfl rfl Tryz.func13 rfl (by (repeat' apply And.intro) <;> first | exact True.intro | omega | (simp only [inK]; omega) | (simp; done) | (simp; omega) | exact decide_eq_true (by omega) | exact decide_eq_false (by omega) | rfl | (simp [Value.oneCell']; done) | exact i64s_one _ | exact AggOk.mk (by kernel_rfl) (by kernel_rfl)) ⟨⟨none, none, none, none, 0, 0, 0, 0⟩, by rw [hb]; rfl, rfl, by rw [hb]; rfl⟩
      · by_cases h4 : i < 4
        · refine At.run 100 true [true, false, false, false, false] [] rfl (by (repeat' apply And.intro) <;> first | exact True.intro | omega | (simp only [inK]; omega) | (simp; done) | (simp; omega) | exact decide_eq_true (by omega) | exact decide_eq_false (by omega) | rfl | (simp [Value.oneCell']; done) | exact i64s_one _ | exact AggOk.mk (by kernel_rfl) (by kernel_rfl)) ?_
          exact At.weak (hz ⟨32, by rw [hmg, if_neg (by omega), if_neg (by omega)], by omega⟩) ⟨rfl, rfl, rfl, rfl, rfl, rfl, rfl, trivial⟩
        · by_cases h7 : i < 7
          · refine At.run 100 true [true, true, true] [] rfl (by (repeat' apply And.intro) <;> first | exact True.intro | omega | (simp only [inK]; omega) | (simp; done) | (simp; omega) | exact decide_eq_true (by omega) | exact decide_eq_false (by omega) | rfl | (simp [Value.oneCell']; done) | exact i64s_one _ | exact AggOk.mk (by kernel_rfl) (by kernel_rfl)) ?_
            exact At.weak (hz ⟨1024, by rw [hmg, if_pos (by omega)], by omega⟩) ⟨rfl, rfl, rfl, rfl, rfl, rfl, rfl, trivial⟩
          · by_cases h13 : i < 13
            · refine At.run 100 true [true, true, false, true, true] [] rfl (by (repeat' apply And.intro) <;> first | exact True.intro | omega | (simp only [inK]; omega) | (simp; done) | (simp; omega) | exact decide_eq_true (by omega) | exact decide_eq_false (by omega) | rfl | (simp [Value.oneCell']; done) | exact i64s_one _ | exact AggOk.mk (by kernel_rfl) (by kernel_rfl)) ?_
              exact At.weak (hz ⟨64, by rw [hmg, if_neg (by omega), if_pos (by omega)], by omega⟩) ⟨rfl, rfl, rfl, rfl, rfl, rfl, rfl, trivial⟩
            · refine At.run 100 true [true, true, false, true, false] [] rfl (by (repeat' apply And.intro) <;> first | exact True.intro | omega | (simp only [inK]; omega) | (simp; done) | (simp; omega) | exact decide_eq_true (by omega) | exact decide_eq_false (by omega) | rfl | (simp [Value.oneCell']; done) | exact i64s_one _ | exact AggOk.mk (by kernel_rfl) (by kernel_rfl)) ?_
              exact At.weak (hz ⟨32, by rw [hmg, if_neg (by omega), if_neg (by omega)], by omega⟩) ⟨rfl, rfl, rfl, rfl, rfl, rfl, rfl, trivial⟩
    · have : i = 15 := by omega
      subst this
      rw [show mosts.take 15 = mosts from rfl] at hseq
      obtain ⟨x0, x1, x2, x3, y0, y1, y2, z0, z1, z2, z3, z4, z5, v0, v1, hcs, hin, hb9⟩ := (getBk_seq hN hseq).2 rfl
      obtain ⟨-, -, hmo⟩ := getSeq_in hseq
      clear ih hlt
      by_cases hr : r = []
      · subst hr
        refine At.run 100 true [false, false] [] rfl (by (repeat' apply And.intro) <;> first | exact True.intro | omega | (simp only [inK]; omega) | (simp; done) | (simp; omega) | exact decide_eq_true (by omega) | exact decide_eq_false (by omega) | rfl | (simp [Value.oneCell']; done) | exact i64s_one _ | exact AggOk.mk (by kernel_rfl) (by kernel_rfl)) ?_
        refine At.loop (n := 15) (env0 := [(2, .pointer (some ⟨b2, 0, none⟩)), (5, .pointer (some ⟨b5, 0, none⟩)), (6, .pointer (some ⟨b6, 0, none⟩)), (12, .int .i64 0)]) (fun mm env bx hp => ∃ (i : Nat), mm = 15 - i ∧ i ≤ 15 ∧
          env = [(2, .pointer (some ⟨b2, 0, none⟩)), (5, .pointer (some ⟨b5, 0, none⟩)), (6, .pointer (some ⟨b6, 0, none⟩)), (12, .int .i64 i)] ∧ bx = [(b6, 78, cellG cs g c 15), (b5, 27, [sv none 0 0, sv none 0 0, sv none 0 0, sv none 0 0, .int .i64 n]), (b2, 27, [sv none 0 0, sv none 0 0, sv none 0 0, sv none 0 0, .int .i64 0])] ∧ hp = rowsG 2 cs g c 15 ∧ ∀ k, k < i → lenK cs k = lenK cs (grp k)) rfl
          ⟨0, rfl, by omega, rfl, rfl, rfl, fun k hk => by omega⟩ ⟨rfl, rfl, rfl, rfl, trivial⟩ ?_
        rintro mm env bx hp ⟨i, rfl, hi, rfl, rfl, rfl, hev⟩ ih
        by_cases hlt : i < 15
        · have hgi : grp i ≤ i := by unfold grp; split <;> (try split) <;> (try split) <;> omega
          refine At.cutAll (ι := Unit) ⟨0, [0, 1, 1, 1, 1, 0, 0, 1, 0, 0, 1, 0, 1, 1, 1, 1, 1, 1, 1, 1], []⟩ (fun _ => [(2, .pointer (some ⟨b2, 0, none⟩)), (5, .pointer (some ⟨b5, 0, none⟩)), (6, .pointer (some ⟨b6, 0, none⟩)), (12, .int .i64 i), (13, .int .i64 (grp i : Nat))]) (fun _ => [(b6, 78, cellG cs g c 15), (b5, 27, [sv none 0 0, sv none 0 0, sv none 0 0, sv none 0 0, .int .i64 n]), (b2, 27, [sv none 0 0, sv none 0 0, sv none 0 0, sv none 0 0, .int .i64 0])]) (fun _ => rowsG 2 cs g c 15) ?_ (fun hz => ?_)
          · rintro -
            have ra : ∀ {bx : Bx} {hp : List Seg}, RdW ⟨w, kys [] []⟩ ((b6, 78, cellG cs g c 15) :: bx) hp b6 (0 + (i : Int).toNat * 1) [sv (g i) (lenK cs i) (c i)] := fun {_ _} => RdW.blk (i := 0) rfl (fun j u hu => by
              match j, hu with
              | 0, hu => simp only [List.getElem?_cons_zero, Option.some.injEq] at hu; subst hu; rw [show 0 + (i : Int).toNat * 1 + 0 = i by omega]; exact cellG_get hlt (by omega))
            have rb : ∀ {bx : Bx} {hp : List Seg}, RdW ⟨w, kys [] []⟩ ((b6, 78, cellG cs g c 15) :: bx) hp b6 (0 + (grp i : Int).toNat * 1) [sv (g (grp i)) (lenK cs (grp i)) (c (grp i))] := fun {_ _} => RdW.blk (i := 0) rfl (fun j u hu => by
              match j, hu with
              | 0, hu => simp only [List.getElem?_cons_zero, Option.some.injEq] at hu; subst hu; rw [show 0 + (grp i : Int).toNat * 1 + 0 = grp i by omega]; exact cellG_get (by omega) (by omega))
            refine At.quiet true [] [hR [sv (g i) (lenK cs i) (c i)], hR [sv (g (grp i)) (lenK cs (grp i)) (c (grp i))]] ⟨by kernel_rfl, by kernel_rfl, rfl, rfl, rfl⟩ rfl rfl rfl (by (repeat' apply And.intro) <;> first | exact ra | exact rb | exact True.intro | omega | rfl | (simp only [inK]; omega) | exact decide_eq_true (by omega) | exact decide_eq_false (by omega) | (simp; done) | (simp; omega) | (simp [Value.oneCell']; done) | exact i64s_one _ | exact AggOk.mk (by kernel_rfl) (by kernel_rfl)) ?_
            by_cases he : lenK cs i = lenK cs (grp i)
            · refine At.run 100 true [false] [] rfl (by (repeat' apply And.intro) <;> first | simp [he]; done | exact True.intro | omega | rfl | (simp only [inK]; omega) | exact decide_eq_true (by omega) | exact decide_eq_false (by omega) | (simp; done) | (simp; omega) | (simp [Value.oneCell']; done) | exact i64s_one _ | exact AggOk.mk (by kernel_rfl) (by kernel_rfl)) ?_
              refine At.weak (ih (15 - (i + 1)) _ _ _ (by omega) ⟨i + 1, rfl, by omega, rfl, rfl, rfl, fun k hk => ?_⟩) ⟨rfl, rfl, rfl, some_int_eq (by omega), trivial⟩
              by_cases hki : k = i
              · subst hki; exact he
              · exact hev k (by omega)
            · have hb : getBk s = (zeroBk, 3) := by
                rw [hb9, if_neg]
                rintro ⟨-, v1', v2', v3', v4', -⟩
                apply he
                subst hcs
                simp only [evenB, List.all_cons, List.all_nil, Bool.and_true, Bool.and_eq_true, decide_eq_true_eq] at v1' v2' v3' v4'
                match i, hlt with
                | 0, _ | 4, _ | 7, _ | 13, _ => rfl
                | 1, _ => exact v1'.1
                | 2, _ => exact v1'.2.1
                | 3, _ => exact v1'.2.2
                | 5, _ => exact v2'.1
                | 6, _ => exact v2'.2
                | 8, _ => exact v3'.1
                | 9, _ => exact v3'.2.1
                | 10, _ => exact v3'.2.2.1
                | 11, _ => exact v3'.2.2.2.1
                | 12, _ => exact v3'.2.2.2.2
                | 14, _ => exact v4'
              refine At.run 100 true [true] [hB 2] rfl (by (repeat' apply And.intro) <;> first | simp [he]; done | simp [Value.oneCell', sv]; done | exact True.intro | omega | rfl | (simp only [inK]; omega) | exact decide_eq_true (by omega) | exact decide_eq_false (by omega) | (simp; done) | (simp; omega) | (simp [Value.oneCell']; done) | exact i64s_one _ | exact AggOk.mk (by kernel_rfl) (by kernel_rfl)) ?_
              refine At.keep [true, true, true] [] (by simp only [forceL_eq]; exact Prod.ext rfl (selL_none _)) ?_
              refine At.nilRow 46 4 ?_
              refine At.nilRow 51 3 ?_
              refine At.nilRow 56 6 ?_
              refine At.nilRow 61 2 ?_
              exact At.retK [] [true, true, true, true] [hB 2] rfl rfl Tryz.func13 rfl (by (repeat' apply And.intro) <;> first | exact True.intro | omega | (simp only [inK]; omega) | (simp; done) | (simp; omega) | exact decide_eq_true (by omega) | exact decide_eq_false (by omega) | rfl | (simp [Value.oneCell']; done) | exact i64s_one _ | exact AggOk.mk (by kernel_rfl) (by kernel_rfl)) ⟨⟨none, none, none, none, 0, 0, 0, 0⟩, by rw [hb]; rfl, rfl, by rw [hb]; rfl⟩
          · by_cases h4 : i < 4
            · refine At.run 100 true [true, false, false, false] [] rfl (by (repeat' apply And.intro) <;> first | exact True.intro | omega | (simp only [inK]; omega) | (simp; done) | (simp; omega) | exact decide_eq_true (by omega) | exact decide_eq_false (by omega) | rfl | (simp [Value.oneCell']; done) | exact i64s_one _ | exact AggOk.mk (by kernel_rfl) (by kernel_rfl)) ?_
              exact At.weak (hz ()) ⟨rfl, rfl, rfl, rfl, some_int_eq (by unfold grp; rw [if_pos h4]; rfl), trivial⟩
            · by_cases h7 : i < 7
              · refine At.run 100 true [true, true, false, false] [] rfl (by (repeat' apply And.intro) <;> first | exact True.intro | omega | (simp only [inK]; omega) | (simp; done) | (simp; omega) | exact decide_eq_true (by omega) | exact decide_eq_false (by omega) | rfl | (simp [Value.oneCell']; done) | exact i64s_one _ | exact AggOk.mk (by kernel_rfl) (by kernel_rfl)) ?_
                exact At.weak (hz ()) ⟨rfl, rfl, rfl, rfl, some_int_eq (by unfold grp; rw [if_neg h4, if_pos h7]; rfl), trivial⟩
              · by_cases h13 : i < 13
                · refine At.run 100 true [true, true, true, false] [] rfl (by (repeat' apply And.intro) <;> first | exact True.intro | omega | (simp only [inK]; omega) | (simp; done) | (simp; omega) | exact decide_eq_true (by omega) | exact decide_eq_false (by omega) | rfl | (simp [Value.oneCell']; done) | exact i64s_one _ | exact AggOk.mk (by kernel_rfl) (by kernel_rfl)) ?_
                  exact At.weak (hz ()) ⟨rfl, rfl, rfl, rfl, some_int_eq (by unfold grp; rw [if_neg h4, if_neg h7, if_pos h13]; rfl), trivial⟩
                · refine At.run 100 true [true, true, true, true] [] rfl (by (repeat' apply And.intro) <;> first | exact True.intro | omega | (simp only [inK]; omega) | (simp; done) | (simp; omega) | exact decide_eq_true (by omega) | exact decide_eq_false (by omega) | rfl | (simp [Value.oneCell']; done) | exact i64s_one _ | exact AggOk.mk (by kernel_rfl) (by kernel_rfl)) ?_
                  exact At.weak (hz ()) ⟨rfl, rfl, rfl, rfl, some_int_eq (by unfold grp; rw [if_neg h4, if_neg h7, if_neg h13]; rfl), trivial⟩
        · have : i = 15 := by omega
          subst this
          refine At.run 100 true [false] [] rfl (by (repeat' apply And.intro) <;> first | exact True.intro | omega | (simp only [inK]; omega) | (simp; done) | (simp; omega) | exact decide_eq_true (by omega) | exact decide_eq_false (by omega) | rfl | (simp [Value.oneCell']; done) | exact i64s_one _ | exact AggOk.mk (by kernel_rfl) (by kernel_rfl)) ?_
          clear ih hlt
          subst hcs
          have l1 : x1.length = x0.length := hev 1 (by omega)
          have l2 : x2.length = x0.length := hev 2 (by omega)
          have l3 : x3.length = x0.length := hev 3 (by omega)
          have l5 : y1.length = y0.length := hev 5 (by omega)
          have l6 : y2.length = y0.length := hev 6 (by omega)
          have l8 : z1.length = z0.length := hev 8 (by omega)
          have l9 : z2.length = z0.length := hev 9 (by omega)
          have l10 : z3.length = z0.length := hev 10 (by omega)
          have l11 : z4.length = z0.length := hev 11 (by omega)
          have l12 : z5.length = z0.length := hev 12 (by omega)
          have l14 : v1.length = v0.length := hev 14 (by omega)
          have m1 : x0.length ≤ 32 := hmo 0 x0 rfl
          have m2 : y0.length ≤ 1024 := hmo 4 y0 rfl
          have m3 : z0.length ≤ 64 := hmo 7 z0 rfl
          have m4 : v0.length ≤ 32 := hmo 13 v0 rfl
          have hinn : ∀ (l : List (List Int)), (∀ c, c ∈ l → c ∈ [x0, x1, x2, x3, y0, y1, y2, z0, z1, z2, z3, z4, z5, v0, v1]) → ∀ c, c ∈ l → ∀ x, x ∈ c → inK .i64 x := fun l hl c hc => hin c (hl c hc)
          obtain ⟨bk, hbkd⟩ : ∃ bk : Bk, bk = ⟨listT 4 [x0, x1, x2, x3], listT 3 [y0, y1, y2], listT 6 [z0, z1, z2, z3, z4, z5], listT 2 [v0, v1], n⟩ := ⟨_, rfl⟩
          have hb0 : getBk s = if mayB bk = true then (bk, 0) else (zeroBk, 3) := by
            rw [hb9, ← hbkd]
            have e1 : evenB [x0, x1, x2, x3] = true := by simp [evenB, l1, l2, l3]
            have e2 : evenB [y0, y1, y2] = true := by simp [evenB, l5, l6]
            have e3 : evenB [z0, z1, z2, z3, z4, z5] = true := by simp [evenB, l8, l9, l10, l11, l12]
            have e4 : evenB [v0, v1] = true := by simp [evenB, l14]
            by_cases hm : mayB bk = true
            · rw [if_pos hm, if_pos ⟨rfl, e1, e2, e3, e4, hm⟩]
            · rw [if_neg hm, if_neg (fun h => hm h.2.2.2.2.2)]
          have hbk : BkIn bk := by
            rw [hbkd]
            refine ⟨rowsT_recs (hinn _ (by simp)), rowsT_recs (hinn _ (by simp)), rowsT_recs (hinn _ (by simp)), rowsT_recs (hinn _ (by simp)), ?_, ?_, ?_, ?_, ?_⟩
            all_goals first | (simp only [listT, rowsT_len, firstN]; omega) | (simp only [inK]; omega)
          have hval : ∀ {h0 h1 h2 h3 : Option Nat} {d0 d1 d2 d3 : Nat}, bkV bk (BkG.A ⟨h0, h1, h2, h3, d0, d1, d2, d3⟩) = [sv h0 x0.length d0, sv h1 y0.length d1, sv h2 z0.length d2, sv h3 v0.length d3, .int .i64 n] := by
            intros; rw [hbkd]; simp only [bkV, listT, rowsT_len, firstN] <;> rfl
          have hrows : ∀ {h0 h1 h2 h3 : Option Nat} {d0 d1 d2 d3 : Nat}, Tryz.bkRows bk ⟨h0, h1, h2, h3, d0, d1, d2, d3⟩ = [Seg.row h3 61 2 v0.length d3 ((rowsT 2 v0.length [v0, v1]).flatMap i64s), Seg.row h2 56 6 z0.length d2 ((rowsT 6 z0.length [z0, z1, z2, z3, z4, z5]).flatMap i64s), Seg.row h1 51 3 y0.length d1 ((rowsT 3 y0.length [y0, y1, y2]).flatMap i64s), Seg.row h0 46 4 x0.length d0 ((rowsT 4 x0.length [x0, x1, x2, x3]).flatMap i64s)] := by
            intros; rw [hbkd]; simp only [Tryz.bkRows, listT, rowsT_len, firstN]
          clear hb9 hbkd hev hin hinn hmo hseq
          rw [show cellG [x0, x1, x2, x3, y0, y1, y2, z0, z1, z2, z3, z4, z5, v0, v1] g c 15 = [sv (g 0) x0.length (c 0), sv (g 1) x1.length (c 1), sv (g 2) x2.length (c 2), sv (g 3) x3.length (c 3), sv (g 4) y0.length (c 4), sv (g 5) y1.length (c 5), sv (g 6) y2.length (c 6), sv (g 7) z0.length (c 7), sv (g 8) z1.length (c 8), sv (g 9) z2.length (c 9), sv (g 10) z3.length (c 10), sv (g 11) z4.length (c 11), sv (g 12) z5.length (c 12), sv (g 13) v0.length (c 13), sv (g 14) v1.length (c 14)] from rfl, show rowsG 2 [x0, x1, x2, x3, y0, y1, y2, z0, z1, z2, z3, z4, z5, v0, v1] g c 15 = [Seg.row (g 14) 2 1 v1.length (c 14) (i64s v1), Seg.row (g 13) 2 1 v0.length (c 13) (i64s v0), Seg.row (g 12) 2 1 z5.length (c 12) (i64s z5), Seg.row (g 11) 2 1 z4.length (c 11) (i64s z4), Seg.row (g 10) 2 1 z3.length (c 10) (i64s z3), Seg.row (g 9) 2 1 z2.length (c 9) (i64s z2), Seg.row (g 8) 2 1 z1.length (c 8) (i64s z1), Seg.row (g 7) 2 1 z0.length (c 7) (i64s z0), Seg.row (g 6) 2 1 y2.length (c 6) (i64s y2), Seg.row (g 5) 2 1 y1.length (c 5) (i64s y1), Seg.row (g 4) 2 1 y0.length (c 4) (i64s y0), Seg.row (g 3) 2 1 x3.length (c 3) (i64s x3), Seg.row (g 2) 2 1 x2.length (c 2) (i64s x2), Seg.row (g 1) 2 1 x1.length (c 1) (i64s x1), Seg.row (g 0) 2 1 x0.length (c 0) (i64s x0)] from rfl]
          generalize g 0 = G0, g 1 = G1, g 2 = G2, g 3 = G3, g 4 = G4, g 5 = G5, g 6 = G6, g 7 = G7, g 8 = G8, g 9 = G9, g 10 = G10, g 11 = G11, g 12 = G12, g 13 = G13, g 14 = G14
          refine At.nilRow 46 4 ?_
          refine At.nilRow 51 3 ?_
          refine At.nilRow 56 6 ?_
          refine At.nilRow 61 2 ?_
          refine At.weak (Tryz.rg13_H w b2 b5 b6 n (by omega) l1 l2 l3 (fun h0 d0 => ?_)) ⟨rfl, rfl, rfl, rfl, trivial⟩
          refine Tryz.rg13_S w b2 b5 b6 n h0 d0 (by omega) l5 l6 (fun h1 d1 => ?_)
          refine Tryz.rg13_O w b2 b5 b6 n h0 d0 h1 d1 (by omega) l8 l9 l10 l11 l12 (fun h2 d2 => ?_)
          refine Tryz.rg13_R w b2 b5 b6 n h0 d0 h1 d1 h2 d2 (by omega) l14 (fun h3 d3 => ?_)
          have hM : CallOb Tryz.prog ⟨w, kys [] []⟩ [(b6, 78, [sv G0 x0.length (c 0), sv G1 x1.length (c 1), sv G2 x2.length (c 2), sv G3 x3.length (c 3), sv G4 y0.length (c 4), sv G5 y1.length (c 5), sv G6 y2.length (c 6), sv G7 z0.length (c 7), sv G8 z1.length (c 8), sv G9 z2.length (c 9), sv G10 z3.length (c 10), sv G11 z4.length (c 11), sv G12 z5.length (c 12), sv G13 v0.length (c 13), sv G14 v1.length (c 14)]), (b5, 27, [sv h0 x0.length d0, sv h1 y0.length d1, sv h2 z0.length d2, sv h3 v0.length d3, .int .i64 n]), (b2, 27, [sv none 0 0, sv none 0 0, sv none 0 0, sv none 0 0, .int .i64 0])] [Seg.row h3 61 2 v0.length d3 ((rowsT 2 v0.length [v0, v1]).flatMap i64s), Seg.row h2 56 6 z0.length d2 ((rowsT 6 z0.length [z0, z1, z2, z3, z4, z5]).flatMap i64s), Seg.row h1 51 3 y0.length d1 ((rowsT 3 y0.length [y0, y1, y2]).flatMap i64s), Seg.row h0 46 4 x0.length d0 ((rowsT 4 x0.length [x0, x1, x2, x3]).flatMap i64s), Seg.row G14 2 1 v1.length (c 14) (i64s v1), Seg.row G13 2 1 v0.length (c 13) (i64s v0), Seg.row G12 2 1 z5.length (c 12) (i64s z5), Seg.row G11 2 1 z4.length (c 11) (i64s z4), Seg.row G10 2 1 z3.length (c 10) (i64s z3), Seg.row G9 2 1 z2.length (c 9) (i64s z2), Seg.row G8 2 1 z1.length (c 8) (i64s z1), Seg.row G7 2 1 z0.length (c 7) (i64s z0), Seg.row G6 2 1 y2.length (c 6) (i64s y2), Seg.row G5 2 1 y1.length (c 5) (i64s y1), Seg.row G4 2 1 y0.length (c 4) (i64s y0), Seg.row G3 2 1 x3.length (c 3) (i64s x3), Seg.row G2 2 1 x2.length (c 2) (i64s x2), Seg.row G1 2 1 x1.length (c 1) (i64s x1), Seg.row G0 2 1 x0.length (c 0) (i64s x0)] 9 [.agg ⟨[sv h0 x0.length d0, sv h1 y0.length d1, sv h2 z0.length d2, sv h3 v0.length d3, .int .i64 n]⟩] (.bool (mayB bk)) := fun w' hw' => by
            have := Tryz.rMay_w bk (BkG.A ⟨h0, h1, h2, h3, d0, d1, d2, d3⟩) w' hbk (Tryz.bkRows_ok hw' (fun s hs => by rw [hrows] at hs; exact List.mem_append_left _ hs))
            rw [hval] at this; exact this
          cases hm : mayB bk with
          | true =>
            rw [hm] at hM
            have hb : getBk s = (bk, 0) := by rw [hb0, if_pos hm]
            refine At.run 100 true [false] [hB 1, hC (.bool true), hB 1, hB 2] rfl (by (repeat' apply And.intro) <;> first | exact hM | simp [Value.oneCell', sv]; done | exact True.intro | omega | rfl | (simp only [inK]; omega) | exact decide_eq_true (by omega) | exact decide_eq_false (by omega) | (simp; done) | (simp; omega) | (simp [Value.oneCell']; done) | exact i64s_one _ | exact AggOk.mk (by kernel_rfl) (by kernel_rfl)) ?_
            exact At.retK [] [true, true, true, true] [hB 2] rfl rfl Tryz.func13 rfl (by (repeat' apply And.intro) <;> first | exact True.intro | omega | (simp only [inK]; omega) | (simp; done) | (simp; omega) | exact decide_eq_true (by omega) | exact decide_eq_false (by omega) | rfl | (simp [Value.oneCell']; done) | exact i64s_one _ | exact AggOk.mk (by kernel_rfl) (by kernel_rfl)) ⟨⟨h0, h1, h2, h3, d0, d1, d2, d3⟩, by rw [hb, hval] <;> rfl, rfl, by rw [hb, hrows] <;> rfl⟩
          | false =>
            rw [hm] at hM
            have hb : getBk s = (zeroBk, 3) := by rw [hb0, if_neg (by rw [hm]; simp)]
            refine At.run 100 true [true] [hB 1, hC (.bool false), hB 2] rfl (by (repeat' apply And.intro) <;> first | exact hM | simp [Value.oneCell', sv]; done | exact True.intro | omega | rfl | (simp only [inK]; omega) | exact decide_eq_true (by omega) | exact decide_eq_false (by omega) | (simp; done) | (simp; omega) | (simp [Value.oneCell']; done) | exact i64s_one _ | exact AggOk.mk (by kernel_rfl) (by kernel_rfl)) ?_
            refine At.keep [true, true, true] [] (by simp only [forceL_eq]; exact Prod.ext rfl (selL_none _)) ?_
            refine At.nilRow 46 4 ?_
            refine At.nilRow 51 3 ?_
            refine At.nilRow 56 6 ?_
            refine At.nilRow 61 2 ?_
            exact At.retK [] [true, true, true, true] [hB 2] rfl rfl Tryz.func13 rfl (by (repeat' apply And.intro) <;> first | exact True.intro | omega | (simp only [inK]; omega) | (simp; done) | (simp; omega) | exact decide_eq_true (by omega) | exact decide_eq_false (by omega) | rfl | (simp [Value.oneCell']; done) | exact i64s_one _ | exact AggOk.mk (by kernel_rfl) (by kernel_rfl)) ⟨⟨none, none, none, none, 0, 0, 0, 0⟩, by rw [hb]; rfl, rfl, by rw [hb]; rfl⟩
      · have hb : getBk s = (zeroBk, 3) := by rw [hb9, if_neg (fun h => hr h.1)]
        refine At.run 100 true [false, true] [hB 2] rfl (by (repeat' apply And.intro) <;> first | simp [hr]; done | simp [Value.oneCell', sv]; done | exact True.intro | omega | rfl | (simp only [inK]; omega) | exact decide_eq_true (by omega) | exact decide_eq_false (by omega) | (simp; done) | (simp; omega) | (simp [Value.oneCell']; done) | exact i64s_one _ | exact AggOk.mk (by kernel_rfl) (by kernel_rfl)) ?_
        refine At.keep [true, true, true] [] (by simp only [forceL_eq]; exact Prod.ext rfl (selL_none _)) ?_
        refine At.nilRow 46 4 ?_
        refine At.nilRow 51 3 ?_
        refine At.nilRow 56 6 ?_
        refine At.nilRow 61 2 ?_
        exact At.retK [] [true, true, true, true] [hB 2] rfl rfl Tryz.func13 rfl (by (repeat' apply And.intro) <;> first | exact True.intro | omega | (simp only [inK]; omega) | (simp; done) | (simp; omega) | exact decide_eq_true (by omega) | exact decide_eq_false (by omega) | rfl | (simp [Value.oneCell']; done) | exact i64s_one _ | exact AggOk.mk (by kernel_rfl) (by kernel_rfl)) ⟨⟨none, none, none, none, 0, 0, 0, 0⟩, by rw [hb]; rfl, rfl, by rw [hb]; rfl⟩
  · have hb : getBk s = (zeroBk, e0) := by unfold getBk; rw [hN]; simp only; rw [if_pos he0]
    refine At.run 100 true [true] [hB 0, hB 1] rfl (by (repeat' apply And.intro) <;> first | simp [Value.oneCell', sv]; done | exact True.intro | omega | rfl | (simp only [inK]; omega) | exact decide_eq_true (by omega) | exact decide_eq_false (by omega) | (simp; done) | (simp; omega) | (simp [Value.oneCell']; done) | exact i64s_one _ | exact AggOk.mk (by kernel_rfl) (by kernel_rfl)) ?_
    refine At.draw 7 rfl rfl rfl rfl ?_
    refine AtD.pures (ob := True) true (by kernel_rfl) [0, 1, 2, 3] (fuel := 3) (by kernel_rfl) rfl (by (repeat' apply And.intro) <;> first | exact True.intro | omega | (simp only [inK]; omega) | (simp; done) | (simp; omega) | exact decide_eq_true (by omega) | exact decide_eq_false (by omega) | rfl | (simp [Value.oneCell']; done) | exact i64s_one _ | exact AggOk.mk (by kernel_rfl) (by kernel_rfl)) ?_
    refine AtD.fork2 4 5 (by kernel_rfl) ?_ ?_
    · refine StepD.by [] rfl rfl rfl rfl trivial (OpOk.one true [] [hB 1] rfl rfl ?_)
      refine AtD.fork1 5 (by kernel_rfl) (StepD.by0 [] rfl rfl rfl trivial (OpOk.one true [] [hB 2] rfl (by (repeat' apply And.intro) <;> first | simp [Value.oneCell', sv]; done | exact True.intro | omega | rfl | (simp only [inK]; omega) | exact decide_eq_true (by omega) | exact decide_eq_false (by omega) | (simp; done) | (simp; omega) | (simp [Value.oneCell']; done) | exact i64s_one _ | exact AggOk.mk (by kernel_rfl) (by kernel_rfl)) ?_))
      refine AtD.pures (ob := True) true (by kernel_rfl) [6] (fuel := 0) (by kernel_rfl) rfl trivial ?_
      refine AtD.done (by kernel_rfl) ?_
      refine At.run 100 true [] [] rfl trivial ?_
      refine At.keep [true, true, true] [] (by simp only [forceL_eq]; exact Prod.ext rfl (selL_none _)) ?_
      refine At.nilRow 46 4 ?_
      refine At.nilRow 51 3 ?_
      refine At.nilRow 56 6 ?_
      refine At.nilRow 61 2 ?_
      exact At.retK [] [true, true, true, true] [hB 2] rfl rfl Tryz.func13 rfl (by (repeat' apply And.intro) <;> first | exact True.intro | omega | (simp only [inK]; omega) | (simp; done) | (simp; omega) | exact decide_eq_true (by omega) | exact decide_eq_false (by omega) | rfl | (simp [Value.oneCell']; done) | exact i64s_one _ | exact AggOk.mk (by kernel_rfl) (by kernel_rfl)) ⟨⟨none, none, none, none, 0, 0, 0, 0⟩, by rw [hb]; rfl, rfl, by rw [hb]; rfl⟩
    · refine StepD.by0 [] rfl rfl rfl trivial (OpOk.one true [] [hB 2] rfl (by (repeat' apply And.intro) <;> first | simp [Value.oneCell', sv]; done | exact True.intro | omega | rfl | (simp only [inK]; omega) | exact decide_eq_true (by omega) | exact decide_eq_false (by omega) | (simp; done) | (simp; omega) | (simp [Value.oneCell']; done) | exact i64s_one _ | exact AggOk.mk (by kernel_rfl) (by kernel_rfl)) ?_)
      refine AtD.fork1 4 (by kernel_rfl) (StepD.by [] rfl rfl rfl rfl trivial (OpOk.one true [] [hB 1] rfl rfl ?_))
      refine AtD.pures (ob := True) true (by kernel_rfl) [6] (fuel := 0) (by kernel_rfl) rfl trivial ?_
      refine AtD.done (by kernel_rfl) ?_
      refine At.run 100 true [] [] rfl trivial ?_
      refine At.keep [true, true, true] [] (by simp only [forceL_eq]; exact Prod.ext rfl (selL_none _)) ?_
      refine At.nilRow 46 4 ?_
      refine At.nilRow 51 3 ?_
      refine At.nilRow 56 6 ?_
      refine At.nilRow 61 2 ?_
      exact At.retK [] [true, true, true, true] [hB 2] rfl rfl Tryz.func13 rfl (by (repeat' apply And.intro) <;> first | exact True.intro | omega | (simp only [inK]; omega) | (simp; done) | (simp; omega) | exact decide_eq_true (by omega) | exact decide_eq_false (by omega) | rfl | (simp [Value.oneCell']; done) | exact i64s_one _ | exact AggOk.mk (by kernel_rfl) (by kernel_rfl)) ⟨⟨none, none, none, none, 0, 0, 0, 0⟩, by rw [hb]; rfl, rfl, by rw [hb]; rfl⟩

end Go.Proofs

/-
  Walks of layer 13: its statements.
-/
namespace Go.Proofs
open Go Go.Eng
set_option maxRecDepth 100000
set_option maxHeartbeats 4000000
attribute [local irreducible] Tri

theorem getBk_zero (s : List UInt8) (h : (getBk s).2 ≠ 0) : (getBk s).1 = zeroBk := by
  unfold getBk at h ⊢
  split
  · rfl
  · rename_i h1
    rw [if_neg h1] at h
    simp only at h ⊢
    split
    · rfl
    · rename_i h2
      rw [if_neg h2] at h
      split
      · rfl
      · rename_i h3
        rw [if_neg h3] at h
        split
        · rfl
        · rename_i h4
          rw [if_neg h4] at h
          split
          · rfl
          · rename_i h5
            rw [if_neg h5] at h
            split
            · rename_i h6; rw [if_pos h6] at h; exact (h rfl).elim
            · rfl
theorem zeroBk_in : BkIn zeroBk := ⟨fun x hx => by simp [zeroBk] at hx, fun x hx => by simp [zeroBk] at hx, fun x hx => by simp [zeroBk] at hx, fun x hx => by simp [zeroBk] at hx, by simp [zeroBk], by simp [zeroBk], by simp [zeroBk], by simp [zeroBk], by simp [zeroBk, inK]⟩
theorem zeroBk_ok (w : World) : BkOk w zeroBk ⟨none, none, none, none, 0, 0, 0, 0⟩ := ⟨.inl rfl, .inl rfl, .inl rfl, .inl rfl⟩
theorem getBk_in (s : List UInt8) : BkIn (getBk s).1 := by
  by_cases h : (getBk s).2 = 0
  · exact (getBk_get (Prod.ext rfl h)).2.2.1
  · rw [getBk_zero s h]; exact zeroBk_in
theorem sameB_refl (b : Bk) : sameB b b = true := by simp [sameB]

def z16 : List UInt8 := [0, 0, 0, 0, 0, 0, 0, 0, 0, 0, 0, 0, 0, 0, 0, 0]
theorem may_zero : mayB zeroBk = true := by decide
theorem col_nil : colL [] = [0] := by
  have h : numL 0 = [0] := by rw [numL_small (by omega)]; rfl
  have h2 : rle (diffs 0 []) = [] := rfl
  simp only [colL, h2, List.length_nil, h]; rfl
theorem book_zero : bookB zeroBk = z16 := by
  have h : numL 0 = [0] := by rw [numL_small (by omega)]; rfl
  simp [bookB, zeroBk, putB, colOf, col_nil, h, List.range_succ, z16]
theorem get_z16 : getBk z16 = (zeroBk, 0) := by
  have := getBk_put may_zero zeroBk_in (by simp [zeroBk]) []
  rw [book_zero, List.append_nil, if_pos rfl] at this
  exact this

theorem Tryz.alive13_w (w : World) : Fun Tryz.prog 6 [] w (.bool true) := by
  refine Tri.enter (bx := []) (hp := []) Tryz.func6 rfl (by kernel_rfl) rfl (Own.nil w) ?_
  have hP : ∀ {bx : Bx} {hp : List Seg}, CallOb Tryz.prog ⟨w, kys [] []⟩ bx hp 8 [.agg ⟨bkV zeroBk ⟨none, none, none, none, 0, 0, 0, 0⟩⟩] (.tuple #[str z16, .int .i64 0]) := fun {_ _} w' hw' => by
    have := Tryz.snapPut_w zeroBk ⟨none, none, none, none, 0, 0, 0, 0⟩ w' zeroBk_in (zeroBk_ok w') (by simp [zeroBk])
    rw [may_zero, if_pos rfl, if_pos rfl, book_zero] at this; exact this
  refine At.run 100 true [] [hC (.tuple #[str z16, .int .i64 0])] rfl (by (repeat' apply And.intro) <;> first | exact hP | exact True.intro | omega | rfl | (simp only [inK]; omega) | exact decide_eq_true (by omega) | exact decide_eq_false (by omega) | (simp; done) | (simp; omega) | (simp [Value.oneCell']; done) | exact i64s_one _ | exact AggOk.mk (by kernel_rfl) (by kernel_rfl)) ?_
  have hg := fun w' => Tryz.snapGet_w z16 w' (by decide)
  rw [get_z16] at hg
  refine At.step [] rfl rfl rfl rfl rfl trivial (OpOk.call rfl (fun w' _ => hg w') ?_)
  rintro v bx' hp' ⟨G, rfl, rfl, rfl⟩
  refine At.run 100 true [] [] rfl (by (repeat' apply And.intro) <;> first | exact True.intro | omega | (simp only [inK]; omega) | (simp; done) | (simp; omega) | exact decide_eq_true (by omega) | exact decide_eq_false (by omega) | rfl | (simp [Value.oneCell']; done) | exact i64s_one _ | exact AggOk.mk (by kernel_rfl) (by kernel_rfl)) ?_
  refine At.step [] rfl rfl rfl rfl rfl trivial (OpOk.alloc (cs := [sv none 0 0, sv none 0 0, sv none 0 0, sv none 0 0, .int .i64 0]) rfl (by kernel_rfl) fun b3 hb3 => ?_)
  have hS : ∀ {bx : Bx}, CallOb Tryz.prog ⟨w, kys [] []⟩ bx (Tryz.bkRows zeroBk G) 12 [.agg ⟨bkV zeroBk G.A⟩, .agg ⟨bkV zeroBk ⟨none, none, none, none, 0, 0, 0, 0⟩⟩] (.bool true) := fun {_} w' hw' => by
    have := Tryz.rSame_w zeroBk zeroBk G.A ⟨none, none, none, none, 0, 0, 0, 0⟩ w' zeroBk_in zeroBk_in (Tryz.bkRows_ok hw' (fun s hs => hs)) (zeroBk_ok w')
    rw [sameB_refl] at this; exact this
  refine At.run 100 true [true, true, true] [hB 0, hB 0, hC (.bool true)] rfl (by (repeat' apply And.intro) <;> first | exact hS | simp [Value.oneCell', bkV]; done | decide | exact True.intro | omega | rfl | (simp only [inK]; omega) | exact decide_eq_true (by omega) | exact decide_eq_false (by omega) | (simp; done) | (simp; omega) | (simp [Value.oneCell']; done) | exact i64s_one _ | exact AggOk.mk (by kernel_rfl) (by kernel_rfl)) ?_
  refine At.keep [] [] (by simp only [forceL_eq]; exact Prod.ext rfl (selL_none _)) ?_
  exact At.retK [] [] [] rfl rfl Tryz.func6 rfl trivial ⟨rfl, rfl, rfl⟩

theorem Tryz.gets13_w (s : List UInt8) (w : World) : Fun Tryz.prog 4 [str s] w (.bool true) := by
  refine Tri.enter (bx := []) (hp := []) Tryz.func4 rfl (by kernel_rfl) rfl (Own.nil w) ?_
  have hA : ∀ {bx : Bx} {hp : List Seg}, CallOb Tryz.prog ⟨w, kys [] []⟩ bx hp 6 [] (.bool true) := fun {_ _} w' hw' => Tryz.alive13_w w'
  have hsz : (bl ⟨s.toArray⟩).length = s.length := by rw [bl_str]
  by_cases hl : 1500 < s.length
  · refine At.run 100 true [false, true] [hC (.bool true)] rfl (by (repeat' apply And.intro) <;> first | exact hA | (rw [bl_str]; simp only [inK]; omega) | exact True.intro | omega | rfl | (simp only [inK]; omega) | exact decide_eq_true (by omega) | exact decide_eq_false (by omega) | (simp; done) | (simp; omega) | (simp [Value.oneCell']; done) | exact i64s_one _ | exact AggOk.mk (by kernel_rfl) (by kernel_rfl)) ?_
    exact At.retK [] [] [] rfl rfl Tryz.func4 rfl trivial ⟨rfl, rfl, rfl⟩
  · refine At.run 100 true [false, false] [hC (.bool true)] rfl (by (repeat' apply And.intro) <;> first | exact hA | (rw [bl_str]; simp only [inK]; omega) | exact True.intro | omega | rfl | (simp only [inK]; omega) | exact decide_eq_true (by omega) | exact decide_eq_false (by omega) | (simp; done) | (simp; omega) | (simp [Value.oneCell']; done) | exact i64s_one _ | exact AggOk.mk (by kernel_rfl) (by kernel_rfl)) ?_
    have hin := getBk_in s
    have hgz := getBk_get (s := s) (b := (getBk s).1)
    have hg := fun w' => Tryz.snapGet_w s w' (by omega)
    have hr := fun w' => Tryz.rGet13_w s w' (by omega)
    obtain ⟨b, e, hbe⟩ : ∃ b e, getBk s = (b, e) := ⟨_, _, rfl⟩
    rw [hbe] at hg hr hgz hin
    simp only at hg hr hgz hin
    refine At.step [] rfl rfl rfl rfl rfl trivial (OpOk.call rfl (fun w' _ => hg w') ?_)
    rintro v bx' hp' ⟨G, rfl, rfl, rfl⟩
    refine At.run 100 true [] [] rfl (by (repeat' apply And.intro) <;> first | exact True.intro | omega | (simp only [inK]; omega) | (simp; done) | (simp; omega) | exact decide_eq_true (by omega) | exact decide_eq_false (by omega) | rfl | (simp [Value.oneCell']; done) | exact i64s_one _ | exact AggOk.mk (by kernel_rfl) (by kernel_rfl)) ?_
    refine At.step [] rfl rfl rfl rfl rfl trivial (OpOk.alloc (cs := [sv none 0 0, sv none 0 0, sv none 0 0, sv none 0 0, .int .i64 0]) rfl (by kernel_rfl) fun b3 hb3 => ?_)
    refine At.run 100 true [] [hB 0] rfl (by (repeat' apply And.intro) <;> first | simp [Value.oneCell', bkV]; done | exact True.intro | omega | rfl | (simp only [inK]; omega) | exact decide_eq_true (by omega) | exact decide_eq_false (by omega) | (simp; done) | (simp; omega) | (simp [Value.oneCell']; done) | exact i64s_one _ | exact AggOk.mk (by kernel_rfl) (by kernel_rfl)) ?_
    refine At.step [] rfl rfl rfl rfl rfl trivial (OpOk.call rfl (fun w' _ => hr w') ?_)
    rintro v bx' hp' ⟨G2, rfl, rfl, rfl⟩
    refine At.run 100 true [] [] rfl (by (repeat' apply And.intro) <;> first | exact True.intro | omega | (simp only [inK]; omega) | (simp; done) | (simp; omega) | exact decide_eq_true (by omega) | exact decide_eq_false (by omega) | rfl | (simp [Value.oneCell']; done) | exact i64s_one _ | exact AggOk.mk (by kernel_rfl) (by kernel_rfl)) ?_
    refine At.step [] rfl rfl rfl rfl rfl trivial (OpOk.alloc (cs := [sv none 0 0, sv none 0 0, sv none 0 0, sv none 0 0, .int .i64 0]) rfl (by kernel_rfl) fun b5 hb5 => ?_)
    have hS : ∀ {bx : Bx}, CallOb Tryz.prog ⟨w, kys [] []⟩ bx (Tryz.bkRows b G2 ++ (Tryz.bkRows b G ++ [])) 12 [.agg ⟨bkV b G.A⟩, .agg ⟨bkV b G2.A⟩] (.bool true) := fun {_} w' hw' => by
      have := Tryz.rSame_w b b G.A G2.A w' hin hin (Tryz.bkRows_ok hw' (fun s hs => by simp [hs])) (Tryz.bkRows_ok hw' (fun s hs => by simp [hs]))
      rw [sameB_refl] at this; exact this
    by_cases he : e = 0
    · subst he
      obtain ⟨hsb, hm, -, hS4⟩ := hgz rfl
      have hP : ∀ {bx : Bx}, CallOb Tryz.prog ⟨w, kys [] []⟩ bx (Tryz.bkRows b G2 ++ (Tryz.bkRows b G ++ [])) 8 [.agg ⟨bkV b G.A⟩] (.tuple #[str s, .int .i64 0]) := fun {_} w' hw' => by
        have := Tryz.snapPut_w b G.A w' hin (Tryz.bkRows_ok hw' (fun s hs => by simp [hs])) (by omega)
        rw [hm, if_pos rfl, if_pos rfl, ← hsb] at this; exact this
      refine At.run 100 true [false, false, false, true] [hB 0, hB 1, hB 0, hC (.bool true), hB 1, hC (.tuple #[str s, .int .i64 0])] rfl (by (repeat' apply And.intro) <;> first | exact hS | exact hP | simp [Value.oneCell', bkV]; done | exact True.intro | omega | rfl | (simp only [inK]; omega) | exact decide_eq_true (by omega) | exact decide_eq_false (by omega) | (simp; done) | (simp; omega) | (simp [Value.oneCell']; done) | exact i64s_one _ | exact AggOk.mk (by kernel_rfl) (by kernel_rfl)) ?_
      refine At.keep [] [] (by simp only [forceL_eq]; exact Prod.ext rfl (selL_none _)) ?_
      exact At.retK [] [] [] rfl rfl Tryz.func4 rfl trivial ⟨by simp [tupV], rfl, rfl⟩
    · refine At.run 100 true [false, false, true] [hB 0, hB 1, hB 0, hC (.bool true)] rfl (by (repeat' apply And.intro) <;> first | exact hS | simp [Value.oneCell', bkV]; done | simp [he]; done | exact True.intro | omega | rfl | (simp only [inK]; omega) | exact decide_eq_true (by omega) | exact decide_eq_false (by omega) | (simp; done) | (simp; omega) | (simp [Value.oneCell']; done) | exact i64s_one _ | exact AggOk.mk (by kernel_rfl) (by kernel_rfl)) ?_
      refine At.keep [] [] (by simp only [forceL_eq]; exact Prod.ext rfl (selL_none _)) ?_
      exact At.retK [] [] [] rfl rfl Tryz.func4 rfl trivial ⟨rfl, rfl, rfl⟩

end Go.Proofs

/-
  Walks of layer 13: its statements about books.
-/
namespace Go.Proofs
open Go Go.Eng
set_option maxRecDepth 100000
set_option maxHeartbeats 4000000
attribute [local irreducible] Tri

def greatB (b : Bk) : Bool := decide (40 < b.H.length) || (decide (70 < b.O.length) || (decide (40 < b.R.length) || decide (200 < b.S.length)))

theorem Tryz.great2_w (b : Bk) (A : BkA) (w : World) (l1 : b.H.length ≤ 9223372036854775807) (l2 : b.S.length ≤ 9223372036854775807) (l3 : b.O.length ≤ 9223372036854775807) (l4 : b.R.length ≤ 9223372036854775807) :
    Fun Tryz.prog 7 [.agg ⟨bkV b A⟩] w (.bool (greatB b)) := by
  refine Tri.enter (bx := []) (hp := []) Tryz.func7 rfl (by kernel_rfl) rfl (Own.nil w) ?_
  refine At.run 100 true [] [] rfl trivial ?_
  refine At.step [] rfl rfl rfl rfl rfl trivial (OpOk.box rfl rfl rfl fun bq hbq => ?_)
  by_cases g1 : 40 < b.H.length
  · refine At.run 100 true [true, true, true] [hB 0] rfl (by (repeat' apply And.intro) <;> first | exact True.intro | omega | (simp only [inK]; omega) | (simp; done) | (simp; omega) | exact decide_eq_true (by omega) | exact decide_eq_false (by omega) | rfl | (simp [Value.oneCell']; done) | exact i64s_one _ | exact AggOk.mk (by kernel_rfl) (by kernel_rfl)) ?_
    exact At.retK [] [] [] rfl rfl Tryz.func7 rfl trivial ⟨by simp [g1, tupV, greatB], rfl, rfl⟩
  by_cases g2 : 70 < b.O.length
  · refine At.run 100 true [false, true, true] [hB 0, hB 0] rfl (by (repeat' apply And.intro) <;> first | exact True.intro | omega | (simp only [inK]; omega) | (simp; done) | (simp; omega) | exact decide_eq_true (by omega) | exact decide_eq_false (by omega) | rfl | (simp [Value.oneCell']; done) | exact i64s_one _ | exact AggOk.mk (by kernel_rfl) (by kernel_rfl)) ?_
    exact At.retK [] [] [] rfl rfl Tryz.func7 rfl trivial ⟨by simp [g2, tupV, greatB], rfl, rfl⟩
  by_cases g3 : 40 < b.R.length
  · refine At.run 100 true [false, false, true] [hB 0, hB 0, hB 0] rfl (by (repeat' apply And.intro) <;> first | exact True.intro | omega | (simp only [inK]; omega) | (simp; done) | (simp; omega) | exact decide_eq_true (by omega) | exact decide_eq_false (by omega) | rfl | (simp [Value.oneCell']; done) | exact i64s_one _ | exact AggOk.mk (by kernel_rfl) (by kernel_rfl)) ?_
    exact At.retK [] [] [] rfl rfl Tryz.func7 rfl trivial ⟨by simp [g3, tupV, greatB], rfl, rfl⟩
  refine At.run 100 true [false, false, false] [hB 0, hB 0, hB 0, hB 0] rfl (by (repeat' apply And.intro) <;> first | exact True.intro | omega | (simp only [inK]; omega) | (simp; done) | (simp; omega) | exact decide_eq_true (by omega) | exact decide_eq_false (by omega) | rfl | (simp [Value.oneCell']; done) | exact i64s_one _ | exact AggOk.mk (by kernel_rfl) (by kernel_rfl)) ?_
  refine At.retK [] [] [] rfl rfl Tryz.func7 rfl trivial ⟨?_, rfl, rfl⟩
  unfold greatB
  rw [decide_eq_false g1, decide_eq_false g2, decide_eq_false g3]
  exact congrArg Value.bool (by rw [Bool.eq_iff_iff]; simp <;> omega)

theorem great_lens {b : Bk} (h : greatB b = false) : b.H.length ≤ 40 ∧ b.S.length ≤ 200 ∧ b.O.length ≤ 70 ∧ b.R.length ≤ 40 := by
  unfold greatB at h
  simp at h; omega

theorem colL_pos (xs : List Int) : 1 ≤ (colL xs).length := by
  simp only [colL, List.length_append]
  have : 1 ≤ (numL xs.length).length := by rw [numL]; split <;> simp
  omega
theorem putB_ge (l : List (List Int)) : ∀ sz, sz ≤ (putB sz l).length
  | 0 => by simp
  | sz + 1 => by
    have h1 := putB_ge l sz
    have h2 := colL_pos (colOf l sz)
    rw [putB_succ, List.length_append]; omega
theorem bookB_ge (b : Bk) : 16 ≤ (bookB b).length := by
  have h0 : 1 ≤ (numL b.c.toNat).length := by rw [numL]; split <;> simp
  have h1 := putB_ge b.H 4
  have h2 := putB_ge b.S 3
  have h3 := putB_ge b.O 6
  have h4 := putB_ge b.R 2
  simp only [bookB, List.length_append]; omega
theorem bookB_le {b : Bk} (hi : BkIn b) (hg : greatB b = false) : (bookB b).length ≤ 100000 := by
  obtain ⟨l1, l2, l3, l4⟩ := great_lens hg
  have h1 := putB_len hi.r1 (by omega) 4
  have h2 := putB_len hi.r2 (by omega) 3
  have h3 := putB_len hi.r3 (by omega) 6
  have h4 := putB_len hi.r4 (by omega) 2
  have h5 : (numL b.c.toNat).length ≤ 10 := numL_len10 _ (by have := hi.cc; simp only [inK] at this; omega)
  simp only [bookB, List.length_append]; omega
theorem book_cut {b : Bk} (hm : mayB b = true) (hi : BkIn b) (hS : b.S.length ≤ 1024) (k : Nat) (hk : k < (bookB b).length) : (getBk ((bookB b).take k)).2 ≠ 0 := by
  intro h
  obtain ⟨hs, hm', hi', hS'⟩ := getBk_get (b := (getBk ((bookB b).take k)).1) (Prod.ext rfl h)
  generalize (getBk ((bookB b).take k)).1 = b' at hs hm' hi' hS'
  have h1 := getBk_put hm hi hS []
  rw [List.append_nil, if_pos rfl] at h1
  have h2 := getBk_put hm' hi' hS' ((bookB b).drop k)
  rw [← hs, List.take_append_drop, h1, if_neg (by intro h0; have := congrArg List.length h0; simp at this; omega)] at h2
  have := congrArg Prod.snd h2
  simp at this

structure BkFit (b : Bk) : Prop where
  r1 : Recs 4 b.H
  r2 : Recs 3 b.S
  r3 : Recs 6 b.O
  r4 : Recs 2 b.R
  l1 : b.H.length ≤ 9223372036854775807
  l2 : b.S.length ≤ 9223372036854775807
  l3 : b.O.length ≤ 9223372036854775807
  l4 : b.R.length ≤ 9223372036854775807
  cc : inK .i64 b.c
theorem BkFit.in {b : Bk} (h : BkFit b) (hg : greatB b = false) : BkIn b := by
  obtain ⟨l1, l2, l3, l4⟩ := great_lens hg
  exact ⟨h.r1, h.r2, h.r3, h.r4, by omega, by omega, by omega, by omega, h.cc⟩

theorem Tryz.cut13_w (b : Bk) (A : BkA) (at0 : Int) (w : World) (hf : BkFit b) (ho : BkOk w b A) (hat : 0 ≤ at0 ∧ at0 ≤ 65535) : Fun Tryz.prog 5 [.agg ⟨bkV b A⟩, .int .u16 at0] w (.bool true) := by
  refine Tri.enter (bx := []) (hp := []) Tryz.func5 rfl (by kernel_rfl) rfl (Own.nil w) ?_
  refine At.run 100 true [] [] rfl trivial ?_
  refine At.step [] rfl rfl rfl rfl rfl trivial (OpOk.box rfl rfl rfl fun bq hbq => ?_)
  have hA : ∀ {bx : Bx} {hp : List Seg}, CallOb Tryz.prog ⟨w, kys [] []⟩ bx hp 6 [] (.bool true) := fun {_ _} w' hw' => Tryz.alive13_w w'
  have hG : ∀ {bx : Bx} {hp : List Seg}, CallOb Tryz.prog ⟨w, kys [] []⟩ bx hp 7 [.agg ⟨bkV b A⟩] (.bool (greatB b)) := fun {_ _} w' hw' => Tryz.great2_w b A w' hf.l1 hf.l2 hf.l3 hf.l4
  cases hg : greatB b with
  | true =>
    rw [hg] at hG
    refine At.run 100 true [false, true, true] [hC (.bool true), hB 0, hC (.bool true)] rfl (by (repeat' apply And.intro) <;> first | exact hA | exact hG | exact True.intro | omega | rfl | (simp only [inK]; omega) | exact decide_eq_true (by omega) | exact decide_eq_false (by omega) | (simp; done) | (simp; omega) | (simp [Value.oneCell']; done) | exact i64s_one _ | exact AggOk.mk (by kernel_rfl) (by kernel_rfl)) ?_
    exact At.retK [] [] [] rfl rfl Tryz.func5 rfl trivial ⟨rfl, rfl, rfl⟩
  | false =>
    rw [hg] at hG
    have hi := hf.in hg
    obtain ⟨l1, l2, l3, l4⟩ := great_lens hg
    have hM : ∀ {bx : Bx} {hp : List Seg}, CallOb Tryz.prog ⟨w, kys [] []⟩ bx hp 9 [.agg ⟨bkV b A⟩] (.bool (mayB b)) := fun {_ _} w' hw' => Tryz.rMay_w b A w' hi (ho.ext hw'.ext (by simp [kys]))
    cases hm : mayB b with
    | false =>
      rw [hm] at hM
      refine At.run 100 true [false, false, true] [hC (.bool true), hB 0, hC (.bool false), hB 0, hC (.bool false)] rfl (by (repeat' apply And.intro) <;> first | exact hA | exact hG | exact hM | exact True.intro | omega | rfl | (simp only [inK]; omega) | exact decide_eq_true (by omega) | exact decide_eq_false (by omega) | (simp; done) | (simp; omega) | (simp [Value.oneCell']; done) | exact i64s_one _ | exact AggOk.mk (by kernel_rfl) (by kernel_rfl)) ?_
      exact At.retK [] [] [] rfl rfl Tryz.func5 rfl trivial ⟨rfl, rfl, rfl⟩
    | true =>
      rw [hm] at hM
      have hP : ∀ {bx : Bx} {hp : List Seg}, CallOb Tryz.prog ⟨w, kys [] []⟩ bx hp 8 [.agg ⟨bkV b A⟩] (.tuple #[str (bookB b), .int .i64 0]) := fun {_ _} w' hw' => by
        have := Tryz.snapPut_w b A w' hi (ho.ext hw'.ext (by simp [kys])) (by omega)
        rw [hm, if_pos rfl, if_pos rfl] at this; exact this
      have hge := bookB_ge b
      have hle := bookB_le hi hg
      have hcut := book_cut hm hi (by omega)
      generalize bookB b = s at *
      have hsl : (bl ⟨s.toArray⟩).length = s.length := by rw [bl_str]
      have e1 : 0 ≤ at0 % ↑s.length := Int.emod_nonneg _ (by omega)
      have e2 : at0 % ↑s.length < ↑s.length := Int.emod_lt_of_pos _ (by omega)
      have hlt : (at0 % ↑s.length).toNat < s.length := by omega
      refine At.run 100 true [false, false, false, false, false] [hC (.bool true), hB 0, hC (.bool false), hB 0, hC (.bool true), hB 0, hC (.tuple #[str s, .int .i64 0])] rfl (by (repeat' apply And.intro) <;> first | exact hA | exact hG | exact hM | exact hP | (rw [bl_str]; omega) | exact True.intro | omega | rfl | (simp only [inK]; omega) | exact decide_eq_true (by omega) | exact decide_eq_false (by omega) | (simp; done) | (simp; omega) | (simp [Value.oneCell']; done) | exact i64s_one _ | exact AggOk.mk (by kernel_rfl) (by kernel_rfl)) ?_
      simp only [bl_str]
      have hgl := hcut _ hlt
      have hgz := getBk_in (s.take (at0 % ↑s.length).toNat)
      obtain ⟨b', e, hbe⟩ : ∃ b' e, getBk (s.take (at0 % ↑s.length).toNat) = (b', e) := ⟨_, _, rfl⟩
      have hg := fun w' => Tryz.snapGet_w (s.take (at0 % ↑s.length).toNat) w' (by rw [List.length_take]; omega)
      rw [hbe] at hg hgl hgz
      simp only at hg hgl hgz
      refine At.step [] rfl rfl rfl rfl rfl trivial (OpOk.call rfl (fun w' _ => hg w') ?_)
      rintro v bx' hp' ⟨G, rfl, rfl, rfl⟩
      refine At.run 100 true [] [] rfl (by (repeat' apply And.intro) <;> first | exact True.intro | omega | (simp only [inK]; omega) | (simp; done) | (simp; omega) | exact decide_eq_true (by omega) | exact decide_eq_false (by omega) | rfl | (simp [Value.oneCell']; done) | exact i64s_one _ | exact AggOk.mk (by kernel_rfl) (by kernel_rfl)) ?_
      refine At.step [] rfl rfl rfl rfl rfl trivial (OpOk.alloc (cs := [sv none 0 0, sv none 0 0, sv none 0 0, sv none 0 0, .int .i64 0]) rfl (by kernel_rfl) fun b3 hb3 => ?_)
      refine At.run 100 true [] [hB 0] rfl (by (repeat' apply And.intro) <;> first | simp [Value.oneCell', bkV]; done | exact True.intro | omega | rfl | (simp only [inK]; omega) | exact decide_eq_true (by omega) | exact decide_eq_false (by omega) | (simp; done) | (simp; omega) | (simp [Value.oneCell']; done) | exact i64s_one _ | exact AggOk.mk (by kernel_rfl) (by kernel_rfl)) ?_
      refine At.keep [] [] (by simp only [forceL_eq]; exact Prod.ext rfl (selL_none _)) ?_
      exact At.retK [] [] [] rfl rfl Tryz.func5 rfl trivial ⟨by simp [tupV, hgl], rfl, rfl⟩

theorem Tryz.puts13_w (b : Bk) (A : BkA) (m : List UInt8) (w : World) (hf : BkFit b) (ho : BkOk w b A) (hml : m.length ≤ 9223372036854775807) : Fun Tryz.prog 3 [.agg ⟨bkV b A⟩, str m] w (.bool true) := by
  refine Tri.enter (bx := []) (hp := []) Tryz.func3 rfl (by kernel_rfl) rfl (Own.nil w) ?_
  refine At.run 100 true [] [] rfl trivial ?_
  refine At.step [] rfl rfl rfl rfl rfl trivial (OpOk.box rfl rfl rfl fun bq hbq => ?_)
  have hA : ∀ {bx : Bx} {hp : List Seg}, CallOb Tryz.prog ⟨w, kys [] []⟩ bx hp 6 [] (.bool true) := fun {_ _} w' hw' => Tryz.alive13_w w'
  have hG : ∀ {bx : Bx} {hp : List Seg}, CallOb Tryz.prog ⟨w, kys [] []⟩ bx hp 7 [.agg ⟨bkV b A⟩] (.bool (greatB b)) := fun {_ _} w' hw' => Tryz.great2_w b A w' hf.l1 hf.l2 hf.l3 hf.l4
  cases hg : greatB b with
  | true =>
    rw [hg] at hG
    refine At.run 100 true [false, true, true] [hC (.bool true), hB 0, hC (.bool true)] rfl (by (repeat' apply And.intro) <;> first | exact hA | exact hG | exact True.intro | omega | rfl | (simp only [inK]; omega) | exact decide_eq_true (by omega) | exact decide_eq_false (by omega) | (simp; done) | (simp; omega) | (simp [Value.oneCell']; done) | exact i64s_one _ | exact AggOk.mk (by kernel_rfl) (by kernel_rfl)) ?_
    exact At.retK [] [] [] rfl rfl Tryz.func3 rfl trivial ⟨rfl, rfl, rfl⟩
  | false =>
    rw [hg] at hG
    have hsz : (bl ⟨m.toArray⟩).length = m.length := by rw [bl_str]
    by_cases hl : 100 < m.length
    · refine At.run 100 true [false, false, true] [hC (.bool true), hB 0, hC (.bool false)] rfl (by (repeat' apply And.intro) <;> first | exact hA | exact hG | (rw [bl_str]; simp only [inK]; omega) | exact True.intro | omega | rfl | (simp only [inK]; omega) | exact decide_eq_true (by omega) | exact decide_eq_false (by omega) | (simp; done) | (simp; omega) | (simp [Value.oneCell']; done) | exact i64s_one _ | exact AggOk.mk (by kernel_rfl) (by kernel_rfl)) ?_
      exact At.retK [] [] [] rfl rfl Tryz.func3 rfl trivial ⟨rfl, rfl, rfl⟩
    have hi := hf.in hg
    obtain ⟨l1, l2, l3, l4⟩ := great_lens hg
    have hM : ∀ {bx : Bx} {hp : List Seg}, CallOb Tryz.prog ⟨w, kys [] []⟩ bx hp 9 [.agg ⟨bkV b A⟩] (.bool (mayB b)) := fun {_ _} w' hw' => Tryz.rMay_w b A w' hi (ho.ext hw'.ext (by simp [kys]))
    have hP : ∀ {bx : Bx} {hp : List Seg}, CallOb Tryz.prog ⟨w, kys [] []⟩ bx hp 8 [.agg ⟨bkV b A⟩] (.tuple #[str (if mayB b then bookB b else []), .int .i64 (if mayB b then 0 else 1)]) := fun {_ _} w' hw' => Tryz.snapPut_w b A w' hi (ho.ext hw'.ext (by simp [kys])) (by omega)
    cases hm : mayB b with
    | false =>
      rw [hm] at hM hP
      refine At.run 100 true [false, false, false, true, true] [hC (.bool true), hB 0, hC (.bool false), hB 0, hC (.tuple #[str [], .int .i64 1]), hB 0, hC (.bool false)] rfl (by (repeat' apply And.intro) <;> first | exact hA | exact hG | exact hM | exact hP | (rw [bl_str]; simp only [inK]; omega) | exact True.intro | omega | rfl | (simp only [inK]; omega) | exact decide_eq_true (by omega) | exact decide_eq_false (by omega) | (simp; done) | (simp; omega) | (simp [Value.oneCell']; done) | exact i64s_one _ | exact AggOk.mk (by kernel_rfl) (by kernel_rfl)) ?_
      exact At.retK [] [] [] rfl rfl Tryz.func3 rfl trivial ⟨by simp [tupV], rfl, rfl⟩
    | true =>
      rw [hm, if_pos rfl, if_pos rfl] at hP
      rw [hm] at hM
      have hc0 := (may_lens hm).2.2.2.1
      have hR : ∀ {bx : Bx} {hp : List Seg}, CallOb Tryz.prog ⟨w, kys [] []⟩ bx hp 11 [.agg ⟨bkV b A⟩] (str (bookB b)) := fun {_ _} w' hw' => Tryz.rPut13_w b A w' hi (ho.ext hw'.ext (by simp [kys])) (by omega) (by omega) (by omega) (by omega) hc0
      have hge := bookB_ge b
      have hle := bookB_le hi hg
      have hp1 := getBk_put hm hi (by omega) []
      have hp2 := getBk_put hm hi (by omega) m
      rw [List.append_nil, if_pos rfl] at hp1
      have g1 := fun w' => Tryz.snapGet_w (bookB b) w' (by omega)
      have g2 := fun w' => Tryz.snapGet_w (bookB b ++ m) w' (by rw [List.length_append]; omega)
      rw [hp1] at g1
      generalize bookB b = s at *
      refine At.run 100 true [false, false, false, false] [hC (.bool true), hB 0, hC (.bool false), hB 0, hC (.tuple #[str s, .int .i64 0]), hB 0, hC (.bool true)] rfl (by (repeat' apply And.intro) <;> first | exact hA | exact hG | exact hM | exact hP | (rw [bl_str]; simp only [inK]; omega) | exact True.intro | omega | rfl | (simp only [inK]; omega) | exact decide_eq_true (by omega) | exact decide_eq_false (by omega) | (simp; done) | (simp; omega) | (simp [Value.oneCell']; done) | exact i64s_one _ | exact AggOk.mk (by kernel_rfl) (by kernel_rfl)) ?_
      refine At.step [] rfl rfl rfl rfl rfl trivial (OpOk.call rfl (fun w' _ => g1 w') ?_)
      rintro v bx' hp' ⟨G, rfl, rfl, rfl⟩
      refine At.run 100 true [] [] rfl (by (repeat' apply And.intro) <;> first | exact True.intro | omega | (simp only [inK]; omega) | (simp; done) | (simp; omega) | exact decide_eq_true (by omega) | exact decide_eq_false (by omega) | rfl | (simp [Value.oneCell']; done) | exact i64s_one _ | exact AggOk.mk (by kernel_rfl) (by kernel_rfl)) ?_
      refine At.step [] rfl rfl rfl rfl rfl trivial (OpOk.alloc (cs := [sv none 0 0, sv none 0 0, sv none 0 0, sv none 0 0, .int .i64 0]) rfl (by kernel_rfl) fun b3 hb3 => ?_)
      have hS : ∀ {bx : Bx}, CallOb Tryz.prog ⟨w, kys [] []⟩ bx (Tryz.bkRows b G ++ []) 12 [.agg ⟨bkV b G.A⟩, .agg ⟨bkV b A⟩] (.bool true) := fun {_} w' hw' => by
        have := Tryz.rSame_w b b G.A A w' hi hi (Tryz.bkRows_ok hw' (fun s hs => by simp [hs])) (ho.ext hw'.ext (by simp [kys]))
        rw [sameB_refl] at this; exact this
      refine At.run 100 true [false, false, false, false] [hB 0, hB 1, hC (str s), hB 0, hB 1, hC (.bool true)] rfl (by (repeat' apply And.intro) <;> first | exact hR | exact hS | simp [Value.oneCell', bkV]; done | exact True.intro | omega | rfl | (simp only [inK]; omega) | exact decide_eq_true (by omega) | exact decide_eq_false (by omega) | (simp; done) | (simp; omega) | (simp [Value.oneCell']; done) | exact i64s_one _ | exact AggOk.mk (by kernel_rfl) (by kernel_rfl)) ?_
      simp only [bl_str]
      obtain ⟨b', e, hbe⟩ : ∃ b' e, getBk (s ++ m) = (b', e) := ⟨_, _, rfl⟩
      rw [hbe] at g2 hp2
      simp only at g2
      refine At.step [] rfl rfl rfl rfl rfl trivial (OpOk.call rfl (fun w' _ => g2 w') ?_)
      rintro v bx' hp' ⟨G2, rfl, rfl, rfl⟩
      refine At.run 100 true [] [] rfl (by (repeat' apply And.intro) <;> first | exact True.intro | omega | (simp only [inK]; omega) | (simp; done) | (simp; omega) | exact decide_eq_true (by omega) | exact decide_eq_false (by omega) | rfl | (simp [Value.oneCell']; done) | exact i64s_one _ | exact AggOk.mk (by kernel_rfl) (by kernel_rfl)) ?_
      refine At.step [] rfl rfl rfl rfl rfl trivial (OpOk.alloc (cs := [sv none 0 0, sv none 0 0, sv none 0 0, sv none 0 0, .int .i64 0]) rfl (by kernel_rfl) fun b5 hb5 => ?_)
      refine At.run 100 true [] [hB 0] rfl (by (repeat' apply And.intro) <;> first | simp [Value.oneCell', bkV]; done | exact True.intro | omega | rfl | (simp only [inK]; omega) | exact decide_eq_true (by omega) | exact decide_eq_false (by omega) | (simp; done) | (simp; omega) | (simp [Value.oneCell']; done) | exact i64s_one _ | exact AggOk.mk (by kernel_rfl) (by kernel_rfl)) ?_
      refine At.keep [] [] (by simp only [forceL_eq]; exact Prod.ext rfl (selL_none _)) ?_
      refine At.retK [] [] [] rfl rfl Tryz.func3 rfl trivial ⟨?_, rfl, rfl⟩
      have he : (e = 0) = (m = []) := by
        by_cases h0 : m = []
        · rw [if_pos h0] at hp2; have := congrArg Prod.snd hp2; simp at this; simp [h0, this]
        · rw [if_neg h0] at hp2; have := congrArg Prod.snd hp2; simp at this; simp [h0, this]
      have h1 : decide (e = 0) = decide (bl ⟨m.toArray⟩ = bl ⟨#[]⟩) := by
        rw [Bool.eq_iff_iff, decide_eq_true_iff, decide_eq_true_iff, he, bl_str]
        exact Iff.rfl
      simp [tupV, h1]

end Go.Proofs

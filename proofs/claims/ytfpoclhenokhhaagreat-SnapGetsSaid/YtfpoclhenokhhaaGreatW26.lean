/-
  Walks of layer 12: are two books alike?
-/
import Derived.Test.YtfpoclhenokhhaaGreatW25
namespace Go.Proofs
open Go Go.Eng
set_option maxRecDepth 100000
set_option maxHeartbeats 4000000
attribute [local irreducible] Tri

/-- Are two books alike? -/
def sameB (a b : Bk) : Bool := decide (a.H = b.H ∧ a.S = b.S ∧ a.O = b.O ∧ a.R = b.R ∧ a.c = b.c)
theorem sameF {a b : Bk} (h : ¬ (a.H = b.H ∧ a.S = b.S ∧ a.O = b.O ∧ a.R = b.R ∧ a.c = b.c)) : sameB a b = false := decide_eq_false h
theorem ne_of_get {l m : List (List Int)} {i : Nat} {x y : List Int} (hx : l[i]? = some x) (hy : m[i]? = some y) (h : x ≠ y) : l ≠ m := by
  intro e; subst e; rw [hx] at hy; cases hy; exact h rfl
theorem take_next {l m : List (List Int)} {i : Nat} {x : List Int} (ht : l.take i = m.take i) (hx : l[i]? = some x) (hy : m[i]? = some x) : l.take (i + 1) = m.take (i + 1) := by
  rw [List.take_add_one, List.take_add_one, hx, hy, ht]
theorem eq_take {l m : List (List Int)} {i : Nat} (ht : l.take i = m.take i) (h1 : l.length ≤ i) (h2 : m.length ≤ i) : l = m := by
  rw [List.take_of_length_le h1, List.take_of_length_le h2] at ht; exact ht
theorem ch4 {x0 x1 x2 x3 y0 y1 y2 y3 : Int} : (decide (x0 = y0) && (decide (x1 = y1) && (decide (x2 = y2) && decide (x3 = y3)))) = decide ([x0, x1, x2, x3] = [y0, y1, y2, y3]) := by rw [Bool.eq_iff_iff]; simp
theorem ch3 {x0 x1 x2 y0 y1 y2 : Int} : (decide (x0 = y0) && (decide (x1 = y1) && decide (x2 = y2))) = decide ([x0, x1, x2] = [y0, y1, y2]) := by rw [Bool.eq_iff_iff]; simp
theorem ch6 {x0 x1 x2 x3 x4 x5 y0 y1 y2 y3 y4 y5 : Int} : (decide (x0 = y0) && (decide (x1 = y1) && (decide (x2 = y2) && (decide (x3 = y3) && (decide (x4 = y4) && decide (x5 = y5)))))) = decide ([x0, x1, x2, x3, x4, x5] = [y0, y1, y2, y3, y4, y5]) := by rw [Bool.eq_iff_iff]; simp
theorem ch2 {x0 x1 y0 y1 : Int} : (decide (x0 = y0) && decide (x1 = y1)) = decide ([x0, x1] = [y0, y1]) := by rw [Bool.eq_iff_iff]; simp

theorem Tryz.great_w (b : Bk) (A : BkA) (w : World) (hi : BkIn b) : Fun Tryz.prog 7 [.agg ⟨bkV b A⟩] w (.bool (decide (40 < b.H.length) || (decide (70 < b.O.length) || (decide (40 < b.R.length) || decide (200 < b.S.length))))) := by
  refine Tri.enter (bx := []) (hp := []) Tryz.func7 rfl (by kernel_rfl) rfl (Own.nil w) ?_
  have l1 := hi.l1
  have l2 := hi.l2
  have l3 := hi.l3
  have l4 := hi.l4
  refine At.run 100 true [] [] rfl trivial ?_
  refine At.step [] rfl rfl rfl rfl rfl trivial (OpOk.box rfl rfl rfl fun bq hbq => ?_)
  by_cases g1 : 40 < b.H.length
  · refine At.run 100 true [true, true, true] [hB 0] rfl (by (repeat' apply And.intro) <;> first | exact True.intro | omega | (simp only [inK]; omega) | (simp; done) | (simp; omega) | exact decide_eq_true (by omega) | exact decide_eq_false (by omega) | rfl | (simp [Value.oneCell']; done) | exact i64s_one _ | exact AggOk.mk (by kernel_rfl) (by kernel_rfl)) ?_
    exact At.retK [] [] [] rfl rfl Tryz.func7 rfl trivial ⟨by simp [g1, tupV], rfl, rfl⟩
  by_cases g2 : 70 < b.O.length
  · refine At.run 100 true [false, true, true] [hB 0, hB 0] rfl (by (repeat' apply And.intro) <;> first | exact True.intro | omega | (simp only [inK]; omega) | (simp; done) | (simp; omega) | exact decide_eq_true (by omega) | exact decide_eq_false (by omega) | rfl | (simp [Value.oneCell']; done) | exact i64s_one _ | exact AggOk.mk (by kernel_rfl) (by kernel_rfl)) ?_
    exact At.retK [] [] [] rfl rfl Tryz.func7 rfl trivial ⟨by simp [g2, tupV], rfl, rfl⟩
  by_cases g3 : 40 < b.R.length
  · refine At.run 100 true [false, false, true] [hB 0, hB 0, hB 0] rfl (by (repeat' apply And.intro) <;> first | exact True.intro | omega | (simp only [inK]; omega) | (simp; done) | (simp; omega) | exact decide_eq_true (by omega) | exact decide_eq_false (by omega) | rfl | (simp [Value.oneCell']; done) | exact i64s_one _ | exact AggOk.mk (by kernel_rfl) (by kernel_rfl)) ?_
    exact At.retK [] [] [] rfl rfl Tryz.func7 rfl trivial ⟨by simp [g3, tupV], rfl, rfl⟩
  refine At.run 100 true [false, false, false] [hB 0, hB 0, hB 0, hB 0] rfl (by (repeat' apply And.intro) <;> first | exact True.intro | omega | (simp only [inK]; omega) | (simp; done) | (simp; omega) | exact decide_eq_true (by omega) | exact decide_eq_false (by omega) | rfl | (simp [Value.oneCell']; done) | exact i64s_one _ | exact AggOk.mk (by kernel_rfl) (by kernel_rfl)) ?_
  refine At.retK [] [] [] rfl rfl Tryz.func7 rfl trivial ⟨?_, rfl, rfl⟩
  rw [decide_eq_false g1, decide_eq_false g2, decide_eq_false g3]
  exact congrArg Value.bool (by rw [Bool.eq_iff_iff]; simp <;> omega)

theorem Tryz.rSame_w (a b : Bk) (A B : BkA) (w : World) (ha : BkIn a) (hb : BkIn b) (hoa : BkOk w a A) (hob : BkOk w b B) : Fun Tryz.prog 12 [.agg ⟨bkV a A⟩, .agg ⟨bkV b B⟩] w (.bool (sameB a b)) := by
  refine Tri.enter (bx := []) (hp := []) Tryz.func12 rfl (by kernel_rfl) rfl (Own.nil w) ?_
  obtain ⟨a1, a2, a3, a4, c1, c2, c3, c4⟩ := A
  obtain ⟨b1, b2, b3, b4, d1, d2, d3, d4⟩ := B
  have h1 : SlOk w a1 (a.H.flatMap i64s) := hoa.h1
  have h2 : SlOk w a2 (a.S.flatMap i64s) := hoa.h2
  have h3 : SlOk w a3 (a.O.flatMap i64s) := hoa.h3
  have h4 : SlOk w a4 (a.R.flatMap i64s) := hoa.h4
  have h1' : SlOk w b1 (b.H.flatMap i64s) := hob.h1
  have h2' : SlOk w b2 (b.S.flatMap i64s) := hob.h2
  have h3' : SlOk w b3 (b.O.flatMap i64s) := hob.h3
  have h4' : SlOk w b4 (b.R.flatMap i64s) := hob.h4
  have l1 := ha.l1
  have l2 := ha.l2
  have l3 := ha.l3
  have l4 := ha.l4
  refine At.run 100 true [] [] rfl trivial ?_
  refine At.step [] rfl rfl rfl rfl rfl trivial (OpOk.box rfl rfl rfl fun bq hbq => ?_)
  refine At.step [] rfl rfl rfl rfl rfl trivial (OpOk.box rfl rfl rfl fun br hbr => ?_)
  refine At.run 100 true [] [] rfl trivial ?_
  by_cases g0 : a.H.length ≠ b.H.length
  · refine At.run 100 true [true, true, true, true, true] [hB 1, hB 0] rfl (by (repeat' apply And.intro) <;> first | simp; omega | exact True.intro | omega | rfl | (simp only [inK]; omega) | exact decide_eq_true (by omega) | exact decide_eq_false (by omega) | (simp; done) | (simp; omega) | (simp [Value.oneCell']; done) | exact i64s_one _ | exact AggOk.mk (by kernel_rfl) (by kernel_rfl)) ?_
    exact At.retK [] [] [] rfl rfl Tryz.func12 rfl trivial ⟨by rw [sameF (fun h => g0 (by rw [h.1]))]; rfl, rfl, rfl⟩
  by_cases g1 : a.S.length ≠ b.S.length
  · refine At.run 100 true [false, true, true, true, true] [hB 1, hB 0, hB 1, hB 0] rfl (by (repeat' apply And.intro) <;> first | simp; omega | exact True.intro | omega | rfl | (simp only [inK]; omega) | exact decide_eq_true (by omega) | exact decide_eq_false (by omega) | (simp; done) | (simp; omega) | (simp [Value.oneCell']; done) | exact i64s_one _ | exact AggOk.mk (by kernel_rfl) (by kernel_rfl)) ?_
    exact At.retK [] [] [] rfl rfl Tryz.func12 rfl trivial ⟨by rw [sameF (fun h => g1 (by rw [h.2.1]))]; rfl, rfl, rfl⟩
  by_cases g2 : a.O.length ≠ b.O.length
  · refine At.run 100 true [false, false, true, true, true] [hB 1, hB 0, hB 1, hB 0, hB 1, hB 0] rfl (by (repeat' apply And.intro) <;> first | simp; omega | exact True.intro | omega | rfl | (simp only [inK]; omega) | exact decide_eq_true (by omega) | exact decide_eq_false (by omega) | (simp; done) | (simp; omega) | (simp [Value.oneCell']; done) | exact i64s_one _ | exact AggOk.mk (by kernel_rfl) (by kernel_rfl)) ?_
    exact At.retK [] [] [] rfl rfl Tryz.func12 rfl trivial ⟨by rw [sameF (fun h => g2 (by rw [h.2.2.1]))]; rfl, rfl, rfl⟩
  by_cases g3 : a.R.length ≠ b.R.length
  · refine At.run 100 true [false, false, false, true, true] [hB 1, hB 0, hB 1, hB 0, hB 1, hB 0, hB 1, hB 0] rfl (by (repeat' apply And.intro) <;> first | simp; omega | exact True.intro | omega | rfl | (simp only [inK]; omega) | exact decide_eq_true (by omega) | exact decide_eq_false (by omega) | (simp; done) | (simp; omega) | (simp [Value.oneCell']; done) | exact i64s_one _ | exact AggOk.mk (by kernel_rfl) (by kernel_rfl)) ?_
    exact At.retK [] [] [] rfl rfl Tryz.func12 rfl trivial ⟨by rw [sameF (fun h => g3 (by rw [h.2.2.2.1]))]; rfl, rfl, rfl⟩
  by_cases g4 : a.c ≠ b.c
  · refine At.run 100 true [false, false, false, false, true] [hB 1, hB 0, hB 1, hB 0, hB 1, hB 0, hB 1, hB 0, hB 1, hB 0] rfl (by (repeat' apply And.intro) <;> first | simp; omega | exact True.intro | omega | rfl | (simp only [inK]; omega) | exact decide_eq_true (by omega) | exact decide_eq_false (by omega) | (simp; done) | (simp; omega) | (simp [Value.oneCell']; done) | exact i64s_one _ | exact AggOk.mk (by kernel_rfl) (by kernel_rfl)) ?_
    exact At.retK [] [] [] rfl rfl Tryz.func12 rfl trivial ⟨by rw [sameF (fun h => g4 h.2.2.2.2)]; rfl, rfl, rfl⟩
  refine At.run 100 true [false, false, false, false, false] [hB 1, hB 0, hB 1, hB 0, hB 1, hB 0, hB 1, hB 0, hB 1, hB 0] rfl (by (repeat' apply And.intro) <;> first | simp; omega | exact True.intro | omega | rfl | (simp only [inK]; omega) | exact decide_eq_true (by omega) | exact decide_eq_false (by omega) | (simp; done) | (simp; omega) | (simp [Value.oneCell']; done) | exact i64s_one _ | exact AggOk.mk (by kernel_rfl) (by kernel_rfl)) ?_
  refine At.loop (n := a.H.length) (env0 := [(2, .pointer (some ⟨bq, 0, none⟩)), (3, .pointer (some ⟨br, 0, none⟩)), (5, .int .i64 0)]) (fun m env bx hp => ∃ i : Nat, m = a.H.length - i ∧ i ≤ a.H.length ∧ a.H.take i = b.H.take i ∧
    env = [(2, .pointer (some ⟨bq, 0, none⟩)), (3, .pointer (some ⟨br, 0, none⟩)), (5, .int .i64 i)] ∧ bx = [(br, 27, bkV b ⟨b1, b2, b3, b4, d1, d2, d3, d4⟩), (bq, 27, bkV a ⟨a1, a2, a3, a4, c1, c2, c3, c4⟩)] ∧ hp = []) rfl ⟨0, rfl, by omega, by simp, rfl, rfl, rfl⟩ ⟨rfl, rfl, rfl, trivial⟩ ?_
  rintro m env bx hp ⟨i, rfl, hi2, hno, rfl, rfl, rfl⟩ ih
  by_cases hlt : i < a.H.length
  · obtain ⟨x, hx⟩ : ∃ x, a.H[i]? = some x := ⟨_, List.getElem?_eq_getElem hlt⟩
    obtain ⟨y, hy⟩ : ∃ y, b.H[i]? = some y := ⟨_, List.getElem?_eq_getElem (by omega)⟩
    have hmx := List.mem_of_getElem? hx
    have hmy := List.mem_of_getElem? hy
    obtain ⟨g, o, rfl, hc⟩ := h1.get (slNe (by decide) ha.r1.len hx)
    obtain ⟨g2, o2, rfl, hc2⟩ := h1'.get (slNe (by decide) hb.r1.len hy)
    have r1 : ∀ {bx : Bx} {hp : List Seg}, RdW ⟨w, kys [] []⟩ bx hp g (o + (i : Int).toNat * 4) (i64s x) := fun {_ _} => RdW.rec ha.r1.len hc (by simp [kys]) hx (by omega)
    have r2 : ∀ {bx : Bx} {hp : List Seg}, RdW ⟨w, kys [] []⟩ bx hp g2 (o2 + (i : Int).toNat * 4) (i64s y) := fun {_ _} => RdW.rec hb.r1.len hc2 (by simp [kys]) hy (by omega)
    have hne := fun h => ne_of_get hx hy h
    have hn := fun (h : x = y) => take_next hno hx (by rw [h]; exact hy)
    obtain ⟨x0, x1, x2, x3, rfl⟩ := len4 (ha.r1.len x hmx)
    obtain ⟨y0, y1, y2, y3, rfl⟩ := len4 (hb.r1.len y hmy)
    refine At.run 100 true [true] [hB 1] rfl (by (repeat' apply And.intro) <;> first | exact True.intro | omega | (simp only [inK]; omega) | (simp; done) | (simp; omega) | exact decide_eq_true (by omega) | exact decide_eq_false (by omega) | rfl | (simp [Value.oneCell']; done) | exact i64s_one _ | exact AggOk.mk (by kernel_rfl) (by kernel_rfl)) ?_
    refine At.quiet true [] [hB 1, hR [.int .i64 x0, .int .i64 x1, .int .i64 x2, .int .i64 x3], hB 0, hR [.int .i64 y0, .int .i64 y1, .int .i64 y2, .int .i64 y3]] ⟨by kernel_rfl, by kernel_rfl, rfl, rfl, rfl⟩ rfl rfl rfl (by (repeat' apply And.intro) <;> first | exact r1 | exact r2 | exact True.intro | omega | rfl | (simp only [inK]; omega) | exact decide_eq_true (by omega) | exact decide_eq_false (by omega) | (simp; done) | (simp; omega) | (simp [Value.oneCell']; done) | exact i64s_one _ | exact AggOk.mk (by kernel_rfl) (by kernel_rfl)) ?_
    rw [ch4]
    by_cases hxy : [x0, x1, x2, x3] = [y0, y1, y2, y3]
    · refine At.run 100 true [false] [] rfl (by (repeat' apply And.intro) <;> first | rw [decide_eq_true hxy]; rfl | exact True.intro | omega | rfl | (simp only [inK]; omega) | exact decide_eq_true (by omega) | exact decide_eq_false (by omega) | (simp; done) | (simp; omega) | (simp [Value.oneCell']; done) | exact i64s_one _ | exact AggOk.mk (by kernel_rfl) (by kernel_rfl)) ?_
      refine At.weak (ih (a.H.length - (i + 1)) _ _ _ (by omega) ⟨i + 1, rfl, by omega, hn hxy, rfl, rfl, rfl⟩) ⟨rfl, rfl, some_int_eq (by omega), trivial⟩
    · refine At.run 100 true [true] [] rfl (by (repeat' apply And.intro) <;> first | rw [decide_eq_false hxy]; rfl | exact True.intro | omega | rfl | (simp only [inK]; omega) | exact decide_eq_true (by omega) | exact decide_eq_false (by omega) | (simp; done) | (simp; omega) | (simp [Value.oneCell']; done) | exact i64s_one _ | exact AggOk.mk (by kernel_rfl) (by kernel_rfl)) ?_
      exact At.retK [] [] [] rfl rfl Tryz.func12 rfl trivial ⟨by rw [sameF (fun h => hne hxy h.1)]; rfl, rfl, rfl⟩
  · refine At.run 100 true [false] [hB 1] rfl (by (repeat' apply And.intro) <;> first | exact True.intro | omega | (simp only [inK]; omega) | (simp; done) | (simp; omega) | exact decide_eq_true (by omega) | exact decide_eq_false (by omega) | rfl | (simp [Value.oneCell']; done) | exact i64s_one _ | exact AggOk.mk (by kernel_rfl) (by kernel_rfl)) ?_
    have e1 := eq_take hno (by omega) (by omega)
    clear ih hno hlt
    refine At.loop (n := a.S.length) (env0 := [(2, .pointer (some ⟨bq, 0, none⟩)), (3, .pointer (some ⟨br, 0, none⟩)), (6, .int .i64 0)]) (fun m env bx hp => ∃ i : Nat, m = a.S.length - i ∧ i ≤ a.S.length ∧ a.S.take i = b.S.take i ∧
      env = [(2, .pointer (some ⟨bq, 0, none⟩)), (3, .pointer (some ⟨br, 0, none⟩)), (6, .int .i64 i)] ∧ bx = [(br, 27, bkV b ⟨b1, b2, b3, b4, d1, d2, d3, d4⟩), (bq, 27, bkV a ⟨a1, a2, a3, a4, c1, c2, c3, c4⟩)] ∧ hp = []) rfl ⟨0, rfl, by omega, by simp, rfl, rfl, rfl⟩ ⟨rfl, rfl, rfl, trivial⟩ ?_
    rintro m env bx hp ⟨i, rfl, hi2, hno, rfl, rfl, rfl⟩ ih
    by_cases hlt : i < a.S.length
    · obtain ⟨x, hx⟩ : ∃ x, a.S[i]? = some x := ⟨_, List.getElem?_eq_getElem hlt⟩
      obtain ⟨y, hy⟩ : ∃ y, b.S[i]? = some y := ⟨_, List.getElem?_eq_getElem (by omega)⟩
      have hmx := List.mem_of_getElem? hx
      have hmy := List.mem_of_getElem? hy
      obtain ⟨g, o, rfl, hc⟩ := h2.get (slNe (by decide) ha.r2.len hx)
      obtain ⟨g2, o2, rfl, hc2⟩ := h2'.get (slNe (by decide) hb.r2.len hy)
      have r1 : ∀ {bx : Bx} {hp : List Seg}, RdW ⟨w, kys [] []⟩ bx hp g (o + (i : Int).toNat * 3) (i64s x) := fun {_ _} => RdW.rec ha.r2.len hc (by simp [kys]) hx (by omega)
      have r2 : ∀ {bx : Bx} {hp : List Seg}, RdW ⟨w, kys [] []⟩ bx hp g2 (o2 + (i : Int).toNat * 3) (i64s y) := fun {_ _} => RdW.rec hb.r2.len hc2 (by simp [kys]) hy (by omega)
      have hne := fun h => ne_of_get hx hy h
      have hn := fun (h : x = y) => take_next hno hx (by rw [h]; exact hy)
      obtain ⟨x0, x1, x2, rfl⟩ := len3 (ha.r2.len x hmx)
      obtain ⟨y0, y1, y2, rfl⟩ := len3 (hb.r2.len y hmy)
      refine At.run 100 true [true] [hB 1] rfl (by (repeat' apply And.intro) <;> first | exact True.intro | omega | (simp only [inK]; omega) | (simp; done) | (simp; omega) | exact decide_eq_true (by omega) | exact decide_eq_false (by omega) | rfl | (simp [Value.oneCell']; done) | exact i64s_one _ | exact AggOk.mk (by kernel_rfl) (by kernel_rfl)) ?_
      refine At.quiet true [] [hB 1, hR [.int .i64 x0, .int .i64 x1, .int .i64 x2], hB 0, hR [.int .i64 y0, .int .i64 y1, .int .i64 y2]] ⟨by kernel_rfl, by kernel_rfl, rfl, rfl, rfl⟩ rfl rfl rfl (by (repeat' apply And.intro) <;> first | exact r1 | exact r2 | exact True.intro | omega | rfl | (simp only [inK]; omega) | exact decide_eq_true (by omega) | exact decide_eq_false (by omega) | (simp; done) | (simp; omega) | (simp [Value.oneCell']; done) | exact i64s_one _ | exact AggOk.mk (by kernel_rfl) (by kernel_rfl)) ?_
      rw [ch3]
      by_cases hxy : [x0, x1, x2] = [y0, y1, y2]
      · refine At.run 100 true [false] [] rfl (by (repeat' apply And.intro) <;> first | rw [decide_eq_true hxy]; rfl | exact True.intro | omega | rfl | (simp only [inK]; omega) | exact decide_eq_true (by omega) | exact decide_eq_false (by omega) | (simp; done) | (simp; omega) | (simp [Value.oneCell']; done) | exact i64s_one _ | exact AggOk.mk (by kernel_rfl) (by kernel_rfl)) ?_
        refine At.weak (ih (a.S.length - (i + 1)) _ _ _ (by omega) ⟨i + 1, rfl, by omega, hn hxy, rfl, rfl, rfl⟩) ⟨rfl, rfl, some_int_eq (by omega), trivial⟩
      · refine At.run 100 true [true] [] rfl (by (repeat' apply And.intro) <;> first | rw [decide_eq_false hxy]; rfl | exact True.intro | omega | rfl | (simp only [inK]; omega) | exact decide_eq_true (by omega) | exact decide_eq_false (by omega) | (simp; done) | (simp; omega) | (simp [Value.oneCell']; done) | exact i64s_one _ | exact AggOk.mk (by kernel_rfl) (by kernel_rfl)) ?_
        exact At.retK [] [] [] rfl rfl Tryz.func12 rfl trivial ⟨by rw [sameF (fun h => hne hxy h.2.1)]; rfl, rfl, rfl⟩
    · refine At.run 100 true [false] [hB 1] rfl (by (repeat' apply And.intro) <;> first | exact True.intro | omega | (simp only [inK]; omega) | (simp; done) | (simp; omega) | exact decide_eq_true (by omega) | exact decide_eq_false (by omega) | rfl | (simp [Value.oneCell']; done) | exact i64s_one _ | exact AggOk.mk (by kernel_rfl) (by kernel_rfl)) ?_
      have e2 := eq_take hno (by omega) (by omega)
      clear ih hno hlt
      refine At.loop (n := a.O.length) (env0 := [(2, .pointer (some ⟨bq, 0, none⟩)), (3, .pointer (some ⟨br, 0, none⟩)), (7, .int .i64 0)]) (fun m env bx hp => ∃ i : Nat, m = a.O.length - i ∧ i ≤ a.O.length ∧ a.O.take i = b.O.take i ∧
        env = [(2, .pointer (some ⟨bq, 0, none⟩)), (3, .pointer (some ⟨br, 0, none⟩)), (7, .int .i64 i)] ∧ bx = [(br, 27, bkV b ⟨b1, b2, b3, b4, d1, d2, d3, d4⟩), (bq, 27, bkV a ⟨a1, a2, a3, a4, c1, c2, c3, c4⟩)] ∧ hp = []) rfl ⟨0, rfl, by omega, by simp, rfl, rfl, rfl⟩ ⟨rfl, rfl, rfl, trivial⟩ ?_
      rintro m env bx hp ⟨i, rfl, hi2, hno, rfl, rfl, rfl⟩ ih
      by_cases hlt : i < a.O.length
      · obtain ⟨x, hx⟩ : ∃ x, a.O[i]? = some x := ⟨_, List.getElem?_eq_getElem hlt⟩
        obtain ⟨y, hy⟩ : ∃ y, b.O[i]? = some y := ⟨_, List.getElem?_eq_getElem (by omega)⟩
        have hmx := List.mem_of_getElem? hx
        have hmy := List.mem_of_getElem? hy
        obtain ⟨g, o, rfl, hc⟩ := h3.get (slNe (by decide) ha.r3.len hx)
        obtain ⟨g2, o2, rfl, hc2⟩ := h3'.get (slNe (by decide) hb.r3.len hy)
        have r1 : ∀ {bx : Bx} {hp : List Seg}, RdW ⟨w, kys [] []⟩ bx hp g (o + (i : Int).toNat * 6) (i64s x) := fun {_ _} => RdW.rec ha.r3.len hc (by simp [kys]) hx (by omega)
        have r2 : ∀ {bx : Bx} {hp : List Seg}, RdW ⟨w, kys [] []⟩ bx hp g2 (o2 + (i : Int).toNat * 6) (i64s y) := fun {_ _} => RdW.rec hb.r3.len hc2 (by simp [kys]) hy (by omega)
        have hne := fun h => ne_of_get hx hy h
        have hn := fun (h : x = y) => take_next hno hx (by rw [h]; exact hy)
        obtain ⟨x0, x1, x2, x3, x4, x5, rfl⟩ := len6 (ha.r3.len x hmx)
        obtain ⟨y0, y1, y2, y3, y4, y5, rfl⟩ := len6 (hb.r3.len y hmy)
        refine At.run 100 true [true] [hB 1] rfl (by (repeat' apply And.intro) <;> first | exact True.intro | omega | (simp only [inK]; omega) | (simp; done) | (simp; omega) | exact decide_eq_true (by omega) | exact decide_eq_false (by omega) | rfl | (simp [Value.oneCell']; done) | exact i64s_one _ | exact AggOk.mk (by kernel_rfl) (by kernel_rfl)) ?_
        refine At.quiet true [] [hB 1, hR [.int .i64 x0, .int .i64 x1, .int .i64 x2, .int .i64 x3, .int .i64 x4, .int .i64 x5], hB 0, hR [.int .i64 y0, .int .i64 y1, .int .i64 y2, .int .i64 y3, .int .i64 y4, .int .i64 y5]] ⟨by kernel_rfl, by kernel_rfl, rfl, rfl, rfl⟩ rfl rfl rfl (by (repeat' apply And.intro) <;> first | exact r1 | exact r2 | exact True.intro | omega | rfl | (simp only [inK]; omega) | exact decide_eq_true (by omega) | exact decide_eq_false (by omega) | (simp; done) | (simp; omega) | (simp [Value.oneCell']; done) | exact i64s_one _ | exact AggOk.mk (by kernel_rfl) (by kernel_rfl)) ?_
        rw [ch6]
        by_cases hxy : [x0, x1, x2, x3, x4, x5] = [y0, y1, y2, y3, y4, y5]
        · refine At.run 100 true [false] [] rfl (by (repeat' apply And.intro) <;> first | rw [decide_eq_true hxy]; rfl | exact True.intro | omega | rfl | (simp only [inK]; omega) | exact decide_eq_true (by omega) | exact decide_eq_false (by omega) | (simp; done) | (simp; omega) | (simp [Value.oneCell']; done) | exact i64s_one _ | exact AggOk.mk (by kernel_rfl) (by kernel_rfl)) ?_
          refine At.weak (ih (a.O.length - (i + 1)) _ _ _ (by omega) ⟨i + 1, rfl, by omega, hn hxy, rfl, rfl, rfl⟩) ⟨rfl, rfl, some_int_eq (by omega), trivial⟩
        · refine At.run 100 true [true] [] rfl (by (repeat' apply And.intro) <;> first | rw [decide_eq_false hxy]; rfl | exact True.intro | omega | rfl | (simp only [inK]; omega) | exact decide_eq_true (by omega) | exact decide_eq_false (by omega) | (simp; done) | (simp; omega) | (simp [Value.oneCell']; done) | exact i64s_one _ | exact AggOk.mk (by kernel_rfl) (by kernel_rfl)) ?_
          exact At.retK [] [] [] rfl rfl Tryz.func12 rfl trivial ⟨by rw [sameF (fun h => hne hxy h.2.2.1)]; rfl, rfl, rfl⟩
      · refine At.run 100 true [false] [hB 1] rfl (by (repeat' apply And.intro) <;> first | exact True.intro | omega | (simp only [inK]; omega) | (simp; done) | (simp; omega) | exact decide_eq_true (by omega) | exact decide_eq_false (by omega) | rfl | (simp [Value.oneCell']; done) | exact i64s_one _ | exact AggOk.mk (by kernel_rfl) (by kernel_rfl)) ?_
        have e3 := eq_take hno (by omega) (by omega)
        clear ih hno hlt
        refine At.loop (n := a.R.length) (env0 := [(2, .pointer (some ⟨bq, 0, none⟩)), (3, .pointer (some ⟨br, 0, none⟩)), (8, .int .i64 0)]) (fun m env bx hp => ∃ i : Nat, m = a.R.length - i ∧ i ≤ a.R.length ∧ a.R.take i = b.R.take i ∧
          env = [(2, .pointer (some ⟨bq, 0, none⟩)), (3, .pointer (some ⟨br, 0, none⟩)), (8, .int .i64 i)] ∧ bx = [(br, 27, bkV b ⟨b1, b2, b3, b4, d1, d2, d3, d4⟩), (bq, 27, bkV a ⟨a1, a2, a3, a4, c1, c2, c3, c4⟩)] ∧ hp = []) rfl ⟨0, rfl, by omega, by simp, rfl, rfl, rfl⟩ ⟨rfl, rfl, rfl, trivial⟩ ?_
        rintro m env bx hp ⟨i, rfl, hi2, hno, rfl, rfl, rfl⟩ ih
        by_cases hlt : i < a.R.length
        · obtain ⟨x, hx⟩ : ∃ x, a.R[i]? = some x := ⟨_, List.getElem?_eq_getElem hlt⟩
          obtain ⟨y, hy⟩ : ∃ y, b.R[i]? = some y := ⟨_, List.getElem?_eq_getElem (by omega)⟩
          have hmx := List.mem_of_getElem? hx
          have hmy := List.mem_of_getElem? hy
          obtain ⟨g, o, rfl, hc⟩ := h4.get (slNe (by decide) ha.r4.len hx)
          obtain ⟨g2, o2, rfl, hc2⟩ := h4'.get (slNe (by decide) hb.r4.len hy)
          have r1 : ∀ {bx : Bx} {hp : List Seg}, RdW ⟨w, kys [] []⟩ bx hp g (o + (i : Int).toNat * 2) (i64s x) := fun {_ _} => RdW.rec ha.r4.len hc (by simp [kys]) hx (by omega)
          have r2 : ∀ {bx : Bx} {hp : List Seg}, RdW ⟨w, kys [] []⟩ bx hp g2 (o2 + (i : Int).toNat * 2) (i64s y) := fun {_ _} => RdW.rec hb.r4.len hc2 (by simp [kys]) hy (by omega)
          have hne := fun h => ne_of_get hx hy h
          have hn := fun (h : x = y) => take_next hno hx (by rw [h]; exact hy)
          obtain ⟨x0, x1, rfl⟩ := len2 (ha.r4.len x hmx)
          obtain ⟨y0, y1, rfl⟩ := len2 (hb.r4.len y hmy)
          refine At.run 100 true [true] [hB 1] rfl (by (repeat' apply And.intro) <;> first | exact True.intro | omega | (simp only [inK]; omega) | (simp; done) | (simp; omega) | exact decide_eq_true (by omega) | exact decide_eq_false (by omega) | rfl | (simp [Value.oneCell']; done) | exact i64s_one _ | exact AggOk.mk (by kernel_rfl) (by kernel_rfl)) ?_
          refine At.quiet true [] [hB 1, hR [.int .i64 x0, .int .i64 x1], hB 0, hR [.int .i64 y0, .int .i64 y1]] ⟨by kernel_rfl, by kernel_rfl, rfl, rfl, rfl⟩ rfl rfl rfl (by (repeat' apply And.intro) <;> first | exact r1 | exact r2 | exact True.intro | omega | rfl | (simp only [inK]; omega) | exact decide_eq_true (by omega) | exact decide_eq_false (by omega) | (simp; done) | (simp; omega) | (simp [Value.oneCell']; done) | exact i64s_one _ | exact AggOk.mk (by kernel_rfl) (by kernel_rfl)) ?_
          rw [ch2]
          by_cases hxy : [x0, x1] = [y0, y1]
          · refine At.run 100 true [false] [] rfl (by (repeat' apply And.intro) <;> first | rw [decide_eq_true hxy]; rfl | exact True.intro | omega | rfl | (simp only [inK]; omega) | exact decide_eq_true (by omega) | exact decide_eq_false (by omega) | (simp; done) | (simp; omega) | (simp [Value.oneCell']; done) | exact i64s_one _ | exact AggOk.mk (by kernel_rfl) (by kernel_rfl)) ?_
            refine At.weak (ih (a.R.length - (i + 1)) _ _ _ (by omega) ⟨i + 1, rfl, by omega, hn hxy, rfl, rfl, rfl⟩) ⟨rfl, rfl, some_int_eq (by omega), trivial⟩
          · refine At.run 100 true [true] [] rfl (by (repeat' apply And.intro) <;> first | rw [decide_eq_false hxy]; rfl | exact True.intro | omega | rfl | (simp only [inK]; omega) | exact decide_eq_true (by omega) | exact decide_eq_false (by omega) | (simp; done) | (simp; omega) | (simp [Value.oneCell']; done) | exact i64s_one _ | exact AggOk.mk (by kernel_rfl) (by kernel_rfl)) ?_
            exact At.retK [] [] [] rfl rfl Tryz.func12 rfl trivial ⟨by rw [sameF (fun h => hne hxy h.2.2.2.1)]; rfl, rfl, rfl⟩
        · refine At.run 100 true [false] [hB 1] rfl (by (repeat' apply And.intro) <;> first | exact True.intro | omega | (simp only [inK]; omega) | (simp; done) | (simp; omega) | exact decide_eq_true (by omega) | exact decide_eq_false (by omega) | rfl | (simp [Value.oneCell']; done) | exact i64s_one _ | exact AggOk.mk (by kernel_rfl) (by kernel_rfl)) ?_
          have e4 := eq_take hno (by omega) (by omega)
          clear ih hno hlt
          exact At.retK [] [] [] rfl rfl Tryz.func12 rfl trivial ⟨by rw [show sameB a b = true from decide_eq_true ⟨e1, e2, e3, e4, by omega⟩]; rfl, rfl, rfl⟩

end Go.Proofs

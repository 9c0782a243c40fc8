/-
  Walks of layer 12: may a book be?
-/
import Derived.Test.YtfpoclhenokhhaaGreatW22
namespace Go.Proofs
open Go Go.Eng
set_option maxRecDepth 100000
set_option maxHeartbeats 4000000
attribute [local irreducible] Tri

theorem Tryz.lists_w (b : Bk) (A : BkA) (w : World) (hi : BkIn b) (ho : BkOk w b A) : Fun Tryz.prog 40 [.agg ⟨bkV b A⟩] w (.bool (listsB b)) := by
  refine Tri.enter (bx := []) (hp := []) Tryz.func40 rfl (by kernel_rfl) rfl (Own.nil w) ?_
  refine At.run 100 true [] [] rfl trivial ?_
  refine At.step [] rfl rfl rfl rfl rfl trivial (OpOk.box rfl rfl rfl fun bq hbq => ?_)
  have h1 : ∀ {bx : Bx} {hp : List Seg}, CallOb Tryz.prog ⟨w, kys [] []⟩ bx hp 93 [.slice A.a1 b.H.length A.c1, .func (.func 94) ⟨[]⟩ ⟨[]⟩, .func (.func 95) ⟨[]⟩ ⟨[]⟩] (.bool (ris lt1 b.H)) := fun {_ _} w' hw' => Tryz.risingHolder_w b.H A.a1 A.c1 w' hi.r1.len hi.l1 (ho.ext hw'.ext (by simp [kys])).h1
  have h3 : ∀ {bx : Bx} {hp : List Seg}, CallOb Tryz.prog ⟨w, kys [] []⟩ bx hp 96 [.slice A.a3 b.O.length A.c3, .func (.func 97) ⟨[]⟩ ⟨[]⟩, .func (.func 98) ⟨[]⟩ ⟨[]⟩] (.bool (ris lt1 b.O)) := fun {_ _} w' hw' => Tryz.risingOpen_w b.O A.a3 A.c3 w' hi.r3.len hi.l3 (ho.ext hw'.ext (by simp [kys])).h3
  have h4 : ∀ {bx : Bx} {hp : List Seg}, CallOb Tryz.prog ⟨w, kys [] []⟩ bx hp 99 [.slice A.a4 b.R.length A.c4, .func (.func 100) ⟨[]⟩ ⟨[]⟩, .func (.func 101) ⟨[]⟩ ⟨[]⟩] (.bool (ris lt1 b.R)) := fun {_ _} w' hw' => Tryz.risingRate_w b.R A.a4 A.c4 w' hi.r4.len hi.l4 (ho.ext hw'.ext (by simp [kys])).h4
  have h2 : ∀ {bx : Bx} {hp : List Seg}, CallOb Tryz.prog ⟨w, kys [] []⟩ bx hp 102 [.slice A.a2 b.S.length A.c2, .func (.func 103) ⟨[]⟩ ⟨[]⟩, .func (.func 104) ⟨[]⟩ ⟨[]⟩] (.bool (ris lt2 b.S)) := fun {_ _} w' hw' => Tryz.risingStake_w b.S A.a2 A.c2 w' hi.r2.len hi.l2 (ho.ext hw'.ext (by simp [kys])).h2
  have l1 := hi.l1
  have l3 := hi.l3
  have l4 := hi.l4
  unfold listsB
  by_cases g1 : b.H.length ≤ 32
  · by_cases g2 : b.O.length ≤ 64
    · by_cases g3 : b.R.length ≤ 32
      · refine At.run 100 true [false, false, false] [hB 0, hB 0, hB 0] rfl (by (repeat' apply And.intro) <;> first | exact True.intro | omega | (simp only [inK]; omega) | (simp; done) | (simp; omega) | exact decide_eq_true (by omega) | exact decide_eq_false (by omega) | rfl | (simp [Value.oneCell']; done) | exact i64s_one _ | exact AggOk.mk (by kernel_rfl) (by kernel_rfl)) ?_
        simp only [g1, g2, g3, decide_true, Bool.true_and]
        cases e1 : ris lt1 b.H with
        | false =>
          rw [e1] at h1
          refine At.run 100 true [false, false, false] [hB 0, hC (.bool false)] rfl (by (repeat' apply And.intro) <;> first | exact h1 | exact True.intro | omega | rfl | (simp only [inK]; omega) | exact decide_eq_true (by omega) | exact decide_eq_false (by omega) | (simp; done) | (simp; omega) | (simp [Value.oneCell']; done) | exact i64s_one _ | exact AggOk.mk (by kernel_rfl) (by kernel_rfl)) ?_
          exact At.retK [] [] [] rfl rfl Tryz.func40 rfl trivial ⟨rfl, rfl, rfl⟩
        | true =>
          rw [e1] at h1
          cases e3 : ris lt1 b.O with
          | false =>
            rw [e3] at h3
            refine At.run 100 true [true, false, false] [hB 0, hC (.bool true), hB 0, hC (.bool false)] rfl (by (repeat' apply And.intro) <;> first | exact h1 | exact h3 | exact True.intro | omega | rfl | (simp only [inK]; omega) | exact decide_eq_true (by omega) | exact decide_eq_false (by omega) | (simp; done) | (simp; omega) | (simp [Value.oneCell']; done) | exact i64s_one _ | exact AggOk.mk (by kernel_rfl) (by kernel_rfl)) ?_
            exact At.retK [] [] [] rfl rfl Tryz.func40 rfl trivial ⟨rfl, rfl, rfl⟩
          | true =>
            rw [e3] at h3
            cases e4 : ris lt1 b.R with
            | false =>
              rw [e4] at h4
              refine At.run 100 true [true, true, false] [hB 0, hC (.bool true), hB 0, hC (.bool true), hB 0, hC (.bool false)] rfl (by (repeat' apply And.intro) <;> first | exact h1 | exact h3 | exact h4 | exact True.intro | omega | rfl | (simp only [inK]; omega) | exact decide_eq_true (by omega) | exact decide_eq_false (by omega) | (simp; done) | (simp; omega) | (simp [Value.oneCell']; done) | exact i64s_one _ | exact AggOk.mk (by kernel_rfl) (by kernel_rfl)) ?_
              exact At.retK [] [] [] rfl rfl Tryz.func40 rfl trivial ⟨rfl, rfl, rfl⟩
            | true =>
              rw [e4] at h4
              refine At.run 100 true [true, true, true] [hB 0, hC (.bool true), hB 0, hC (.bool true), hB 0, hC (.bool true), hB 0, hC (.bool (ris lt2 b.S))] rfl (by (repeat' apply And.intro) <;> first | exact h1 | exact h3 | exact h4 | exact h2 | exact True.intro | omega | rfl | (simp only [inK]; omega) | exact decide_eq_true (by omega) | exact decide_eq_false (by omega) | (simp; done) | (simp; omega) | (simp [Value.oneCell']; done) | exact i64s_one _ | exact AggOk.mk (by kernel_rfl) (by kernel_rfl)) ?_
              exact At.retK [] [] [] rfl rfl Tryz.func40 rfl trivial ⟨rfl, rfl, rfl⟩
      · refine At.run 100 true [false, false, true] [hB 0, hB 0, hB 0] rfl (by (repeat' apply And.intro) <;> first | exact True.intro | omega | (simp only [inK]; omega) | (simp; done) | (simp; omega) | exact decide_eq_true (by omega) | exact decide_eq_false (by omega) | rfl | (simp [Value.oneCell']; done) | exact i64s_one _ | exact AggOk.mk (by kernel_rfl) (by kernel_rfl)) ?_
        exact At.retK [] [] [] rfl rfl Tryz.func40 rfl trivial ⟨by simp [g3, tupV], rfl, rfl⟩
    · refine At.run 100 true [false, true, true] [hB 0, hB 0] rfl (by (repeat' apply And.intro) <;> first | exact True.intro | omega | (simp only [inK]; omega) | (simp; done) | (simp; omega) | exact decide_eq_true (by omega) | exact decide_eq_false (by omega) | rfl | (simp [Value.oneCell']; done) | exact i64s_one _ | exact AggOk.mk (by kernel_rfl) (by kernel_rfl)) ?_
      exact At.retK [] [] [] rfl rfl Tryz.func40 rfl trivial ⟨by simp [g2, tupV], rfl, rfl⟩
  · refine At.run 100 true [true, true, true] [hB 0] rfl (by (repeat' apply And.intro) <;> first | exact True.intro | omega | (simp only [inK]; omega) | (simp; done) | (simp; omega) | exact decide_eq_true (by omega) | exact decide_eq_false (by omega) | rfl | (simp [Value.oneCell']; done) | exact i64s_one _ | exact AggOk.mk (by kernel_rfl) (by kernel_rfl)) ?_
    exact At.retK [] [] [] rfl rfl Tryz.func40 rfl trivial ⟨by simp [g1, tupV], rfl, rfl⟩

theorem Tryz.Holder_w (b : Bk) (A : BkA) (k : Int) (w : World) (hi : BkIn b) (ho : BkOk w b A) (hr : ris lt1 b.H = true) :
    Fun Tryz.prog 42 [.agg ⟨bkV b A⟩, .int .i64 k] w (.tuple #[.agg ⟨i64s ((fnd b.H k).getD [0, 0, 0, 0])⟩, .bool (fnd b.H k).isSome]) := by
  refine Tri.enter (bx := []) (hp := []) Tryz.func42 rfl (by kernel_rfl) rfl (Own.nil w) ?_
  refine At.run 100 true [] [] rfl trivial ?_
  refine At.step [] rfl rfl rfl rfl rfl trivial (OpOk.box rfl rfl rfl fun bq hbq => ?_)
  refine At.step [] rfl rfl rfl rfl rfl trivial (OpOk.alloc (cs := i64s [0, 0, 0, 0]) rfl (by kernel_rfl) fun b2 hb2 => ?_)
  have hf : ∀ {bx : Bx} {hp : List Seg}, CallOb Tryz.prog ⟨w, kys [] []⟩ bx hp 105 [.slice A.a1 b.H.length A.c1, .int .i64 k, .func (.func 95) ⟨[]⟩ ⟨[]⟩] (.tuple #[.agg ⟨i64s ((fnd b.H k).getD [0, 0, 0, 0])⟩, .bool (fnd b.H k).isSome]) :=
    fun {_ _} w' hw' => Tryz.findHolder_w b.H A.a1 A.c1 k w' hi.r1.len hi.l1 (ho.ext hw'.ext (by simp [kys])).h1 hr
  obtain ⟨x, f, hx, hl⟩ : ∃ x f, (fnd b.H k).getD [0, 0, 0, 0] = x ∧ x.length = 4 ∧ (fnd b.H k).isSome = f := by
    refine ⟨_, _, rfl, ?_, rfl⟩
    cases h : fnd b.H k with
    | none => rfl
    | some x => exact hi.r1.len x (fnd_mem h)
  obtain ⟨hl, hf2⟩ := hl
  rw [hx, hf2] at hf ⊢
  obtain ⟨x0, x1, x2, x3, rfl⟩ := len4 hl
  refine At.run 100 true [] [hB 1, hC (.tuple #[.agg ⟨i64s [x0, x1, x2, x3]⟩, .bool f]), hB 0] rfl (by (repeat' apply And.intro) <;> first | exact hf | exact True.intro | omega | rfl | (simp only [inK]; omega) | exact decide_eq_true (by omega) | exact decide_eq_false (by omega) | (simp; done) | (simp; omega) | (simp [Value.oneCell']; done) | exact i64s_one _ | exact AggOk.mk (by kernel_rfl) (by kernel_rfl)) ?_
  exact At.retK [] [] [hB 0] rfl rfl Tryz.func42 rfl (by (repeat' apply And.intro) <;> first | exact True.intro | omega | (simp only [inK]; omega) | (simp; done) | (simp; omega) | exact decide_eq_true (by omega) | exact decide_eq_false (by omega) | rfl | (simp [Value.oneCell']; done) | exact i64s_one _ | exact AggOk.mk (by kernel_rfl) (by kernel_rfl)) ⟨rfl, rfl, rfl⟩

theorem Tryz.Rate_w (b : Bk) (A : BkA) (k : Int) (w : World) (hi : BkIn b) (ho : BkOk w b A) (hr : ris lt1 b.R = true) :
    Fun Tryz.prog 43 [.agg ⟨bkV b A⟩, .int .i64 k] w (.tuple #[.int .i64 (k1 ((fnd b.R k).getD [0, 0])), .bool (fnd b.R k).isSome]) := by
  refine Tri.enter (bx := []) (hp := []) Tryz.func43 rfl (by kernel_rfl) rfl (Own.nil w) ?_
  refine At.run 100 true [] [] rfl trivial ?_
  refine At.step [] rfl rfl rfl rfl rfl trivial (OpOk.box rfl rfl rfl fun bq hbq => ?_)
  have hf : ∀ {bx : Bx} {hp : List Seg}, CallOb Tryz.prog ⟨w, kys [] []⟩ bx hp 106 [.slice A.a4 b.R.length A.c4, .int .i64 k, .func (.func 101) ⟨[]⟩ ⟨[]⟩] (.tuple #[.agg ⟨i64s ((fnd b.R k).getD [0, 0])⟩, .bool (fnd b.R k).isSome]) :=
    fun {_ _} w' hw' => Tryz.findRate_w b.R A.a4 A.c4 k w' hi.r4.len hi.l4 (ho.ext hw'.ext (by simp [kys])).h4 hr
  obtain ⟨x, f, hx, hl⟩ : ∃ x f, (fnd b.R k).getD [0, 0] = x ∧ x.length = 2 ∧ (fnd b.R k).isSome = f := by
    refine ⟨_, _, rfl, ?_, rfl⟩
    cases h : fnd b.R k with
    | none => rfl
    | some x => exact hi.r4.len x (fnd_mem h)
  obtain ⟨hl, hf2⟩ := hl
  rw [hx, hf2] at hf ⊢
  obtain ⟨x0, x1, rfl⟩ := len2 hl
  refine At.run 100 true [] [hB 0, hC (.tuple #[.agg ⟨i64s [x0, x1]⟩, .bool f])] rfl (by (repeat' apply And.intro) <;> first | exact hf | exact True.intro | omega | rfl | (simp only [inK]; omega) | exact decide_eq_true (by omega) | exact decide_eq_false (by omega) | (simp; done) | (simp; omega) | (simp [Value.oneCell']; done) | exact i64s_one _ | exact AggOk.mk (by kernel_rfl) (by kernel_rfl)) ?_
  refine At.step [] rfl rfl rfl rfl rfl trivial (OpOk.alloc (cs := i64s [0, 0]) rfl (by kernel_rfl) fun b2 hb2 => ?_)
  refine At.run 100 true [] [hB 0, hB 0] rfl (by (repeat' apply And.intro) <;> first | exact True.intro | omega | (simp only [inK]; omega) | (simp; done) | (simp; omega) | exact decide_eq_true (by omega) | exact decide_eq_false (by omega) | rfl | (simp [Value.oneCell']; done) | exact i64s_one _ | exact AggOk.mk (by kernel_rfl) (by kernel_rfl)) ?_
  exact At.retK [] [] [] rfl rfl Tryz.func43 rfl (by (repeat' apply And.intro) <;> first | exact True.intro | omega | (simp only [inK]; omega) | (simp; done) | (simp; omega) | exact decide_eq_true (by omega) | exact decide_eq_false (by omega) | rfl | (simp [Value.oneCell']; done) | exact i64s_one _ | exact AggOk.mk (by kernel_rfl) (by kernel_rfl)) ⟨rfl, rfl, rfl⟩

theorem Tryz.There_w (b : Bk) (A : BkA) (acc sym : Int) (bb : Nat) (w : World) (hi : BkIn b) (ho : BkOk w b A) (hr : ris lt1 b.H = true) (hr4 : ris lt1 b.R = true) (hb : w.heap[bb]? = some (.cells (bkV b A).toArray 27 (0, 0))) :
    Fun Tryz.prog 41 [.int .i64 acc, .int .i64 sym, .pointer (some ⟨bb, 0, none⟩)] w (.bool (thereB b acc sym)) := by
  refine Tri.enter (bx := []) (hp := []) Tryz.func41 rfl (by kernel_rfl) rfl (Own.nil w) ?_
  have hld : ∀ {bx : Bx} {hp : List Seg}, RdW ⟨w, kys [] []⟩ bx hp bb 0 (bkV b A) := fun {_ _} => RdW.blkB (by simp [kys]) hb (fun j u hu => by rw [Nat.zero_add]; exact hu)
  have h1 : ∀ {bx : Bx} {hp : List Seg}, CallOb Tryz.prog ⟨w, kys [] []⟩ bx hp 42 [.agg ⟨bkV b A⟩, .int .i64 acc] (.tuple #[.agg ⟨i64s ((fnd b.H acc).getD [0, 0, 0, 0])⟩, .bool (fnd b.H acc).isSome]) := fun {_ _} w' hw' => Tryz.Holder_w b A acc w' hi (ho.ext hw'.ext (by simp [kys])) hr
  have h4 : ∀ {bx : Bx} {hp : List Seg}, CallOb Tryz.prog ⟨w, kys [] []⟩ bx hp 43 [.agg ⟨bkV b A⟩, .int .i64 sym] (.tuple #[.int .i64 (k1 ((fnd b.R sym).getD [0, 0])), .bool (fnd b.R sym).isSome]) := fun {_ _} w' hw' => Tryz.Rate_w b A sym w' hi (ho.ext hw'.ext (by simp [kys])) hr4
  unfold thereB
  obtain ⟨x, f, hx, hl⟩ : ∃ x f, (fnd b.H acc).getD [0, 0, 0, 0] = x ∧ x.length = 4 ∧ (fnd b.H acc).isSome = f := by
    refine ⟨_, _, rfl, ?_, rfl⟩
    cases h : fnd b.H acc with
    | none => rfl
    | some x => exact hi.r1.len x (fnd_mem h)
  obtain ⟨hl, hf2⟩ := hl
  rw [hx, hf2] at h1
  rw [hf2]
  obtain ⟨x0, x1, x2, x3, rfl⟩ := len4 hl
  generalize (fnd b.R sym).isSome = f4 at *
  generalize k1 ((fnd b.R sym).getD [0, 0]) = p4 at *
  refine At.run 100 true [] [hR (bkV b A), hC (.tuple #[.agg ⟨i64s [x0, x1, x2, x3]⟩, .bool f])] rfl (by (repeat' apply And.intro) <;> first | exact hld | exact h1 | exact True.intro | omega | rfl | (simp only [inK]; omega) | exact decide_eq_true (by omega) | exact decide_eq_false (by omega) | (simp; done) | (simp; omega) | (simp [Value.oneCell']; done) | exact i64s_one _ | exact AggOk.mk (by kernel_rfl) (by kernel_rfl)) ?_
  refine At.step [] rfl rfl rfl rfl rfl trivial (OpOk.alloc (cs := i64s [0, 0, 0, 0]) rfl (by kernel_rfl) fun b2 hb2 => ?_)
  cases f with
  | true =>
    refine At.run 100 true [true] [hB 0, hR (bkV b A), hC (.tuple #[.int .i64 p4, .bool f4])] rfl (by (repeat' apply And.intro) <;> first | exact hld | exact h4 | exact True.intro | omega | rfl | (simp only [inK]; omega) | exact decide_eq_true (by omega) | exact decide_eq_false (by omega) | (simp; done) | (simp; omega) | (simp [Value.oneCell']; done) | exact i64s_one _ | exact AggOk.mk (by kernel_rfl) (by kernel_rfl)) ?_
    exact At.retK [] [] [] rfl rfl Tryz.func41 rfl trivial ⟨rfl, rfl, rfl⟩
  | false =>
    refine At.run 100 true [false] [hB 0, hR (bkV b A), hC (.tuple #[.int .i64 p4, .bool f4])] rfl (by (repeat' apply And.intro) <;> first | exact hld | exact h4 | exact True.intro | omega | rfl | (simp only [inK]; omega) | exact decide_eq_true (by omega) | exact decide_eq_false (by omega) | (simp; done) | (simp; omega) | (simp [Value.oneCell']; done) | exact i64s_one _ | exact AggOk.mk (by kernel_rfl) (by kernel_rfl)) ?_
    exact At.retK [] [] [] rfl rfl Tryz.func41 rfl trivial ⟨rfl, rfl, rfl⟩

theorem Tryz.badH_w (x : List Int) (hx : x.length = 4) (w : World) : Fun Tryz.prog 44 [.agg ⟨i64s x⟩] w (.bool (badH x)) := by
  obtain ⟨x0, x1, x2, x3, rfl⟩ := len4 hx
  refine Tri.enter (bx := []) (hp := []) Tryz.func44 rfl (by kernel_rfl) rfl (Own.nil w) ?_
  refine At.run 100 true [] [] rfl trivial ?_
  refine At.step [] rfl rfl rfl rfl rfl trivial (OpOk.box rfl rfl rfl fun bq hbq => ?_)
  have e : badH [x0, x1, x2, x3] = (decide (x2 < 0) || decide (x3 < 0)) := rfl
  rw [e]
  by_cases h : x2 < 0
  · refine At.run 100 true [true] [hB 0] rfl (by (repeat' apply And.intro) <;> first | exact True.intro | omega | (simp only [inK]; omega) | (simp; done) | (simp; omega) | exact decide_eq_true (by omega) | exact decide_eq_false (by omega) | rfl | (simp [Value.oneCell']; done) | exact i64s_one _ | exact AggOk.mk (by kernel_rfl) (by kernel_rfl)) ?_
    exact At.retK [] [] [] rfl rfl Tryz.func44 rfl trivial ⟨by simp [h, tupV], rfl, rfl⟩
  · refine At.run 100 true [false] [hB 0, hB 0] rfl (by (repeat' apply And.intro) <;> first | exact True.intro | omega | (simp only [inK]; omega) | (simp; done) | (simp; omega) | exact decide_eq_true (by omega) | exact decide_eq_false (by omega) | rfl | (simp [Value.oneCell']; done) | exact i64s_one _ | exact AggOk.mk (by kernel_rfl) (by kernel_rfl)) ?_
    exact At.retK [] [] [] rfl rfl Tryz.func44 rfl trivial ⟨by simp [h, tupV], rfl, rfl⟩

theorem Tryz.badR_w (x : List Int) (hx : x.length = 2) (w : World) : Fun Tryz.prog 45 [.agg ⟨i64s x⟩] w (.bool (badR x)) := by
  obtain ⟨x0, x1, rfl⟩ := len2 hx
  refine Tri.enter (bx := []) (hp := []) Tryz.func45 rfl (by kernel_rfl) rfl (Own.nil w) ?_
  refine At.run 100 true [] [] rfl trivial ?_
  refine At.step [] rfl rfl rfl rfl rfl trivial (OpOk.box rfl rfl rfl fun bq hbq => ?_)
  refine At.run 100 true [] [hB 0] rfl (by (repeat' apply And.intro) <;> first | exact True.intro | omega | (simp only [inK]; omega) | (simp; done) | (simp; omega) | exact decide_eq_true (by omega) | exact decide_eq_false (by omega) | rfl | (simp [Value.oneCell']; done) | exact i64s_one _ | exact AggOk.mk (by kernel_rfl) (by kernel_rfl)) ?_
  exact At.retK [] [] [] rfl rfl Tryz.func45 rfl trivial ⟨rfl, rfl, rfl⟩

theorem Tryz.badS_w (b : Bk) (A : BkA) (x : List Int) (hx : x.length = 3) (bb bt : Nat) (w : World) (hi : BkIn b) (ho : BkOk w b A) (hr : ris lt1 b.H = true) (hr4 : ris lt1 b.R = true) (hb : w.heap[bb]? = some (.cells (bkV b A).toArray 27 (0, 0)))
    (ht : w.heap[bt]? = some (.cells [Value.func (.func 41) ⟨[]⟩ ⟨[.pointer (some ⟨bb, 0, none⟩)]⟩].toArray 91 (0, 0))) :
    Fun Tryz.prog 46 [.agg ⟨i64s x⟩, .pointer (some ⟨bt, 0, none⟩)] w (.bool (badS b x)) := by
  obtain ⟨x0, x1, x2, rfl⟩ := len3 hx
  refine Tri.enter (bx := []) (hp := []) Tryz.func46 rfl (by kernel_rfl) rfl (Own.nil w) ?_
  refine At.run 100 true [] [] rfl trivial ?_
  refine At.step [] rfl rfl rfl rfl rfl trivial (OpOk.box rfl rfl rfl fun bq hbq => ?_)
  have hld : ∀ {bx : Bx} {hp : List Seg}, RdW ⟨w, kys [] []⟩ bx hp bt 0 [.func (.func 41) ⟨[]⟩ ⟨[.pointer (some ⟨bb, 0, none⟩)]⟩] := fun {_ _} => RdW.blkB (by simp [kys]) ht (fun j u hu => by rw [Nat.zero_add]; exact hu)
  have hcall : ∀ {bx : Bx} {hp : List Seg}, CallOb Tryz.prog ⟨w, kys [] []⟩ bx hp 41 (allArgs [] [.int .i64 x0, .int .i64 x1] [.pointer (some ⟨bb, 0, none⟩)]) (.bool (thereB b x0 x1)) := fun {_ _} w' hw' => Tryz.There_w b A x0 x1 bb w' hi (ho.ext hw'.ext (by simp [kys])) hr hr4 (by rw [hw'.ext.block _ (Array.getElem?_eq_some_iff.1 hb).1 (by simp [kys])]; exact hb)
  have e : badS b [x0, x1, x2] = (decide (x2 = 0) || !thereB b x0 x1) := rfl
  rw [e]
  by_cases h : x2 = 0
  · refine At.run 100 true [true] [hB 0] rfl (by (repeat' apply And.intro) <;> first | exact True.intro | omega | (simp only [inK]; omega) | (simp; done) | (simp; omega) | exact decide_eq_true (by omega) | exact decide_eq_false (by omega) | rfl | (simp [Value.oneCell']; done) | exact i64s_one _ | exact AggOk.mk (by kernel_rfl) (by kernel_rfl)) ?_
    exact At.retK [] [] [] rfl rfl Tryz.func46 rfl trivial ⟨by simp [h, tupV], rfl, rfl⟩
  · refine At.run 100 true [false] [hB 0, hR [.func (.func 41) ⟨[]⟩ ⟨[.pointer (some ⟨bb, 0, none⟩)]⟩], hB 0, hB 0, hC (.bool (thereB b x0 x1))] rfl (by (repeat' apply And.intro) <;> first | exact hld | exact hcall | exact True.intro | omega | rfl | (simp only [inK]; omega) | exact decide_eq_true (by omega) | exact decide_eq_false (by omega) | (simp; done) | (simp; omega) | (simp [Value.oneCell']; done) | exact i64s_one _ | exact AggOk.mk (by kernel_rfl) (by kernel_rfl)) ?_
    exact At.retK [] [] [] rfl rfl Tryz.func46 rfl trivial ⟨by simp [h, tupV], rfl, rfl⟩

theorem Tryz.badO_w (b : Bk) (A : BkA) (x : List Int) (hx : x.length = 6) (bb bt : Nat) (w : World) (hi : BkIn b) (ho : BkOk w b A) (hr : ris lt1 b.H = true) (hr4 : ris lt1 b.R = true) (hb : w.heap[bb]? = some (.cells (bkV b A).toArray 27 (0, 0)))
    (ht : w.heap[bt]? = some (.cells [Value.func (.func 41) ⟨[]⟩ ⟨[.pointer (some ⟨bb, 0, none⟩)]⟩].toArray 91 (0, 0))) :
    Fun Tryz.prog 47 [.agg ⟨i64s x⟩, .pointer (some ⟨bt, 0, none⟩)] w (.bool (badO b x)) := by
  obtain ⟨x0, x1, x2, x3, x4, x5, rfl⟩ := len6 hx
  refine Tri.enter (bx := []) (hp := []) Tryz.func47 rfl (by kernel_rfl) rfl (Own.nil w) ?_
  refine At.run 100 true [] [] rfl trivial ?_
  refine At.step [] rfl rfl rfl rfl rfl trivial (OpOk.box rfl rfl rfl fun bq hbq => ?_)
  have hld : ∀ {bx : Bx} {hp : List Seg}, RdW ⟨w, kys [] []⟩ bx hp bt 0 [.func (.func 41) ⟨[]⟩ ⟨[.pointer (some ⟨bb, 0, none⟩)]⟩] := fun {_ _} => RdW.blkB (by simp [kys]) ht (fun j u hu => by rw [Nat.zero_add]; exact hu)
  have hcall : ∀ {bx : Bx} {hp : List Seg}, CallOb Tryz.prog ⟨w, kys [] []⟩ bx hp 41 (allArgs [] [.int .i64 x1, .int .i64 x2] [.pointer (some ⟨bb, 0, none⟩)]) (.bool (thereB b x1 x2)) := fun {_ _} w' hw' => Tryz.There_w b A x1 x2 bb w' hi (ho.ext hw'.ext (by simp [kys])) hr hr4 (by rw [hw'.ext.block _ (Array.getElem?_eq_some_iff.1 hb).1 (by simp [kys])]; exact hb)
  have e : badO b [x0, x1, x2, x3, x4, x5] = (decide (x4 < 1) || (decide (x5 < 1) || (decide (x3 < 0) || (decide (1 < x3) || !thereB b x1 x2)))) := rfl
  rw [e]
  by_cases g1 : x4 < 1
  · refine At.run 100 true [true, true, true, true] [hB 0] rfl (by (repeat' apply And.intro) <;> first | exact True.intro | omega | (simp only [inK]; omega) | (simp; done) | (simp; omega) | exact decide_eq_true (by omega) | exact decide_eq_false (by omega) | rfl | (simp [Value.oneCell']; done) | exact i64s_one _ | exact AggOk.mk (by kernel_rfl) (by kernel_rfl)) ?_
    exact At.retK [] [] [] rfl rfl Tryz.func47 rfl trivial ⟨by simp [g1, tupV], rfl, rfl⟩
  · by_cases g2 : x5 < 1
    · refine At.run 100 true [false, true, true, true] [hB 0, hB 0] rfl (by (repeat' apply And.intro) <;> first | exact True.intro | omega | (simp only [inK]; omega) | (simp; done) | (simp; omega) | exact decide_eq_true (by omega) | exact decide_eq_false (by omega) | rfl | (simp [Value.oneCell']; done) | exact i64s_one _ | exact AggOk.mk (by kernel_rfl) (by kernel_rfl)) ?_
      exact At.retK [] [] [] rfl rfl Tryz.func47 rfl trivial ⟨by simp [g2, tupV], rfl, rfl⟩
    · by_cases g3 : x3 < 0
      · refine At.run 100 true [false, false, true, true] [hB 0, hB 0, hB 0] rfl (by (repeat' apply And.intro) <;> first | exact True.intro | omega | (simp only [inK]; omega) | (simp; done) | (simp; omega) | exact decide_eq_true (by omega) | exact decide_eq_false (by omega) | rfl | (simp [Value.oneCell']; done) | exact i64s_one _ | exact AggOk.mk (by kernel_rfl) (by kernel_rfl)) ?_
        exact At.retK [] [] [] rfl rfl Tryz.func47 rfl trivial ⟨by simp [g3, tupV], rfl, rfl⟩
      · by_cases g4 : 1 < x3
        · refine At.run 100 true [false, false, false, true] [hB 0, hB 0, hB 0, hB 0] rfl (by (repeat' apply And.intro) <;> first | exact True.intro | omega | (simp only [inK]; omega) | (simp; done) | (simp; omega) | exact decide_eq_true (by omega) | exact decide_eq_false (by omega) | rfl | (simp [Value.oneCell']; done) | exact i64s_one _ | exact AggOk.mk (by kernel_rfl) (by kernel_rfl)) ?_
          exact At.retK [] [] [] rfl rfl Tryz.func47 rfl trivial ⟨by simp [g4, tupV], rfl, rfl⟩
        · refine At.run 100 true [false, false, false, false] [hB 0, hB 0, hB 0, hB 0, hR [.func (.func 41) ⟨[]⟩ ⟨[.pointer (some ⟨bb, 0, none⟩)]⟩], hB 0, hB 0, hC (.bool (thereB b x1 x2))] rfl (by (repeat' apply And.intro) <;> first | exact hld | exact hcall | exact True.intro | omega | rfl | (simp only [inK]; omega) | exact decide_eq_true (by omega) | exact decide_eq_false (by omega) | (simp; done) | (simp; omega) | (simp [Value.oneCell']; done) | exact i64s_one _ | exact AggOk.mk (by kernel_rfl) (by kernel_rfl)) ?_
          exact At.retK [] [] [] rfl rfl Tryz.func47 rfl trivial ⟨by simp [g1, g2, g3, g4, tupV], rfl, rfl⟩
theorem listsB_ris {b : Bk} (h : listsB b = true) : ris lt1 b.H = true ∧ ris lt1 b.O = true ∧ ris lt1 b.R = true ∧ ris lt2 b.S = true := by
  simp only [listsB, Bool.and_eq_true, decide_eq_true_eq] at h
  exact ⟨h.2.2.2.1, h.2.2.2.2.1, h.2.2.2.2.2.1, h.2.2.2.2.2.2⟩

theorem Tryz.May_w (b : Bk) (A : BkA) (w : World) (hi : BkIn b) (ho : BkOk w b A) : Fun Tryz.prog 14 [.agg ⟨bkV b A⟩] w (.bool (mayB b)) := by
  refine Tri.enter (bx := []) (hp := []) Tryz.func14 rfl (by kernel_rfl) rfl (Own.nil w) ?_
  refine At.run 100 true [] [] rfl trivial ?_
  refine At.step [] rfl rfl rfl rfl rfl trivial (OpOk.box rfl rfl rfl fun bq hbq => ?_)
  have hL : ∀ {bx : Bx} {hp : List Seg}, CallOb Tryz.prog ⟨w, kys [] []⟩ bx hp 40 [.agg ⟨bkV b A⟩] (.bool (listsB b)) := fun {_ _} w' hw' => Tryz.lists_w b A w' hi (ho.ext hw'.ext (by simp [kys]))
  unfold mayB
  cases eL : listsB b with
  | false =>
    rw [eL] at hL
    refine At.run 100 true [true, true, true] [hB 0, hC (.bool false)] rfl (by (repeat' apply And.intro) <;> first | exact hL | exact True.intro | omega | rfl | (simp only [inK]; omega) | exact decide_eq_true (by omega) | exact decide_eq_false (by omega) | (simp; done) | (simp; omega) | (simp [Value.oneCell']; done) | exact i64s_one _ | exact AggOk.mk (by kernel_rfl) (by kernel_rfl)) ?_
    exact At.retK [] [] [] rfl rfl Tryz.func14 rfl trivial ⟨rfl, rfl, rfl⟩
  | true =>
    rw [eL] at hL
    obtain ⟨hr, -, hr4, -⟩ := listsB_ris eL
    by_cases g1 : b.c < 0
    · refine At.run 100 true [false, true, true] [hB 0, hC (.bool true), hB 0] rfl (by (repeat' apply And.intro) <;> first | exact hL | exact True.intro | omega | rfl | (simp only [inK]; omega) | exact decide_eq_true (by omega) | exact decide_eq_false (by omega) | (simp; done) | (simp; omega) | (simp [Value.oneCell']; done) | exact i64s_one _ | exact AggOk.mk (by kernel_rfl) (by kernel_rfl)) ?_
      exact At.retK [] [] [] rfl rfl Tryz.func14 rfl trivial ⟨by rw [show decide (0 ≤ b.c ∧ b.c ≤ 1099511627776) = false from decide_eq_false (by omega)]; rfl, rfl, rfl⟩
    by_cases g2 : 1099511627776 < b.c
    · refine At.run 100 true [false, false, true] [hB 0, hC (.bool true), hB 0, hB 0] rfl (by (repeat' apply And.intro) <;> first | exact hL | exact True.intro | omega | rfl | (simp only [inK]; omega) | exact decide_eq_true (by omega) | exact decide_eq_false (by omega) | (simp; done) | (simp; omega) | (simp [Value.oneCell']; done) | exact i64s_one _ | exact AggOk.mk (by kernel_rfl) (by kernel_rfl)) ?_
      exact At.retK [] [] [] rfl rfl Tryz.func14 rfl trivial ⟨by rw [show decide (0 ≤ b.c ∧ b.c ≤ 1099511627776) = false from decide_eq_false (by omega)]; rfl, rfl, rfl⟩
    rw [show decide (0 ≤ b.c ∧ b.c ≤ 1099511627776) = true from decide_eq_true (by omega)]
    refine At.run 100 true [false, false, false] [hB 0, hC (.bool true), hB 0, hB 0] rfl (by (repeat' apply And.intro) <;> first | exact hL | exact True.intro | omega | rfl | (simp only [inK]; omega) | exact decide_eq_true (by omega) | exact decide_eq_false (by omega) | (simp; done) | (simp; omega) | (simp [Value.oneCell']; done) | exact i64s_one _ | exact AggOk.mk (by kernel_rfl) (by kernel_rfl)) ?_
    refine At.step [] rfl rfl rfl rfl rfl trivial (OpOk.alloc (cs := [.nilFunc]) rfl (by kernel_rfl) fun bt hbt => ?_)
    refine At.run 100 true [] [hB 0] rfl (by (repeat' apply And.intro) <;> first | exact True.intro | omega | (simp only [inK]; omega) | (simp; done) | (simp; omega) | exact decide_eq_true (by omega) | exact decide_eq_false (by omega) | rfl | (simp [Value.oneCell']; done) | exact i64s_one _ | exact AggOk.mk (by kernel_rfl) (by kernel_rfl)) ?_
    have hb : ∀ {hp : List Seg} {w' : World}, WOk ⟨w, kys [] []⟩ [(bt, 91, [Value.func (.func 41) ⟨[]⟩ ⟨[.pointer (some ⟨bq, 0, none⟩)]⟩]), (bq, 27, bkV b A)] hp w' →
        w'.heap[bq]? = some (.cells (bkV b A).toArray 27 (0, 0)) ∧ w'.heap[bt]? = some (.cells [Value.func (.func 41) ⟨[]⟩ ⟨[.pointer (some ⟨bq, 0, none⟩)]⟩].toArray 91 (0, 0)) :=
      fun {hp w'} hw' => ⟨hw'.bx (bq, _, bkV b A) (by simp), hw'.bx (bt, _, _) (List.mem_cons_self ..)⟩
    have up : ∀ {w1 w2 : World} {k t : Nat} {cs : List Value}, Ext [] w1 w2 → w1.heap[k]? = some (.cells cs.toArray t (0, 0)) → w2.heap[k]? = some (.cells cs.toArray t (0, 0)) := fun {w1 w2 k t cs} he hk => by
      rw [he.block _ (Array.getElem?_eq_some_iff.1 hk).1 (by simp)]; exact hk
    have c1 : ∀ {bx : Bx} {hp : List Seg}, CallOb Tryz.prog ⟨w, kys [] []⟩ bx hp 48 [.slice A.a1 b.H.length A.c1, .func (.func 44) ⟨[]⟩ ⟨[]⟩] (.bool (b.H.any badH)) := fun {_ _} w' hw' =>
      Tryz.containsHolder_w b.H A.a1 A.c1 _ [] badH w' hi.r1.len hi.l1 (ho.ext hw'.ext (by simp [kys])).h1 (fun x hx w2 he => Tryz.badH_w x (hi.r1.len x hx) w2)
    have c4 : ∀ {bx : Bx} {hp : List Seg}, CallOb Tryz.prog ⟨w, kys [] []⟩ bx hp 49 [.slice A.a4 b.R.length A.c4, .func (.func 45) ⟨[]⟩ ⟨[]⟩] (.bool (b.R.any badR)) := fun {_ _} w' hw' =>
      Tryz.containsRate_w b.R A.a4 A.c4 _ [] badR w' hi.r4.len hi.l4 (ho.ext hw'.ext (by simp [kys])).h4 (fun x hx w2 he => Tryz.badR_w x (hi.r4.len x hx) w2)
    have c2 : ∀ {hp : List Seg}, CallOb Tryz.prog ⟨w, kys [] []⟩ [(bt, 91, [Value.func (.func 41) ⟨[]⟩ ⟨[.pointer (some ⟨bq, 0, none⟩)]⟩]), (bq, 27, bkV b A)] hp 50 [.slice A.a2 b.S.length A.c2, .func (.func 46) ⟨[]⟩ ⟨[.pointer (some ⟨bt, 0, none⟩)]⟩] (.bool (b.S.any (badS b))) := fun {_} w' hw' =>
      Tryz.containsStake_w b.S A.a2 A.c2 _ _ (badS b) w' hi.r2.len hi.l2 (ho.ext hw'.ext (by simp [kys])).h2 (fun x hx w2 he => Tryz.badS_w b A x (hi.r2.len x hx) bq bt w2 hi (ho.ext (hw'.ext.trans he) (by simp [kys])) hr hr4 (up he (hb hw').1) (up he (hb hw').2))
    have c3 : ∀ {hp : List Seg}, CallOb Tryz.prog ⟨w, kys [] []⟩ [(bt, 91, [Value.func (.func 41) ⟨[]⟩ ⟨[.pointer (some ⟨bq, 0, none⟩)]⟩]), (bq, 27, bkV b A)] hp 51 [.slice A.a3 b.O.length A.c3, .func (.func 47) ⟨[]⟩ ⟨[.pointer (some ⟨bt, 0, none⟩)]⟩] (.bool (b.O.any (badO b))) := fun {_} w' hw' =>
      Tryz.containsOpen_w b.O A.a3 A.c3 _ _ (badO b) w' hi.r3.len hi.l3 (ho.ext hw'.ext (by simp [kys])).h3 (fun x hx w2 he => Tryz.badO_w b A x (hi.r3.len x hx) bq bt w2 hi (ho.ext (hw'.ext.trans he) (by simp [kys])) hr hr4 (up he (hb hw').1) (up he (hb hw').2))
    cases e1 : b.H.any badH with
    | true =>
      rw [e1] at c1
      refine At.run 100 true [false, false, false] [hB 1, hC (.bool true)] rfl (by (repeat' apply And.intro) <;> first | exact c1 | exact True.intro | omega | rfl | (simp only [inK]; omega) | exact decide_eq_true (by omega) | exact decide_eq_false (by omega) | (simp; done) | (simp; omega) | (simp [Value.oneCell']; done) | exact i64s_one _ | exact AggOk.mk (by kernel_rfl) (by kernel_rfl)) ?_
      exact At.retK [] [] [] rfl rfl Tryz.func14 rfl trivial ⟨rfl, rfl, rfl⟩
    | false =>
      rw [e1] at c1
      cases e4 : b.R.any badR with
      | true =>
        rw [e4] at c4
        refine At.run 100 true [true, false, false] [hB 1, hC (.bool false), hB 1, hC (.bool true)] rfl (by (repeat' apply And.intro) <;> first | exact c1 | exact c4 | exact True.intro | omega | rfl | (simp only [inK]; omega) | exact decide_eq_true (by omega) | exact decide_eq_false (by omega) | (simp; done) | (simp; omega) | (simp [Value.oneCell']; done) | exact i64s_one _ | exact AggOk.mk (by kernel_rfl) (by kernel_rfl)) ?_
        exact At.retK [] [] [] rfl rfl Tryz.func14 rfl trivial ⟨rfl, rfl, rfl⟩
      | false =>
        rw [e4] at c4
        cases e2 : b.S.any (badS b) with
        | true =>
          rw [e2] at c2
          refine At.run 100 true [true, true, false] [hB 1, hC (.bool false), hB 1, hC (.bool false), hB 1, hC (.bool true)] rfl (by (repeat' apply And.intro) <;> first | exact c1 | exact c4 | exact c2 | exact True.intro | omega | rfl | (simp only [inK]; omega) | exact decide_eq_true (by omega) | exact decide_eq_false (by omega) | (simp; done) | (simp; omega) | (simp [Value.oneCell']; done) | exact i64s_one _ | exact AggOk.mk (by kernel_rfl) (by kernel_rfl)) ?_
          exact At.retK [] [] [] rfl rfl Tryz.func14 rfl trivial ⟨rfl, rfl, rfl⟩
        | false =>
          rw [e2] at c2
          refine At.run 100 true [true, true, true] [hB 1, hC (.bool false), hB 1, hC (.bool false), hB 1, hC (.bool false), hB 1, hC (.bool (b.O.any (badO b)))] rfl (by (repeat' apply And.intro) <;> first | exact c1 | exact c4 | exact c2 | exact c3 | exact True.intro | omega | rfl | (simp only [inK]; omega) | exact decide_eq_true (by omega) | exact decide_eq_false (by omega) | (simp; done) | (simp; omega) | (simp [Value.oneCell']; done) | exact i64s_one _ | exact AggOk.mk (by kernel_rfl) (by kernel_rfl)) ?_
          exact At.retK [] [] [] rfl rfl Tryz.func14 rfl trivial ⟨rfl, rfl, rfl⟩
end Go.Proofs

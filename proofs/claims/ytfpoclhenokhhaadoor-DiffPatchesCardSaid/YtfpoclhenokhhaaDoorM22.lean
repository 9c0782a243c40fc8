/-
  Walks of layer 12: the reference's books, on.
-/
import Derived.Test.YtfpoclhenokhhaaDoorM9
/-
  Walks of layer 12: the reference's books, on.
-/
namespace Go.Proofs
open Go Go.Eng
set_option maxRecDepth 100000
set_option maxHeartbeats 4000000
attribute [local irreducible] Tri

theorem fnd_first {l : List (List Int)} {i : Nat} {x : List Int} {k : Int} (hno : ∀ j y, j < i → l[j]? = some y → k0 y ≠ k) (hx : l[i]? = some x) (hk : k0 x = k) : fnd l k = some x := by
  unfold fnd
  rw [List.find?_eq_some_iff_append]
  refine ⟨by simpa using hk, l.take i, l.drop (i + 1), ?_, ?_⟩
  · obtain ⟨hlt, he⟩ := List.getElem?_eq_some_iff.1 hx
    conv => lhs; rw [← List.take_append_drop i l, List.drop_eq_getElem_cons hlt, he]
  · intro y hy
    obtain ⟨j, hj, rfl⟩ := List.mem_take_iff_getElem.1 hy
    have := hno j l[j] (by omega) (List.getElem?_eq_getElem (by omega))
    simpa using this
theorem fnd_none {l : List (List Int)} {k : Int} (hno : ∀ j y, j < l.length → l[j]? = some y → k0 y ≠ k) : fnd l k = none := by
  unfold fnd
  rw [List.find?_eq_none]
  intro x hx
  obtain ⟨j, hj, rfl⟩ := List.mem_iff_getElem.1 hx
  have := hno j _ hj (List.getElem?_eq_getElem hj)
  simpa using this
theorem no_next {l : List (List Int)} {i : Nat} {x : List Int} {k : Int} (hno : ∀ j y, j < i → l[j]? = some y → k0 y ≠ k) (hx : l[i]? = some x) (hk : k0 x ≠ k) : ∀ j y, j < i + 1 → l[j]? = some y → k0 y ≠ k := by
  intro j y hj hy
  by_cases h : j = i
  · subst h; rw [hx] at hy; cases hy; exact hk
  · exact hno j y (by omega) hy

theorem mayF1 {b : Bk} (h : listsB b = false) : mayB b = false := by simp [mayB, h]
theorem mayF2 {b : Bk} (h : b.c < 0 ∨ 1099511627776 < b.c) : mayB b = false := by
  have : decide (0 ≤ b.c ∧ b.c ≤ 1099511627776) = false := decide_eq_false (by omega)
  simp [mayB, this]
theorem mayF3 {b : Bk} (h : b.H.any badH = true) : mayB b = false := by unfold mayB; rw [h]; simp
theorem mayF4 {b : Bk} (h : b.R.any badR = true) : mayB b = false := by unfold mayB; rw [h]; simp
theorem mayF5 {b : Bk} (h : b.S.any (badS b) = true) : mayB b = false := by unfold mayB; rw [h]; simp
theorem mayF6 {b : Bk} (h : b.O.any (badO b) = true) : mayB b = false := by unfold mayB; rw [h]; simp
theorem mayT {b : Bk} (h0 : listsB b = true) (h1 : 0 ≤ b.c ∧ b.c ≤ 1099511627776) (h3 : b.H.any badH = false) (h4 : b.R.any badR = false) (h5 : b.S.any (badS b) = false) (h6 : b.O.any (badO b) = false) : mayB b = true := by
  unfold mayB; rw [h0, h3, h4, h5, h6, decide_eq_true h1]; rfl
theorem any_all {p : List Int → Bool} {l : List (List Int)} {i : Nat} (h : (l.take i).any p = false) (hi : l.length ≤ i) : l.any p = false := by rw [List.take_of_length_le hi] at h; exact h

theorem Tryd.rHolder_w (b : Bk) (A : BkA) (k : Int) (w : World) (hi : BkIn b) (ho : BkOk w b A) :
    Fun Tryd.prog 39 [.agg ⟨bkV b A⟩, .int .i64 k] w (.tuple #[.agg ⟨i64s ((fnd b.H k).getD [0, 0, 0, 0])⟩, .bool (fnd b.H k).isSome]) := by
  refine Tri.enter (bx := []) (hp := []) Tryd.func39 rfl (by kernel_rfl) rfl (Own.nil w) ?_
  obtain ⟨a1, a2, a3, a4, c1, c2, c3, c4⟩ := A
  have h1 : SlOk w a1 (b.H.flatMap i64s) := ho.h1
  have h2 : SlOk w a2 (b.S.flatMap i64s) := ho.h2
  have h3 : SlOk w a3 (b.O.flatMap i64s) := ho.h3
  have h4 : SlOk w a4 (b.R.flatMap i64s) := ho.h4
  have l1 := hi.l1
  have l2 := hi.l2
  have l3 := hi.l3
  have l4 := hi.l4
  refine At.run 100 true [] [] rfl trivial ?_
  refine At.step [] rfl rfl rfl rfl rfl trivial (OpOk.box rfl rfl rfl fun bq hbq => ?_)
  refine At.step [] rfl rfl rfl rfl rfl trivial (OpOk.alloc (cs := i64s [0, 0, 0, 0]) rfl (by kernel_rfl) fun b4 hb4 => ?_)
  refine At.run 100 true [] [] rfl trivial ?_
  refine At.loop (n := b.H.length) (env0 := [(1, .int .i64 k), (2, .pointer (some ⟨bq, 0, none⟩)), (4, .pointer (some ⟨b4, 0, none⟩)), (6, .int .i64 0)]) (fun m env bx hp => ∃ i : Nat, m = b.H.length - i ∧ i ≤ b.H.length ∧ (∀ j y, j < i → b.H[j]? = some y → k0 y ≠ k) ∧
    env = [(1, .int .i64 k), (2, .pointer (some ⟨bq, 0, none⟩)), (4, .pointer (some ⟨b4, 0, none⟩)), (6, .int .i64 i)] ∧ bx = [(b4, 52, i64s [0, 0, 0, 0]), (bq, 27, bkV b ⟨a1, a2, a3, a4, c1, c2, c3, c4⟩)] ∧ hp = []) rfl ⟨0, rfl, by omega, fun j y h => by omega, rfl, rfl, rfl⟩ ⟨rfl, rfl, rfl, rfl, trivial⟩ ?_
  rintro m env bx hp ⟨i, rfl, hi2, hno, rfl, rfl, rfl⟩ ih
  by_cases hlt : i < b.H.length
  · obtain ⟨x, hx⟩ : ∃ x, b.H[i]? = some x := ⟨_, List.getElem?_eq_getElem hlt⟩
    have hm := List.mem_of_getElem? hx
    obtain ⟨g, o, rfl, hc⟩ := h1.get (slNe (by decide) hi.r1.len hx)
    have r1 : ∀ {bx : Bx} {hp : List Seg}, RdW ⟨w, kys [] []⟩ bx hp g (o + (i : Int).toNat * 4) (i64s x) := fun {_ _} => RdW.rec hi.r1.len hc (by simp [kys]) hx (by omega)
    have hf := fun h => fnd_first (k := k) hno hx h
    have hn := fun h => no_next hno hx h
    obtain ⟨x0, x1, x2, x3, rfl⟩ := len4 (hi.r1.len x hm)
    by_cases hk : x0 = k
    · refine At.run 100 true [true, true] [hB 1, hB 1, hR [.int .i64 x0], hB 1, hR [.int .i64 x0, .int .i64 x1, .int .i64 x2, .int .i64 x3], hB 0] rfl (by (repeat' apply And.intro) <;> first | exact RdW.at r1 0 rfl | exact r1 | exact decide_eq_true hk | exact True.intro | omega | rfl | (simp only [inK]; omega) | exact decide_eq_true (by omega) | exact decide_eq_false (by omega) | (simp; done) | (simp; omega) | (simp [Value.oneCell']; done) | exact i64s_one _ | exact AggOk.mk (by kernel_rfl) (by kernel_rfl)) ?_
      exact At.retK [] [] [hB 0] rfl rfl Tryd.func39 rfl (by (repeat' apply And.intro) <;> first | exact True.intro | omega | (simp only [inK]; omega) | (simp; done) | (simp; omega) | exact decide_eq_true (by omega) | exact decide_eq_false (by omega) | rfl | (simp [Value.oneCell']; done) | exact i64s_one _ | exact AggOk.mk (by kernel_rfl) (by kernel_rfl)) ⟨by rw [hf hk]; rfl, rfl, rfl⟩
    · refine At.run 100 true [true, false] [hB 1, hB 1, hR [.int .i64 x0]] rfl (by (repeat' apply And.intro) <;> first | exact RdW.at r1 0 rfl | exact decide_eq_false hk | exact True.intro | omega | rfl | (simp only [inK]; omega) | exact decide_eq_true (by omega) | exact decide_eq_false (by omega) | (simp; done) | (simp; omega) | (simp [Value.oneCell']; done) | exact i64s_one _ | exact AggOk.mk (by kernel_rfl) (by kernel_rfl)) ?_
      refine At.weak (ih (b.H.length - (i + 1)) _ _ _ (by omega) ⟨i + 1, rfl, by omega, hn hk, rfl, rfl, rfl⟩) ⟨rfl, rfl, rfl, some_int_eq (by omega), trivial⟩
  · have : i = b.H.length := by omega
    subst this
    refine At.run 100 true [false] [hB 1, hB 0] rfl (by (repeat' apply And.intro) <;> first | exact True.intro | omega | (simp only [inK]; omega) | (simp; done) | (simp; omega) | exact decide_eq_true (by omega) | exact decide_eq_false (by omega) | rfl | (simp [Value.oneCell']; done) | exact i64s_one _ | exact AggOk.mk (by kernel_rfl) (by kernel_rfl)) ?_
    exact At.retK [] [] [hB 0] rfl rfl Tryd.func39 rfl (by (repeat' apply And.intro) <;> first | exact True.intro | omega | (simp only [inK]; omega) | (simp; done) | (simp; omega) | exact decide_eq_true (by omega) | exact decide_eq_false (by omega) | rfl | (simp [Value.oneCell']; done) | exact i64s_one _ | exact AggOk.mk (by kernel_rfl) (by kernel_rfl)) ⟨by rw [fnd_none hno]; rfl, rfl, rfl⟩

theorem Tryd.rRate_w (b : Bk) (A : BkA) (k : Int) (w : World) (hi : BkIn b) (ho : BkOk w b A) :
    Fun Tryd.prog 40 [.agg ⟨bkV b A⟩, .int .i64 k] w (.tuple #[.int .i64 (k1 ((fnd b.R k).getD [0, 0])), .bool (fnd b.R k).isSome]) := by
  refine Tri.enter (bx := []) (hp := []) Tryd.func40 rfl (by kernel_rfl) rfl (Own.nil w) ?_
  obtain ⟨a1, a2, a3, a4, c1, c2, c3, c4⟩ := A
  have h1 : SlOk w a1 (b.H.flatMap i64s) := ho.h1
  have h2 : SlOk w a2 (b.S.flatMap i64s) := ho.h2
  have h3 : SlOk w a3 (b.O.flatMap i64s) := ho.h3
  have h4 : SlOk w a4 (b.R.flatMap i64s) := ho.h4
  have l1 := hi.l1
  have l2 := hi.l2
  have l3 := hi.l3
  have l4 := hi.l4
  refine At.run 100 true [] [] rfl trivial ?_
  refine At.step [] rfl rfl rfl rfl rfl trivial (OpOk.box rfl rfl rfl fun bq hbq => ?_)
  refine At.run 100 true [] [] rfl trivial ?_
  refine At.loop (n := b.R.length) (env0 := [(1, .int .i64 k), (2, .pointer (some ⟨bq, 0, none⟩)), (6, .int .i64 0)]) (fun m env bx hp => ∃ i : Nat, m = b.R.length - i ∧ i ≤ b.R.length ∧ (∀ j y, j < i → b.R[j]? = some y → k0 y ≠ k) ∧
    env = [(1, .int .i64 k), (2, .pointer (some ⟨bq, 0, none⟩)), (6, .int .i64 i)] ∧ bx = [(bq, 27, bkV b ⟨a1, a2, a3, a4, c1, c2, c3, c4⟩)] ∧ hp = []) rfl ⟨0, rfl, by omega, fun j y h => by omega, rfl, rfl, rfl⟩ ⟨rfl, rfl, rfl, trivial⟩ ?_
  rintro m env bx hp ⟨i, rfl, hi2, hno, rfl, rfl, rfl⟩ ih
  by_cases hlt : i < b.R.length
  · obtain ⟨x, hx⟩ : ∃ x, b.R[i]? = some x := ⟨_, List.getElem?_eq_getElem hlt⟩
    have hm := List.mem_of_getElem? hx
    obtain ⟨g, o, rfl, hc⟩ := h4.get (slNe (by decide) hi.r4.len hx)
    have r1 : ∀ {bx : Bx} {hp : List Seg}, RdW ⟨w, kys [] []⟩ bx hp g (o + (i : Int).toNat * 2) (i64s x) := fun {_ _} => RdW.rec hi.r4.len hc (by simp [kys]) hx (by omega)
    have hf := fun h => fnd_first (k := k) hno hx h
    have hn := fun h => no_next hno hx h
    obtain ⟨x0, x1, rfl⟩ := len2 (hi.r4.len x hm)
    by_cases hk : x0 = k
    · refine At.run 100 true [true, true] [hB 0, hB 0, hR [.int .i64 x0], hB 0, hR [.int .i64 x1]] rfl (by (repeat' apply And.intro) <;> first | exact RdW.at r1 0 rfl | exact RdW.at r1 1 rfl | exact decide_eq_true hk | exact True.intro | omega | rfl | (simp only [inK]; omega) | exact decide_eq_true (by omega) | exact decide_eq_false (by omega) | (simp; done) | (simp; omega) | (simp [Value.oneCell']; done) | exact i64s_one _ | exact AggOk.mk (by kernel_rfl) (by kernel_rfl)) ?_
      exact At.retK [] [] [] rfl rfl Tryd.func40 rfl trivial ⟨by rw [hf hk]; rfl, rfl, rfl⟩
    · refine At.run 100 true [true, false] [hB 0, hB 0, hR [.int .i64 x0]] rfl (by (repeat' apply And.intro) <;> first | exact RdW.at r1 0 rfl | exact decide_eq_false hk | exact True.intro | omega | rfl | (simp only [inK]; omega) | exact decide_eq_true (by omega) | exact decide_eq_false (by omega) | (simp; done) | (simp; omega) | (simp [Value.oneCell']; done) | exact i64s_one _ | exact AggOk.mk (by kernel_rfl) (by kernel_rfl)) ?_
      refine At.weak (ih (b.R.length - (i + 1)) _ _ _ (by omega) ⟨i + 1, rfl, by omega, hn hk, rfl, rfl, rfl⟩) ⟨rfl, rfl, some_int_eq (by omega), trivial⟩
  · have : i = b.R.length := by omega
    subst this
    refine At.run 100 true [false] [hB 0] rfl (by (repeat' apply And.intro) <;> first | exact True.intro | omega | (simp only [inK]; omega) | (simp; done) | (simp; omega) | exact decide_eq_true (by omega) | exact decide_eq_false (by omega) | rfl | (simp [Value.oneCell']; done) | exact i64s_one _ | exact AggOk.mk (by kernel_rfl) (by kernel_rfl)) ?_
    exact At.retK [] [] [] rfl rfl Tryd.func40 rfl trivial ⟨by rw [fnd_none hno]; rfl, rfl, rfl⟩

theorem Tryd.rthere_w (b : Bk) (A : BkA) (acc sym : Int) (w : World) (hi : BkIn b) (ho : BkOk w b A) :
    Fun Tryd.prog 20 [.agg ⟨bkV b A⟩, .int .i64 acc, .int .i64 sym] w (.bool (thereB b acc sym)) := by
  refine Tri.enter (bx := []) (hp := []) Tryd.func20 rfl (by kernel_rfl) rfl (Own.nil w) ?_
  refine At.run 100 true [] [] rfl trivial ?_
  refine At.step [] rfl rfl rfl rfl rfl trivial (OpOk.box rfl rfl rfl fun bq hbq => ?_)
  have h1 : ∀ {bx : Bx} {hp : List Seg}, CallOb Tryd.prog ⟨w, kys [] []⟩ bx hp 39 [.agg ⟨bkV b A⟩, .int .i64 acc] (.tuple #[.agg ⟨i64s ((fnd b.H acc).getD [0, 0, 0, 0])⟩, .bool (fnd b.H acc).isSome]) := fun {_ _} w' hw' => Tryd.rHolder_w b A acc w' hi (ho.ext hw'.ext (by simp [kys]))
  have h4 : ∀ {bx : Bx} {hp : List Seg}, CallOb Tryd.prog ⟨w, kys [] []⟩ bx hp 40 [.agg ⟨bkV b A⟩, .int .i64 sym] (.tuple #[.int .i64 (k1 ((fnd b.R sym).getD [0, 0])), .bool (fnd b.R sym).isSome]) := fun {_ _} w' hw' => Tryd.rRate_w b A sym w' hi (ho.ext hw'.ext (by simp [kys]))
  unfold thereB
  obtain ⟨x, f, hx, hl⟩ : ∃ x f, (fnd b.H acc).getD [0, 0, 0, 0] = x ∧ x.length = 4 ∧ (fnd b.H acc).isSome = f := by
    refine ⟨_, _, rfl, ?_, rfl⟩
    cases h : fnd b.H acc with
    | none => rfl
    | some x => exact hi.r1.len x (fnd_mem h)
  obtain ⟨hl, hf2⟩ := hl
  rw [hx, hf2] at h1
  rw [hf2]
  obtain ⟨x0, x1, x2, x3, rfl⟩ := len4 hl
  generalize (fnd b.R sym).isSome = f4 at *
  generalize k1 ((fnd b.R sym).getD [0, 0]) = p4 at *
  refine At.run 100 true [] [hB 0, hC (.tuple #[.agg ⟨i64s [x0, x1, x2, x3]⟩, .bool f])] rfl (by (repeat' apply And.intro) <;> first | exact h1 | exact True.intro | omega | rfl | (simp only [inK]; omega) | exact decide_eq_true (by omega) | exact decide_eq_false (by omega) | (simp; done) | (simp; omega) | (simp [Value.oneCell']; done) | exact i64s_one _ | exact AggOk.mk (by kernel_rfl) (by kernel_rfl)) ?_
  refine At.step [] rfl rfl rfl rfl rfl trivial (OpOk.alloc (cs := i64s [0, 0, 0, 0]) rfl (by kernel_rfl) fun b2 hb2 => ?_)
  cases f with
  | true =>
    refine At.run 100 true [true] [hB 0, hB 1, hC (.tuple #[.int .i64 p4, .bool f4])] rfl (by (repeat' apply And.intro) <;> first | exact h4 | exact True.intro | omega | rfl | (simp only [inK]; omega) | exact decide_eq_true (by omega) | exact decide_eq_false (by omega) | (simp; done) | (simp; omega) | (simp [Value.oneCell']; done) | exact i64s_one _ | exact AggOk.mk (by kernel_rfl) (by kernel_rfl)) ?_
    exact At.retK [] [] [] rfl rfl Tryd.func20 rfl trivial ⟨rfl, rfl, rfl⟩
  | false =>
    refine At.run 100 true [false] [hB 0, hB 1, hC (.tuple #[.int .i64 p4, .bool f4])] rfl (by (repeat' apply And.intro) <;> first | exact h4 | exact True.intro | omega | rfl | (simp only [inK]; omega) | exact decide_eq_true (by omega) | exact decide_eq_false (by omega) | (simp; done) | (simp; omega) | (simp [Value.oneCell']; done) | exact i64s_one _ | exact AggOk.mk (by kernel_rfl) (by kernel_rfl)) ?_
    exact At.retK [] [] [] rfl rfl Tryd.func20 rfl trivial ⟨rfl, rfl, rfl⟩

theorem Tryd.rMay_w (b : Bk) (A : BkA) (w : World) (hi : BkIn b) (ho : BkOk w b A) : Fun Tryd.prog 7 [.agg ⟨bkV b A⟩] w (.bool (mayB b)) := by
  refine Tri.enter (bx := []) (hp := []) Tryd.func7 rfl (by kernel_rfl) rfl (Own.nil w) ?_
  obtain ⟨a1, a2, a3, a4, c1, c2, c3, c4⟩ := A
  have h1 : SlOk w a1 (b.H.flatMap i64s) := ho.h1
  have h2 : SlOk w a2 (b.S.flatMap i64s) := ho.h2
  have h3 : SlOk w a3 (b.O.flatMap i64s) := ho.h3
  have h4 : SlOk w a4 (b.R.flatMap i64s) := ho.h4
  have l1 := hi.l1
  have l2 := hi.l2
  have l3 := hi.l3
  have l4 := hi.l4
  refine At.run 100 true [] [] rfl trivial ?_
  refine At.step [] rfl rfl rfl rfl rfl trivial (OpOk.box rfl rfl rfl fun bq hbq => ?_)
  have hR : ∀ {bx : Bx} {hp : List Seg}, CallOb Tryd.prog ⟨w, kys [] []⟩ bx hp 19 [.agg ⟨bkV b ⟨a1, a2, a3, a4, c1, c2, c3, c4⟩⟩] (.bool (ris lt1 b.H && (ris lt1 b.O && (ris lt1 b.R && ris lt2 b.S)))) := fun {_ _} w' hw' => Tryd.rRise_w b ⟨a1, a2, a3, a4, c1, c2, c3, c4⟩ w' hi (ho.ext hw'.ext (by simp [kys]))
  have hLd : listsB b = (decide (b.H.length ≤ 32) && (decide (b.O.length ≤ 64) && (decide (b.R.length ≤ 32) && (ris lt1 b.H && (ris lt1 b.O && (ris lt1 b.R && ris lt2 b.S)))))) := rfl
  generalize (ris lt1 b.H && (ris lt1 b.O && (ris lt1 b.R && ris lt2 b.S))) = q at *
  cases q with
  | false =>
    refine At.run 100 true [true, true, true, true, true, true] [hB 0, hC (.bool false)] rfl (by (repeat' apply And.intro) <;> first | exact hR | exact True.intro | omega | rfl | (simp only [inK]; omega) | exact decide_eq_true (by omega) | exact decide_eq_false (by omega) | (simp; done) | (simp; omega) | (simp [Value.oneCell']; done) | exact i64s_one _ | exact AggOk.mk (by kernel_rfl) (by kernel_rfl)) ?_
    exact At.retK [] [] [] rfl rfl Tryd.func7 rfl trivial ⟨by rw [mayF1 (by rw [hLd]; simp)]; rfl, rfl, rfl⟩
  | true =>
    by_cases g1 : 32 < b.H.length
    · refine At.run 100 true [false, true, true, true, true, true] [hB 0, hC (.bool true), hB 0] rfl (by (repeat' apply And.intro) <;> first | exact hR | exact True.intro | omega | rfl | (simp only [inK]; omega) | exact decide_eq_true (by omega) | exact decide_eq_false (by omega) | (simp; done) | (simp; omega) | (simp [Value.oneCell']; done) | exact i64s_one _ | exact AggOk.mk (by kernel_rfl) (by kernel_rfl)) ?_
      exact At.retK [] [] [] rfl rfl Tryd.func7 rfl trivial ⟨by rw [mayF1 (by rw [hLd, decide_eq_false (by omega : ¬ b.H.length ≤ 32)]; rfl)]; rfl, rfl, rfl⟩
    by_cases g2 : 64 < b.O.length
    · refine At.run 100 true [false, false, true, true, true, true] [hB 0, hC (.bool true), hB 0, hB 0] rfl (by (repeat' apply And.intro) <;> first | exact hR | exact True.intro | omega | rfl | (simp only [inK]; omega) | exact decide_eq_true (by omega) | exact decide_eq_false (by omega) | (simp; done) | (simp; omega) | (simp [Value.oneCell']; done) | exact i64s_one _ | exact AggOk.mk (by kernel_rfl) (by kernel_rfl)) ?_
      exact At.retK [] [] [] rfl rfl Tryd.func7 rfl trivial ⟨by rw [mayF1 (by rw [hLd, decide_eq_false (by omega : ¬ b.O.length ≤ 64)]; simp)]; rfl, rfl, rfl⟩
    by_cases g3 : 32 < b.R.length
    · refine At.run 100 true [false, false, false, true, true, true] [hB 0, hC (.bool true), hB 0, hB 0, hB 0] rfl (by (repeat' apply And.intro) <;> first | exact hR | exact True.intro | omega | rfl | (simp only [inK]; omega) | exact decide_eq_true (by omega) | exact decide_eq_false (by omega) | (simp; done) | (simp; omega) | (simp [Value.oneCell']; done) | exact i64s_one _ | exact AggOk.mk (by kernel_rfl) (by kernel_rfl)) ?_
      exact At.retK [] [] [] rfl rfl Tryd.func7 rfl trivial ⟨by rw [mayF1 (by rw [hLd, decide_eq_false (by omega : ¬ b.R.length ≤ 32)]; simp)]; rfl, rfl, rfl⟩
    have eL : listsB b = true := by rw [hLd, decide_eq_true (by omega : b.H.length ≤ 32), decide_eq_true (by omega : b.O.length ≤ 64), decide_eq_true (by omega : b.R.length ≤ 32)]; rfl
    by_cases g4 : b.c < 0
    · refine At.run 100 true [false, false, false, false, true, true] [hB 0, hC (.bool true), hB 0, hB 0, hB 0, hB 0] rfl (by (repeat' apply And.intro) <;> first | exact hR | exact True.intro | omega | rfl | (simp only [inK]; omega) | exact decide_eq_true (by omega) | exact decide_eq_false (by omega) | (simp; done) | (simp; omega) | (simp [Value.oneCell']; done) | exact i64s_one _ | exact AggOk.mk (by kernel_rfl) (by kernel_rfl)) ?_
      exact At.retK [] [] [] rfl rfl Tryd.func7 rfl trivial ⟨by rw [mayF2 (.inl g4)]; rfl, rfl, rfl⟩
    by_cases g5 : 1099511627776 < b.c
    · refine At.run 100 true [false, false, false, false, false, true] [hB 0, hC (.bool true), hB 0, hB 0, hB 0, hB 0, hB 0] rfl (by (repeat' apply And.intro) <;> first | exact hR | exact True.intro | omega | rfl | (simp only [inK]; omega) | exact decide_eq_true (by omega) | exact decide_eq_false (by omega) | (simp; done) | (simp; omega) | (simp [Value.oneCell']; done) | exact i64s_one _ | exact AggOk.mk (by kernel_rfl) (by kernel_rfl)) ?_
      exact At.retK [] [] [] rfl rfl Tryd.func7 rfl trivial ⟨by rw [mayF2 (.inr g5)]; rfl, rfl, rfl⟩
    refine At.run 100 true [false, false, false, false, false, false] [hB 0, hC (.bool true), hB 0, hB 0, hB 0, hB 0, hB 0] rfl (by (repeat' apply And.intro) <;> first | exact hR | exact True.intro | omega | rfl | (simp only [inK]; omega) | exact decide_eq_true (by omega) | exact decide_eq_false (by omega) | (simp; done) | (simp; omega) | (simp [Value.oneCell']; done) | exact i64s_one _ | exact AggOk.mk (by kernel_rfl) (by kernel_rfl)) ?_
    clear hLd hR
    refine At.loop (n := b.H.length) (env0 := [(1, .pointer (some ⟨bq, 0, none⟩)), (3, .int .i64 0)]) (fun m env bx hp => ∃ i : Nat, m = b.H.length - i ∧ i ≤ b.H.length ∧ (b.H.take i).any (badH) = false ∧
      env = [(1, .pointer (some ⟨bq, 0, none⟩)), (3, .int .i64 i)] ∧ bx = [(bq, 27, bkV b ⟨a1, a2, a3, a4, c1, c2, c3, c4⟩)] ∧ hp = []) rfl ⟨0, rfl, by omega, by simp, rfl, rfl, rfl⟩ ⟨rfl, rfl, trivial⟩ ?_
    rintro m env bx hp ⟨i, rfl, hi2, hno, rfl, rfl, rfl⟩ ih
    by_cases hlt : i < b.H.length
    · obtain ⟨x, hx⟩ : ∃ x, b.H[i]? = some x := ⟨_, List.getElem?_eq_getElem hlt⟩
      have hm := List.mem_of_getElem? hx
      obtain ⟨g, o, rfl, hc⟩ := h1.get (slNe (by decide) hi.r1.len hx)
      have r1 : ∀ {bx : Bx} {hp : List Seg}, RdW ⟨w, kys [] []⟩ bx hp g (o + (i : Int).toNat * 4) (i64s x) := fun {_ _} => RdW.rec hi.r1.len hc (by simp [kys]) hx (by omega)
      have hy := fun h => any_mem (p := badH) hx h
      have hn := fun h => any_take (p := badH) hx hno h
      obtain ⟨x0, x1, x2, x3, rfl⟩ := len4 (hi.r1.len x hm)
      have e : badH [x0, x1, x2, x3] = (decide (x2 < 0) || decide (x3 < 0)) := rfl
      by_cases g1 : x2 < 0
      · refine At.run 100 true [true, true, true] [hB 0, hB 0, hR [.int .i64 x2]] rfl (by (repeat' apply And.intro) <;> first | exact RdW.at r1 2 rfl | exact True.intro | omega | rfl | (simp only [inK]; omega) | exact decide_eq_true (by omega) | exact decide_eq_false (by omega) | (simp; done) | (simp; omega) | (simp [Value.oneCell']; done) | exact i64s_one _ | exact AggOk.mk (by kernel_rfl) (by kernel_rfl)) ?_
        exact At.retK [] [] [] rfl rfl Tryd.func7 rfl trivial ⟨by rw [mayF3 (hy (by rw [e]; simp [g1]))]; rfl, rfl, rfl⟩
      · by_cases g2 : x3 < 0
        · refine At.run 100 true [true, false, true] [hB 0, hB 0, hR [.int .i64 x2], hB 0, hR [.int .i64 x3]] rfl (by (repeat' apply And.intro) <;> first | exact RdW.at r1 2 rfl | exact RdW.at r1 3 rfl | exact True.intro | omega | rfl | (simp only [inK]; omega) | exact decide_eq_true (by omega) | exact decide_eq_false (by omega) | (simp; done) | (simp; omega) | (simp [Value.oneCell']; done) | exact i64s_one _ | exact AggOk.mk (by kernel_rfl) (by kernel_rfl)) ?_
          exact At.retK [] [] [] rfl rfl Tryd.func7 rfl trivial ⟨by rw [mayF3 (hy (by rw [e]; simp [g2]))]; rfl, rfl, rfl⟩
        · refine At.run 100 true [true, false, false] [hB 0, hB 0, hR [.int .i64 x2], hB 0, hR [.int .i64 x3]] rfl (by (repeat' apply And.intro) <;> first | exact RdW.at r1 2 rfl | exact RdW.at r1 3 rfl | exact True.intro | omega | rfl | (simp only [inK]; omega) | exact decide_eq_true (by omega) | exact decide_eq_false (by omega) | (simp; done) | (simp; omega) | (simp [Value.oneCell']; done) | exact i64s_one _ | exact AggOk.mk (by kernel_rfl) (by kernel_rfl)) ?_
          refine At.weak (ih (b.H.length - (i + 1)) _ _ _ (by omega) ⟨i + 1, rfl, by omega, hn (by rw [e]; simp [g1, g2] <;> omega), rfl, rfl, rfl⟩) ⟨rfl, some_int_eq (by omega), trivial⟩
    · refine At.run 100 true [false] [hB 0] rfl (by (repeat' apply And.intro) <;> first | exact True.intro | omega | (simp only [inK]; omega) | (simp; done) | (simp; omega) | exact decide_eq_true (by omega) | exact decide_eq_false (by omega) | rfl | (simp [Value.oneCell']; done) | exact i64s_one _ | exact AggOk.mk (by kernel_rfl) (by kernel_rfl)) ?_
      have hallH := any_all hno (by omega)
      clear ih hno hlt
      refine At.loop (n := b.R.length) (env0 := [(1, .pointer (some ⟨bq, 0, none⟩)), (4, .int .i64 0)]) (fun m env bx hp => ∃ i : Nat, m = b.R.length - i ∧ i ≤ b.R.length ∧ (b.R.take i).any (badR) = false ∧
        env = [(1, .pointer (some ⟨bq, 0, none⟩)), (4, .int .i64 i)] ∧ bx = [(bq, 27, bkV b ⟨a1, a2, a3, a4, c1, c2, c3, c4⟩)] ∧ hp = []) rfl ⟨0, rfl, by omega, by simp, rfl, rfl, rfl⟩ ⟨rfl, rfl, trivial⟩ ?_
      rintro m env bx hp ⟨i, rfl, hi2, hno, rfl, rfl, rfl⟩ ih
      by_cases hlt : i < b.R.length
      · obtain ⟨x, hx⟩ : ∃ x, b.R[i]? = some x := ⟨_, List.getElem?_eq_getElem hlt⟩
        have hm := List.mem_of_getElem? hx
        obtain ⟨g, o, rfl, hc⟩ := h4.get (slNe (by decide) hi.r4.len hx)
        have r1 : ∀ {bx : Bx} {hp : List Seg}, RdW ⟨w, kys [] []⟩ bx hp g (o + (i : Int).toNat * 2) (i64s x) := fun {_ _} => RdW.rec hi.r4.len hc (by simp [kys]) hx (by omega)
        have hy := fun h => any_mem (p := badR) hx h
        have hn := fun h => any_take (p := badR) hx hno h
        obtain ⟨x0, x1, rfl⟩ := len2 (hi.r4.len x hm)
        have e : badR [x0, x1] = decide (x1 < 1) := rfl
        by_cases g1 : x1 < 1
        · refine At.run 100 true [true, true] [hB 0, hB 0, hR [.int .i64 x1]] rfl (by (repeat' apply And.intro) <;> first | exact RdW.at r1 1 rfl | exact True.intro | omega | rfl | (simp only [inK]; omega) | exact decide_eq_true (by omega) | exact decide_eq_false (by omega) | (simp; done) | (simp; omega) | (simp [Value.oneCell']; done) | exact i64s_one _ | exact AggOk.mk (by kernel_rfl) (by kernel_rfl)) ?_
          exact At.retK [] [] [] rfl rfl Tryd.func7 rfl trivial ⟨by rw [mayF4 (hy (by rw [e]; simp [g1]))]; rfl, rfl, rfl⟩
        · refine At.run 100 true [true, false] [hB 0, hB 0, hR [.int .i64 x1]] rfl (by (repeat' apply And.intro) <;> first | exact RdW.at r1 1 rfl | exact True.intro | omega | rfl | (simp only [inK]; omega) | exact decide_eq_true (by omega) | exact decide_eq_false (by omega) | (simp; done) | (simp; omega) | (simp [Value.oneCell']; done) | exact i64s_one _ | exact AggOk.mk (by kernel_rfl) (by kernel_rfl)) ?_
          refine At.weak (ih (b.R.length - (i + 1)) _ _ _ (by omega) ⟨i + 1, rfl, by omega, hn (by rw [e]; exact decide_eq_false g1), rfl, rfl, rfl⟩) ⟨rfl, some_int_eq (by omega), trivial⟩
      · refine At.run 100 true [false] [hB 0] rfl (by (repeat' apply And.intro) <;> first | exact True.intro | omega | (simp only [inK]; omega) | (simp; done) | (simp; omega) | exact decide_eq_true (by omega) | exact decide_eq_false (by omega) | rfl | (simp [Value.oneCell']; done) | exact i64s_one _ | exact AggOk.mk (by kernel_rfl) (by kernel_rfl)) ?_
        have hallR := any_all hno (by omega)
        clear ih hno hlt
        refine At.loop (n := b.S.length) (env0 := [(1, .pointer (some ⟨bq, 0, none⟩)), (5, .int .i64 0)]) (fun m env bx hp => ∃ i : Nat, m = b.S.length - i ∧ i ≤ b.S.length ∧ (b.S.take i).any (badS b) = false ∧
          env = [(1, .pointer (some ⟨bq, 0, none⟩)), (5, .int .i64 i)] ∧ bx = [(bq, 27, bkV b ⟨a1, a2, a3, a4, c1, c2, c3, c4⟩)] ∧ hp = []) rfl ⟨0, rfl, by omega, by simp, rfl, rfl, rfl⟩ ⟨rfl, rfl, trivial⟩ ?_
        rintro m env bx hp ⟨i, rfl, hi2, hno, rfl, rfl, rfl⟩ ih
        by_cases hlt : i < b.S.length
        · obtain ⟨x, hx⟩ : ∃ x, b.S[i]? = some x := ⟨_, List.getElem?_eq_getElem hlt⟩
          have hm := List.mem_of_getElem? hx
          obtain ⟨g, o, rfl, hc⟩ := h2.get (slNe (by decide) hi.r2.len hx)
          have r1 : ∀ {bx : Bx} {hp : List Seg}, RdW ⟨w, kys [] []⟩ bx hp g (o + (i : Int).toNat * 3) (i64s x) := fun {_ _} => RdW.rec hi.r2.len hc (by simp [kys]) hx (by omega)
          have hy := fun h => any_mem (p := badS b) hx h
          have hn := fun h => any_take (p := badS b) hx hno h
          obtain ⟨x0, x1, x2, rfl⟩ := len3 (hi.r2.len x hm)
          have e : badS b [x0, x1, x2] = (decide (x2 = 0) || !thereB b x0 x1) := rfl
          refine At.run 100 true [true] [hB 0] rfl (by (repeat' apply And.intro) <;> first | exact True.intro | omega | (simp only [inK]; omega) | (simp; done) | (simp; omega) | exact decide_eq_true (by omega) | exact decide_eq_false (by omega) | rfl | (simp [Value.oneCell']; done) | exact i64s_one _ | exact AggOk.mk (by kernel_rfl) (by kernel_rfl)) ?_
          by_cases g1 : x2 = 0
          · refine At.quiet true [true] [hB 0, hR [.int .i64 x2]] ⟨by kernel_rfl, by kernel_rfl, rfl, rfl, rfl⟩ rfl rfl rfl (by (repeat' apply And.intro) <;> first | exact RdW.at r1 2 rfl | exact decide_eq_true g1 | exact True.intro | omega | rfl | (simp only [inK]; omega) | exact decide_eq_true (by omega) | exact decide_eq_false (by omega) | (simp; done) | (simp; omega) | (simp [Value.oneCell']; done) | exact i64s_one _ | exact AggOk.mk (by kernel_rfl) (by kernel_rfl)) ?_
            refine At.run 100 true [true] [] rfl (by (repeat' apply And.intro) <;> first | exact decide_eq_true g1 | exact True.intro | omega | rfl | (simp only [inK]; omega) | exact decide_eq_true (by omega) | exact decide_eq_false (by omega) | (simp; done) | (simp; omega) | (simp [Value.oneCell']; done) | exact i64s_one _ | exact AggOk.mk (by kernel_rfl) (by kernel_rfl)) ?_
            exact At.retK [] [] [] rfl rfl Tryd.func7 rfl trivial ⟨by rw [mayF5 (hy (by rw [e]; simp [g1]))]; rfl, rfl, rfl⟩
          · have ht : ∀ {bx : Bx} {hp : List Seg}, CallOb Tryd.prog ⟨w, kys [] []⟩ bx hp 20 [.agg ⟨bkV b ⟨a1, some ⟨g, o, none⟩, a3, a4, c1, c2, c3, c4⟩⟩, .int .i64 x0, .int .i64 x1] (.bool (thereB b x0 x1)) := fun {_ _} w' hw' => Tryd.rthere_w b ⟨a1, some ⟨g, o, none⟩, a3, a4, c1, c2, c3, c4⟩ x0 x1 w' hi (ho.ext hw'.ext (by simp [kys]))
            refine At.quiet true [false] [hB 0, hR [.int .i64 x2], hB 0, hB 0, hR [.int .i64 x0], hB 0, hR [.int .i64 x1], hC (.bool (thereB b x0 x1))] ⟨by kernel_rfl, by kernel_rfl, rfl, rfl, rfl⟩ rfl rfl rfl (by (repeat' apply And.intro) <;> first | exact RdW.at r1 2 rfl | exact RdW.at r1 0 rfl | exact RdW.at r1 1 rfl | exact decide_eq_false g1 | exact ht | exact True.intro | omega | rfl | (simp only [inK]; omega) | exact decide_eq_true (by omega) | exact decide_eq_false (by omega) | (simp; done) | (simp; omega) | (simp [Value.oneCell']; done) | exact i64s_one _ | exact AggOk.mk (by kernel_rfl) (by kernel_rfl)) ?_
            cases ht2 : thereB b x0 x1 with
            | true =>
              refine At.run 100 true [false] [] rfl (by (repeat' apply And.intro) <;> first | exact True.intro | omega | (simp only [inK]; omega) | (simp; done) | (simp; omega) | exact decide_eq_true (by omega) | exact decide_eq_false (by omega) | rfl | (simp [Value.oneCell']; done) | exact i64s_one _ | exact AggOk.mk (by kernel_rfl) (by kernel_rfl)) ?_
              refine At.weak (ih (b.S.length - (i + 1)) _ _ _ (by omega) ⟨i + 1, rfl, by omega, hn (by rw [e, ht2]; simp [g1]), rfl, rfl, rfl⟩) ⟨rfl, some_int_eq (by omega), trivial⟩
            | false =>
              refine At.run 100 true [true] [] rfl (by (repeat' apply And.intro) <;> first | exact True.intro | omega | (simp only [inK]; omega) | (simp; done) | (simp; omega) | exact decide_eq_true (by omega) | exact decide_eq_false (by omega) | rfl | (simp [Value.oneCell']; done) | exact i64s_one _ | exact AggOk.mk (by kernel_rfl) (by kernel_rfl)) ?_
              exact At.retK [] [] [] rfl rfl Tryd.func7 rfl trivial ⟨by rw [mayF5 (hy (by rw [e, ht2]; simp))]; rfl, rfl, rfl⟩
        · refine At.run 100 true [false] [hB 0] rfl (by (repeat' apply And.intro) <;> first | exact True.intro | omega | (simp only [inK]; omega) | (simp; done) | (simp; omega) | exact decide_eq_true (by omega) | exact decide_eq_false (by omega) | rfl | (simp [Value.oneCell']; done) | exact i64s_one _ | exact AggOk.mk (by kernel_rfl) (by kernel_rfl)) ?_
          have hallS := any_all hno (by omega)
          clear ih hno hlt
          refine At.loop (n := b.O.length) (env0 := [(1, .pointer (some ⟨bq, 0, none⟩)), (6, .int .i64 0)]) (fun m env bx hp => ∃ i : Nat, m = b.O.length - i ∧ i ≤ b.O.length ∧ (b.O.take i).any (badO b) = false ∧
            env = [(1, .pointer (some ⟨bq, 0, none⟩)), (6, .int .i64 i)] ∧ bx = [(bq, 27, bkV b ⟨a1, a2, a3, a4, c1, c2, c3, c4⟩)] ∧ hp = []) rfl ⟨0, rfl, by omega, by simp, rfl, rfl, rfl⟩ ⟨rfl, rfl, trivial⟩ ?_
          rintro m env bx hp ⟨i, rfl, hi2, hno, rfl, rfl, rfl⟩ ih
          by_cases hlt : i < b.O.length
          · obtain ⟨x, hx⟩ : ∃ x, b.O[i]? = some x := ⟨_, List.getElem?_eq_getElem hlt⟩
            have hm := List.mem_of_getElem? hx
            obtain ⟨g, o, rfl, hc⟩ := h3.get (slNe (by decide) hi.r3.len hx)
            have r1 : ∀ {bx : Bx} {hp : List Seg}, RdW ⟨w, kys [] []⟩ bx hp g (o + (i : Int).toNat * 6) (i64s x) := fun {_ _} => RdW.rec hi.r3.len hc (by simp [kys]) hx (by omega)
            have hy := fun h => any_mem (p := badO b) hx h
            have hn := fun h => any_take (p := badO b) hx hno h
            obtain ⟨x0, x1, x2, x3, x4, x5, rfl⟩ := len6 (hi.r3.len x hm)
            have e : badO b [x0, x1, x2, x3, x4, x5] = (decide (x4 < 1) || (decide (x5 < 1) || (decide (x3 < 0) || (decide (1 < x3) || !thereB b x1 x2)))) := rfl
            refine At.run 100 true [true] [hB 0, hB 0, hR [.int .i64 x0, .int .i64 x1, .int .i64 x2, .int .i64 x3, .int .i64 x4, .int .i64 x5]] rfl (by (repeat' apply And.intro) <;> first | exact r1 | exact True.intro | omega | rfl | (simp only [inK]; omega) | exact decide_eq_true (by omega) | exact decide_eq_false (by omega) | (simp; done) | (simp; omega) | (simp [Value.oneCell']; done) | exact i64s_one _ | exact AggOk.mk (by kernel_rfl) (by kernel_rfl)) ?_
            refine At.step [] rfl rfl rfl rfl rfl trivial (OpOk.alloc (cs := i64s [0, 0, 0, 0, 0, 0]) rfl (by kernel_rfl) fun b7 hb7 => ?_)
            by_cases g1 : x4 < 1
            · refine At.run 100 true [true, true, true, true] [hB 0, hB 0] rfl (by (repeat' apply And.intro) <;> first | exact True.intro | omega | (simp only [inK]; omega) | (simp; done) | (simp; omega) | exact decide_eq_true (by omega) | exact decide_eq_false (by omega) | rfl | (simp [Value.oneCell']; done) | exact i64s_one _ | exact AggOk.mk (by kernel_rfl) (by kernel_rfl)) ?_
              exact At.retK [] [] [] rfl rfl Tryd.func7 rfl trivial ⟨by rw [mayF6 (hy (by rw [e]; simp [g1]))]; rfl, rfl, rfl⟩
            by_cases g2 : x5 < 1
            · refine At.run 100 true [false, true, true, true] [hB 0, hB 0, hB 0] rfl (by (repeat' apply And.intro) <;> first | exact True.intro | omega | (simp only [inK]; omega) | (simp; done) | (simp; omega) | exact decide_eq_true (by omega) | exact decide_eq_false (by omega) | rfl | (simp [Value.oneCell']; done) | exact i64s_one _ | exact AggOk.mk (by kernel_rfl) (by kernel_rfl)) ?_
              exact At.retK [] [] [] rfl rfl Tryd.func7 rfl trivial ⟨by rw [mayF6 (hy (by rw [e]; simp [g2]))]; rfl, rfl, rfl⟩
            have ht : ∀ {bx : Bx} {hp : List Seg}, CallOb Tryd.prog ⟨w, kys [] []⟩ bx hp 20 [.agg ⟨bkV b ⟨a1, a2, some ⟨g, o, none⟩, a4, c1, c2, c3, c4⟩⟩, .int .i64 x1, .int .i64 x2] (.bool (thereB b x1 x2)) := fun {_ _} w' hw' => Tryd.rthere_w b ⟨a1, a2, some ⟨g, o, none⟩, a4, c1, c2, c3, c4⟩ x1 x2 w' hi (ho.ext hw'.ext (by simp [kys]))
            by_cases g3 : x3 = 0
            · cases ht2 : thereB b x1 x2 with
              | true =>
                rw [ht2] at ht
                refine At.run 100 true [false, false, false, false, false] [hB 0, hB 0, hB 0, hB 0, hB 1, hB 0, hB 0, hC (.bool true)] rfl (by (repeat' apply And.intro) <;> first | exact ht | exact True.intro | omega | rfl | (simp only [inK]; omega) | exact decide_eq_true (by omega) | exact decide_eq_false (by omega) | (simp; done) | (simp; omega) | (simp [Value.oneCell']; done) | exact i64s_one _ | exact AggOk.mk (by kernel_rfl) (by kernel_rfl)) ?_
                refine At.keep [false, true] [] rfl ?_
                refine At.weak (ih (b.O.length - (i + 1)) _ _ _ (by omega) ⟨i + 1, rfl, by omega, hn (by rw [e, ht2]; simp [g1, g2, g3] <;> omega), rfl, rfl, rfl⟩) ⟨rfl, some_int_eq (by omega), trivial⟩
              | false =>
                rw [ht2] at ht
                refine At.run 100 true [false, false, false, false, true] [hB 0, hB 0, hB 0, hB 0, hB 1, hB 0, hB 0, hC (.bool false)] rfl (by (repeat' apply And.intro) <;> first | exact ht | exact True.intro | omega | rfl | (simp only [inK]; omega) | exact decide_eq_true (by omega) | exact decide_eq_false (by omega) | (simp; done) | (simp; omega) | (simp [Value.oneCell']; done) | exact i64s_one _ | exact AggOk.mk (by kernel_rfl) (by kernel_rfl)) ?_
                exact At.retK [] [] [] rfl rfl Tryd.func7 rfl trivial ⟨by rw [mayF6 (hy (by rw [e, ht2]; simp))]; rfl, rfl, rfl⟩
            by_cases g4 : x3 = 1
            · cases ht2 : thereB b x1 x2 with
              | true =>
                rw [ht2] at ht
                refine At.run 100 true [false, false, true, false, false] [hB 0, hB 0, hB 0, hB 0, hB 0, hB 1, hB 0, hB 0, hC (.bool true)] rfl (by (repeat' apply And.intro) <;> first | exact ht | simp [g3]; done | simp [g4]; done | exact True.intro | omega | rfl | (simp only [inK]; omega) | exact decide_eq_true (by omega) | exact decide_eq_false (by omega) | (simp; done) | (simp; omega) | (simp [Value.oneCell']; done) | exact i64s_one _ | exact AggOk.mk (by kernel_rfl) (by kernel_rfl)) ?_
                refine At.keep [false, true] [] rfl ?_
                refine At.weak (ih (b.O.length - (i + 1)) _ _ _ (by omega) ⟨i + 1, rfl, by omega, hn (by rw [e, ht2]; simp [g1, g2, g4] <;> omega), rfl, rfl, rfl⟩) ⟨rfl, some_int_eq (by omega), trivial⟩
              | false =>
                rw [ht2] at ht
                refine At.run 100 true [false, false, true, false, true] [hB 0, hB 0, hB 0, hB 0, hB 0, hB 1, hB 0, hB 0, hC (.bool false)] rfl (by (repeat' apply And.intro) <;> first | exact ht | simp [g3]; done | simp [g4]; done | exact True.intro | omega | rfl | (simp only [inK]; omega) | exact decide_eq_true (by omega) | exact decide_eq_false (by omega) | (simp; done) | (simp; omega) | (simp [Value.oneCell']; done) | exact i64s_one _ | exact AggOk.mk (by kernel_rfl) (by kernel_rfl)) ?_
                exact At.retK [] [] [] rfl rfl Tryd.func7 rfl trivial ⟨by rw [mayF6 (hy (by rw [e, ht2]; simp))]; rfl, rfl, rfl⟩
            refine At.run 100 true [false, false, true, true, true] [hB 0, hB 0, hB 0, hB 0, hB 0] rfl (by (repeat' apply And.intro) <;> first | simp [g3]; done | simp [g4]; done | exact True.intro | omega | rfl | (simp only [inK]; omega) | exact decide_eq_true (by omega) | exact decide_eq_false (by omega) | (simp; done) | (simp; omega) | (simp [Value.oneCell']; done) | exact i64s_one _ | exact AggOk.mk (by kernel_rfl) (by kernel_rfl)) ?_
            exact At.retK [] [] [] rfl rfl Tryd.func7 rfl trivial ⟨by rw [mayF6 (hy (by rw [e]; simp; omega))]; rfl, rfl, rfl⟩
          · refine At.run 100 true [false] [hB 0] rfl (by (repeat' apply And.intro) <;> first | exact True.intro | omega | (simp only [inK]; omega) | (simp; done) | (simp; omega) | exact decide_eq_true (by omega) | exact decide_eq_false (by omega) | rfl | (simp [Value.oneCell']; done) | exact i64s_one _ | exact AggOk.mk (by kernel_rfl) (by kernel_rfl)) ?_
            have hallO := any_all hno (by omega)
            clear ih hno hlt
            exact At.retK [] [] [] rfl rfl Tryd.func7 rfl trivial ⟨by rw [mayT eL ⟨by omega, by omega⟩ hallH hallR hallS hallO]; rfl, rfl, rfl⟩

end Go.Proofs

/-
  Walks of layer 12: are two books alike?
-/
namespace Go.Proofs
open Go Go.Eng
set_option maxRecDepth 100000
set_option maxHeartbeats 4000000
attribute [local irreducible] Tri

/-- Are two books alike? -/
def sameB (a b : Bk) : Bool := decide (a.H = b.H ∧ a.S = b.S ∧ a.O = b.O ∧ a.R = b.R ∧ a.c = b.c)
theorem sameF {a b : Bk} (h : ¬ (a.H = b.H ∧ a.S = b.S ∧ a.O = b.O ∧ a.R = b.R ∧ a.c = b.c)) : sameB a b = false := decide_eq_false h
theorem ne_of_get {l m : List (List Int)} {i : Nat} {x y : List Int} (hx : l[i]? = some x) (hy : m[i]? = some y) (h : x ≠ y) : l ≠ m := by
  intro e; subst e; rw [hx] at hy; cases hy; exact h rfl
theorem take_next {l m : List (List Int)} {i : Nat} {x : List Int} (ht : l.take i = m.take i) (hx : l[i]? = some x) (hy : m[i]? = some x) : l.take (i + 1) = m.take (i + 1) := by
  rw [List.take_add_one, List.take_add_one, hx, hy, ht]
theorem eq_take {l m : List (List Int)} {i : Nat} (ht : l.take i = m.take i) (h1 : l.length ≤ i) (h2 : m.length ≤ i) : l = m := by
  rw [List.take_of_length_le h1, List.take_of_length_le h2] at ht; exact ht
theorem ch4 {x0 x1 x2 x3 y0 y1 y2 y3 : Int} : (decide (x0 = y0) && (decide (x1 = y1) && (decide (x2 = y2) && decide (x3 = y3)))) = decide ([x0, x1, x2, x3] = [y0, y1, y2, y3]) := by rw [Bool.eq_iff_iff]; simp
theorem ch3 {x0 x1 x2 y0 y1 y2 : Int} : (decide (x0 = y0) && (decide (x1 = y1) && decide (x2 = y2))) = decide ([x0, x1, x2] = [y0, y1, y2]) := by rw [Bool.eq_iff_iff]; simp
theorem ch6 {x0 x1 x2 x3 x4 x5 y0 y1 y2 y3 y4 y5 : Int} : (decide (x0 = y0) && (decide (x1 = y1) && (decide (x2 = y2) && (decide (x3 = y3) && (decide (x4 = y4) && decide (x5 = y5)))))) = decide ([x0, x1, x2, x3, x4, x5] = [y0, y1, y2, y3, y4, y5]) := by rw [Bool.eq_iff_iff]; simp
theorem ch2 {x0 x1 y0 y1 : Int} : (decide (x0 = y0) && decide (x1 = y1)) = decide ([x0, x1] = [y0, y1]) := by rw [Bool.eq_iff_iff]; simp

theorem Tryd.great_w (b : Bk) (A : BkA) (w : World) (hi : BkIn b) : Fun Tryd.prog 6 [.agg ⟨bkV b A⟩] w (.bool (decide (40 < b.H.length) || (decide (70 < b.O.length) || (decide (40 < b.R.length) || decide (200 < b.S.length))))) := by
  refine Tri.enter (bx := []) (hp := []) Tryd.func6 rfl (by kernel_rfl) rfl (Own.nil w) ?_
  have l1 := hi.l1
  have l2 := hi.l2
  have l3 := hi.l3
  have l4 := hi.l4
  refine At.run 100 true [] [] rfl trivial ?_
  refine At.step [] rfl rfl rfl rfl rfl trivial (OpOk.box rfl rfl rfl fun bq hbq => ?_)
  by_cases g1 : 40 < b.H.length
  · refine At.run 100 true [true, true, true] [hB 0] rfl (by (repeat' apply And.intro) <;> first | exact True.intro | omega | (simp only [inK]; omega) | (simp; done) | (simp; omega) | exact decide_eq_true (by omega) | exact decide_eq_false (by omega) | rfl | (simp [Value.oneCell']; done) | exact i64s_one _ | exact AggOk.mk (by kernel_rfl) (by kernel_rfl)) ?_
    exact At.retK [] [] [] rfl rfl Tryd.func6 rfl trivial ⟨by simp [g1, tupV], rfl, rfl⟩
  by_cases g2 : 70 < b.O.length
  · refine At.run 100 true [false, true, true] [hB 0, hB 0] rfl (by (repeat' apply And.intro) <;> first | exact True.intro | omega | (simp only [inK]; omega) | (simp; done) | (simp; omega) | exact decide_eq_true (by omega) | exact decide_eq_false (by omega) | rfl | (simp [Value.oneCell']; done) | exact i64s_one _ | exact AggOk.mk (by kernel_rfl) (by kernel_rfl)) ?_
    exact At.retK [] [] [] rfl rfl Tryd.func6 rfl trivial ⟨by simp [g2, tupV], rfl, rfl⟩
  by_cases g3 : 40 < b.R.length
  · refine At.run 100 true [false, false, true] [hB 0, hB 0, hB 0] rfl (by (repeat' apply And.intro) <;> first | exact True.intro | omega | (simp only [inK]; omega) | (simp; done) | (simp; omega) | exact decide_eq_true (by omega) | exact decide_eq_false (by omega) | rfl | (simp [Value.oneCell']; done) | exact i64s_one _ | exact AggOk.mk (by kernel_rfl) (by kernel_rfl)) ?_
    exact At.retK [] [] [] rfl rfl Tryd.func6 rfl trivial ⟨by simp [g3, tupV], rfl, rfl⟩
  refine At.run 100 true [false, false, false] [hB 0, hB 0, hB 0, hB 0] rfl (by (repeat' apply And.intro) <;> first | exact True.intro | omega | (simp only [inK]; omega) | (simp; done) | (simp; omega) | exact decide_eq_true (by omega) | exact decide_eq_false (by omega) | rfl | (simp [Value.oneCell']; done) | exact i64s_one _ | exact AggOk.mk (by kernel_rfl) (by kernel_rfl)) ?_
  refine At.retK [] [] [] rfl rfl Tryd.func6 rfl trivial ⟨?_, rfl, rfl⟩
  rw [decide_eq_false g1, decide_eq_false g2, decide_eq_false g3]
  exact congrArg Value.bool (by rw [Bool.eq_iff_iff]; simp <;> omega)

theorem Tryd.rSame_w (a b : Bk) (A B : BkA) (w : World) (ha : BkIn a) (hb : BkIn b) (hoa : BkOk w a A) (hob : BkOk w b B) : Fun Tryd.prog 11 [.agg ⟨bkV a A⟩, .agg ⟨bkV b B⟩] w (.bool (sameB a b)) := by
  refine Tri.enter (bx := []) (hp := []) Tryd.func11 rfl (by kernel_rfl) rfl (Own.nil w) ?_
  obtain ⟨a1, a2, a3, a4, c1, c2, c3, c4⟩ := A
  obtain ⟨b1, b2, b3, b4, d1, d2, d3, d4⟩ := B
  have h1 : SlOk w a1 (a.H.flatMap i64s) := hoa.h1
  have h2 : SlOk w a2 (a.S.flatMap i64s) := hoa.h2
  have h3 : SlOk w a3 (a.O.flatMap i64s) := hoa.h3
  have h4 : SlOk w a4 (a.R.flatMap i64s) := hoa.h4
  have h1' : SlOk w b1 (b.H.flatMap i64s) := hob.h1
  have h2' : SlOk w b2 (b.S.flatMap i64s) := hob.h2
  have h3' : SlOk w b3 (b.O.flatMap i64s) := hob.h3
  have h4' : SlOk w b4 (b.R.flatMap i64s) := hob.h4
  have l1 := ha.l1
  have l2 := ha.l2
  have l3 := ha.l3
  have l4 := ha.l4
  refine At.run 100 true [] [] rfl trivial ?_
  refine At.step [] rfl rfl rfl rfl rfl trivial (OpOk.box rfl rfl rfl fun bq hbq => ?_)
  refine At.step [] rfl rfl rfl rfl rfl trivial (OpOk.box rfl rfl rfl fun br hbr => ?_)
  refine At.run 100 true [] [] rfl trivial ?_
  by_cases g0 : a.H.length ≠ b.H.length
  · refine At.run 100 true [true, true, true, true, true] [hB 1, hB 0] rfl (by (repeat' apply And.intro) <;> first | simp; omega | exact True.intro | omega | rfl | (simp only [inK]; omega) | exact decide_eq_true (by omega) | exact decide_eq_false (by omega) | (simp; done) | (simp; omega) | (simp [Value.oneCell']; done) | exact i64s_one _ | exact AggOk.mk (by kernel_rfl) (by kernel_rfl)) ?_
    exact At.retK [] [] [] rfl rfl Tryd.func11 rfl trivial ⟨by rw [sameF (fun h => g0 (by rw [h.1]))]; rfl, rfl, rfl⟩
  by_cases g1 : a.S.length ≠ b.S.length
  · refine At.run 100 true [false, true, true, true, true] [hB 1, hB 0, hB 1, hB 0] rfl (by (repeat' apply And.intro) <;> first | simp; omega | exact True.intro | omega | rfl | (simp only [inK]; omega) | exact decide_eq_true (by omega) | exact decide_eq_false (by omega) | (simp; done) | (simp; omega) | (simp [Value.oneCell']; done) | exact i64s_one _ | exact AggOk.mk (by kernel_rfl) (by kernel_rfl)) ?_
    exact At.retK [] [] [] rfl rfl Tryd.func11 rfl trivial ⟨by rw [sameF (fun h => g1 (by rw [h.2.1]))]; rfl, rfl, rfl⟩
  by_cases g2 : a.O.length ≠ b.O.length
  · refine At.run 100 true [false, false, true, true, true] [hB 1, hB 0, hB 1, hB 0, hB 1, hB 0] rfl (by (repeat' apply And.intro) <;> first | simp; omega | exact True.intro | omega | rfl | (simp only [inK]; omega) | exact decide_eq_true (by omega) | exact decide_eq_false (by omega) | (simp; done) | (simp; omega) | (simp [Value.oneCell']; done) | exact i64s_one _ | exact AggOk.mk (by kernel_rfl) (by kernel_rfl)) ?_
    exact At.retK [] [] [] rfl rfl Tryd.func11 rfl trivial ⟨by rw [sameF (fun h => g2 (by rw [h.2.2.1]))]; rfl, rfl, rfl⟩
  by_cases g3 : a.R.length ≠ b.R.length
  · refine At.run 100 true [false, false, false, true, true] [hB 1, hB 0, hB 1, hB 0, hB 1, hB 0, hB 1, hB 0] rfl (by (repeat' apply And.intro) <;> first | simp; omega | exact True.intro | omega | rfl | (simp only [inK]; omega) | exact decide_eq_true (by omega) | exact decide_eq_false (by omega) | (simp; done) | (simp; omega) | (simp [Value.oneCell']; done) | exact i64s_one _ | exact AggOk.mk (by kernel_rfl) (by kernel_rfl)) ?_
    exact At.retK [] [] [] rfl rfl Tryd.func11 rfl trivial ⟨by rw [sameF (fun h => g3 (by rw [h.2.2.2.1]))]; rfl, rfl, rfl⟩
  by_cases g4 : a.c ≠ b.c
  · refine At.run 100 true [false, false, false, false, true] [hB 1, hB 0, hB 1, hB 0, hB 1, hB 0, hB 1, hB 0, hB 1, hB 0] rfl (by (repeat' apply And.intro) <;> first | simp; omega | exact True.intro | omega | rfl | (simp only [inK]; omega) | exact decide_eq_true (by omega) | exact decide_eq_false (by omega) | (simp; done) | (simp; omega) | (simp [Value.oneCell']; done) | exact i64s_one _ | exact AggOk.mk (by kernel_rfl) (by kernel_rfl)) ?_
    exact At.retK [] [] [] rfl rfl Tryd.func11 rfl trivial ⟨by rw [sameF (fun h => g4 h.2.2.2.2)]; rfl, rfl, rfl⟩
  refine At.run 100 true [false, false, false, false, false] [hB 1, hB 0, hB 1, hB 0, hB 1, hB 0, hB 1, hB 0, hB 1, hB 0] rfl (by (repeat' apply And.intro) <;> first | simp; omega | exact True.intro | omega | rfl | (simp only [inK]; omega) | exact decide_eq_true (by omega) | exact decide_eq_false (by omega) | (simp; done) | (simp; omega) | (simp [Value.oneCell']; done) | exact i64s_one _ | exact AggOk.mk (by kernel_rfl) (by kernel_rfl)) ?_
  refine At.loop (n := a.H.length) (env0 := [(2, .pointer (some ⟨bq, 0, none⟩)), (3, .pointer (some ⟨br, 0, none⟩)), (5, .int .i64 0)]) (fun m env bx hp => ∃ i : Nat, m = a.H.length - i ∧ i ≤ a.H.length ∧ a.H.take i = b.H.take i ∧
    env = [(2, .pointer (some ⟨bq, 0, none⟩)), (3, .pointer (some ⟨br, 0, none⟩)), (5, .int .i64 i)] ∧ bx = [(br, 27, bkV b ⟨b1, b2, b3, b4, d1, d2, d3, d4⟩), (bq, 27, bkV a ⟨a1, a2, a3, a4, c1, c2, c3, c4⟩)] ∧ hp = []) rfl ⟨0, rfl, by omega, by simp, rfl, rfl, rfl⟩ ⟨rfl, rfl, rfl, trivial⟩ ?_
  rintro m env bx hp ⟨i, rfl, hi2, hno, rfl, rfl, rfl⟩ ih
  by_cases hlt : i < a.H.length
  · obtain ⟨x, hx⟩ : ∃ x, a.H[i]? = some x := ⟨_, List.getElem?_eq_getElem hlt⟩
    obtain ⟨y, hy⟩ : ∃ y, b.H[i]? = some y := ⟨_, List.getElem?_eq_getElem (by omega)⟩
    have hmx := List.mem_of_getElem? hx
    have hmy := List.mem_of_getElem? hy
    obtain ⟨g, o, rfl, hc⟩ := h1.get (slNe (by decide) ha.r1.len hx)
    obtain ⟨g2, o2, rfl, hc2⟩ := h1'.get (slNe (by decide) hb.r1.len hy)
    have r1 : ∀ {bx : Bx} {hp : List Seg}, RdW ⟨w, kys [] []⟩ bx hp g (o + (i : Int).toNat * 4) (i64s x) := fun {_ _} => RdW.rec ha.r1.len hc (by simp [kys]) hx (by omega)
    have r2 : ∀ {bx : Bx} {hp : List Seg}, RdW ⟨w, kys [] []⟩ bx hp g2 (o2 + (i : Int).toNat * 4) (i64s y) := fun {_ _} => RdW.rec hb.r1.len hc2 (by simp [kys]) hy (by omega)
    have hne := fun h => ne_of_get hx hy h
    have hn := fun (h : x = y) => take_next hno hx (by rw [h]; exact hy)
    obtain ⟨x0, x1, x2, x3, rfl⟩ := len4 (ha.r1.len x hmx)
    obtain ⟨y0, y1, y2, y3, rfl⟩ := len4 (hb.r1.len y hmy)
    refine At.run 100 true [true] [hB 1] rfl (by (repeat' apply And.intro) <;> first | exact True.intro | omega | (simp only [inK]; omega) | (simp; done) | (simp; omega) | exact decide_eq_true (by omega) | exact decide_eq_false (by omega) | rfl | (simp [Value.oneCell']; done) | exact i64s_one _ | exact AggOk.mk (by kernel_rfl) (by kernel_rfl)) ?_
    refine At.quiet true [] [hB 1, hR [.int .i64 x0, .int .i64 x1, .int .i64 x2, .int .i64 x3], hB 0, hR [.int .i64 y0, .int .i64 y1, .int .i64 y2, .int .i64 y3]] ⟨by kernel_rfl, by kernel_rfl, rfl, rfl, rfl⟩ rfl rfl rfl (by (repeat' apply And.intro) <;> first | exact r1 | exact r2 | exact True.intro | omega | rfl | (simp only [inK]; omega) | exact decide_eq_true (by omega) | exact decide_eq_false (by omega) | (simp; done) | (simp; omega) | (simp [Value.oneCell']; done) | exact i64s_one _ | exact AggOk.mk (by kernel_rfl) (by kernel_rfl)) ?_
    rw [ch4]
    by_cases hxy : [x0, x1, x2, x3] = [y0, y1, y2, y3]
    · refine At.run 100 true [false] [] rfl (by (repeat' apply And.intro) <;> first | rw [decide_eq_true hxy]; rfl | exact True.intro | omega | rfl | (simp only [inK]; omega) | exact decide_eq_true (by omega) | exact decide_eq_false (by omega) | (simp; done) | (simp; omega) | (simp [Value.oneCell']; done) | exact i64s_one _ | exact AggOk.mk (by kernel_rfl) (by kernel_rfl)) ?_
      refine At.weak (ih (a.H.length - (i + 1)) _ _ _ (by omega) ⟨i + 1, rfl, by omega, hn hxy, rfl, rfl, rfl⟩) ⟨rfl, rfl, some_int_eq (by omega), trivial⟩
    · refine At.run 100 true [true] [] rfl (by (repeat' apply And.intro) <;> first | rw [decide_eq_false hxy]; rfl | exact True.intro | omega | rfl | (simp only [inK]; omega) | exact decide_eq_true (by omega) | exact decide_eq_false (by omega) | (simp; done) | (simp; omega) | (simp [Value.oneCell']; done) | exact i64s_one _ | exact AggOk.mk (by kernel_rfl) (by kernel_rfl)) ?_
      exact At.retK [] [] [] rfl rfl Tryd.func11 rfl trivial ⟨by rw [sameF (fun h => hne hxy h.1)]; rfl, rfl, rfl⟩
  · refine At.run 100 true [false] [hB 1] rfl (by (repeat' apply And.intro) <;> first | exact True.intro | omega | (simp only [inK]; omega) | (simp; done) | (simp; omega) | exact decide_eq_true (by omega) | exact decide_eq_false (by omega) | rfl | (simp [Value.oneCell']; done) | exact i64s_one _ | exact AggOk.mk (by kernel_rfl) (by kernel_rfl)) ?_
    have e1 := eq_take hno (by omega) (by omega)
    clear ih hno hlt
    refine At.loop (n := a.S.length) (env0 := [(2, .pointer (some ⟨bq, 0, none⟩)), (3, .pointer (some ⟨br, 0, none⟩)), (6, .int .i64 0)]) (fun m env bx hp => ∃ i : Nat, m = a.S.length - i ∧ i ≤ a.S.length ∧ a.S.take i = b.S.take i ∧
      env = [(2, .pointer (some ⟨bq, 0, none⟩)), (3, .pointer (some ⟨br, 0, none⟩)), (6, .int .i64 i)] ∧ bx = [(br, 27, bkV b ⟨b1, b2, b3, b4, d1, d2, d3, d4⟩), (bq, 27, bkV a ⟨a1, a2, a3, a4, c1, c2, c3, c4⟩)] ∧ hp = []) rfl ⟨0, rfl, by omega, by simp, rfl, rfl, rfl⟩ ⟨rfl, rfl, rfl, trivial⟩ ?_
    rintro m env bx hp ⟨i, rfl, hi2, hno, rfl, rfl, rfl⟩ ih
    by_cases hlt : i < a.S.length
    · obtain ⟨x, hx⟩ : ∃ x, a.S[i]? = some x := ⟨_, List.getElem?_eq_getElem hlt⟩
      obtain ⟨y, hy⟩ : ∃ y, b.S[i]? = some y := ⟨_, List.getElem?_eq_getElem (by omega)⟩
      have hmx := List.mem_of_getElem? hx
      have hmy := List.mem_of_getElem? hy
      obtain ⟨g, o, rfl, hc⟩ := h2.get (slNe (by decide) ha.r2.len hx)
      obtain ⟨g2, o2, rfl, hc2⟩ := h2'.get (slNe (by decide) hb.r2.len hy)
      have r1 : ∀ {bx : Bx} {hp : List Seg}, RdW ⟨w, kys [] []⟩ bx hp g (o + (i : Int).toNat * 3) (i64s x) := fun {_ _} => RdW.rec ha.r2.len hc (by simp [kys]) hx (by omega)
      have r2 : ∀ {bx : Bx} {hp : List Seg}, RdW ⟨w, kys [] []⟩ bx hp g2 (o2 + (i : Int).toNat * 3) (i64s y) := fun {_ _} => RdW.rec hb.r2.len hc2 (by simp [kys]) hy (by omega)
      have hne := fun h => ne_of_get hx hy h
      have hn := fun (h : x = y) => take_next hno hx (by rw [h]; exact hy)
      obtain ⟨x0, x1, x2, rfl⟩ := len3 (ha.r2.len x hmx)
      obtain ⟨y0, y1, y2, rfl⟩ := len3 (hb.r2.len y hmy)
      refine At.run 100 true [true] [hB 1] rfl (by (repeat' apply And.intro) <;> first | exact True.intro | omega | (simp only [inK]; omega) | (simp; done) | (simp; omega) | exact decide_eq_true (by omega) | exact decide_eq_false (by omega) | rfl | (simp [Value.oneCell']; done) | exact i64s_one _ | exact AggOk.mk (by kernel_rfl) (by kernel_rfl)) ?_
      refine At.quiet true [] [hB 1, hR [.int .i64 x0, .int .i64 x1, .int .i64 x2], hB 0, hR [.int .i64 y0, .int .i64 y1, .int .i64 y2]] ⟨by kernel_rfl, by kernel_rfl, rfl, rfl, rfl⟩ rfl rfl rfl (by (repeat' apply And.intro) <;> first | exact r1 | exact r2 | exact True.intro | omega | rfl | (simp only [inK]; omega) | exact decide_eq_true (by omega) | exact decide_eq_false (by omega) | (simp; done) | (simp; omega) | (simp [Value.oneCell']; done) | exact i64s_one _ | exact AggOk.mk (by kernel_rfl) (by kernel_rfl)) ?_
      rw [ch3]
      by_cases hxy : [x0, x1, x2] = [y0, y1, y2]
      · refine At.run 100 true [false] [] rfl (by (repeat' apply And.intro) <;> first | rw [decide_eq_true hxy]; rfl | exact True.intro | omega | rfl | (simp only [inK]; omega) | exact decide_eq_true (by omega) | exact decide_eq_false (by omega) | (simp; done) | (simp; omega) | (simp [Value.oneCell']; done) | exact i64s_one _ | exact AggOk.mk (by kernel_rfl) (by kernel_rfl)) ?_
        refine At.weak (ih (a.S.length - (i + 1)) _ _ _ (by omega) ⟨i + 1, rfl, by omega, hn hxy, rfl, rfl, rfl⟩) ⟨rfl, rfl, some_int_eq (by omega), trivial⟩
      · refine At.run 100 true [true] [] rfl (by (repeat' apply And.intro) <;> first | rw [decide_eq_false hxy]; rfl | exact True.intro | omega | rfl | (simp only [inK]; omega) | exact decide_eq_true (by omega) | exact decide_eq_false (by omega) | (simp; done) | (simp; omega) | (simp [Value.oneCell']; done) | exact i64s_one _ | exact AggOk.mk (by kernel_rfl) (by kernel_rfl)) ?_
        exact At.retK [] [] [] rfl rfl Tryd.func11 rfl trivial ⟨by rw [sameF (fun h => hne hxy h.2.1)]; rfl, rfl, rfl⟩
    · refine At.run 100 true [false] [hB 1] rfl (by (repeat' apply And.intro) <;> first | exact True.intro | omega | (simp only [inK]; omega) | (simp; done) | (simp; omega) | exact decide_eq_true (by omega) | exact decide_eq_false (by omega) | rfl | (simp [Value.oneCell']; done) | exact i64s_one _ | exact AggOk.mk (by kernel_rfl) (by kernel_rfl)) ?_
      have e2 := eq_take hno (by omega) (by omega)
      clear ih hno hlt
      refine At.loop (n := a.O.length) (env0 := [(2, .pointer (some ⟨bq, 0, none⟩)), (3, .pointer (some ⟨br, 0, none⟩)), (7, .int .i64 0)]) (fun m env bx hp => ∃ i : Nat, m = a.O.length - i ∧ i ≤ a.O.length ∧ a.O.take i = b.O.take i ∧
        env = [(2, .pointer (some ⟨bq, 0, none⟩)), (3, .pointer (some ⟨br, 0, none⟩)), (7, .int .i64 i)] ∧ bx = [(br, 27, bkV b ⟨b1, b2, b3, b4, d1, d2, d3, d4⟩), (bq, 27, bkV a ⟨a1, a2, a3, a4, c1, c2, c3, c4⟩)] ∧ hp = []) rfl ⟨0, rfl, by omega, by simp, rfl, rfl, rfl⟩ ⟨rfl, rfl, rfl, trivial⟩ ?_
      rintro m env bx hp ⟨i, rfl, hi2, hno, rfl, rfl, rfl⟩ ih
      by_cases hlt : i < a.O.length
      · obtain ⟨x, hx⟩ : ∃ x, a.O[i]? = some x := ⟨_, List.getElem?_eq_getElem hlt⟩
        obtain ⟨y, hy⟩ : ∃ y, b.O[i]? = some y := ⟨_, List.getElem?_eq_getElem (by omega)⟩
        have hmx := List.mem_of_getElem? hx
        have hmy := List.mem_of_getElem? hy
        obtain ⟨g, o, rfl, hc⟩ := h3.get (slNe (by decide) ha.r3.len hx)
        obtain ⟨g2, o2, rfl, hc2⟩ := h3'.get (slNe (by decide) hb.r3.len hy)
        have r1 : ∀ {bx : Bx} {hp : List Seg}, RdW ⟨w, kys [] []⟩ bx hp g (o + (i : Int).toNat * 6) (i64s x) := fun {_ _} => RdW.rec ha.r3.len hc (by simp [kys]) hx (by omega)
        have r2 : ∀ {bx : Bx} {hp : List Seg}, RdW ⟨w, kys [] []⟩ bx hp g2 (o2 + (i : Int).toNat * 6) (i64s y) := fun {_ _} => RdW.rec hb.r3.len hc2 (by simp [kys]) hy (by omega)
        have hne := fun h => ne_of_get hx hy h
        have hn := fun (h : x = y) => take_next hno hx (by rw [h]; exact hy)
        obtain ⟨x0, x1, x2, x3, x4, x5, rfl⟩ := len6 (ha.r3.len x hmx)
        obtain ⟨y0, y1, y2, y3, y4, y5, rfl⟩ := len6 (hb.r3.len y hmy)
        refine At.run 100 true [true] [hB 1] rfl (by (repeat' apply And.intro) <;> first | exact True.intro | omega | (simp only [inK]; omega) | (simp; done) | (simp; omega) | exact decide_eq_true (by omega) | exact decide_eq_false (by omega) | rfl | (simp [Value.oneCell']; done) | exact i64s_one _ | exact AggOk.mk (by kernel_rfl) (by kernel_rfl)) ?_
        refine At.quiet true [] [hB 1, hR [.int .i64 x0, .int .i64 x1, .int .i64 x2, .int .i64 x3, .int .i64 x4, .int .i64 x5], hB 0, hR [.int .i64 y0, .int .i64 y1, .int .i64 y2, .int .i64 y3, .int .i64 y4, .int .i64 y5]] ⟨by kernel_rfl, by kernel_rfl, rfl, rfl, rfl⟩ rfl rfl rfl (by (repeat' apply And.intro) <;> first | exact r1 | exact r2 | exact True.intro | omega | rfl | (simp only [inK]; omega) | exact decide_eq_true (by omega) | exact decide_eq_false (by omega) | (simp; done) | (simp; omega) | (simp [Value.oneCell']; done) | exact i64s_one _ | exact AggOk.mk (by kernel_rfl) (by kernel_rfl)) ?_
        rw [ch6]
        by_cases hxy : [x0, x1, x2, x3, x4, x5] = [y0, y1, y2, y3, y4, y5]
        · refine At.run 100 true [false] [] rfl (by (repeat' apply And.intro) <;> first | rw [decide_eq_true hxy]; rfl | exact True.intro | omega | rfl | (simp only [inK]; omega) | exact decide_eq_true (by omega) | exact decide_eq_false (by omega) | (simp; done) | (simp; omega) | (simp [Value.oneCell']; done) | exact i64s_one _ | exact AggOk.mk (by kernel_rfl) (by kernel_rfl)) ?_
          refine At.weak (ih (a.O.length - (i + 1)) _ _ _ (by omega) ⟨i + 1, rfl, by omega, hn hxy, rfl, rfl, rfl⟩) ⟨rfl, rfl, some_int_eq (by omega), trivial⟩
        · refine At.run 100 true [true] [] rfl (by (repeat' apply And.intro) <;> first | rw [decide_eq_false hxy]; rfl | exact True.intro | omega | rfl | (simp only [inK]; omega) | exact decide_eq_true (by omega) | exact decide_eq_false (by omega) | (simp; done) | (simp; omega) | (simp [Value.oneCell']; done) | exact i64s_one _ | exact AggOk.mk (by kernel_rfl) (by kernel_rfl)) ?_
          exact At.retK [] [] [] rfl rfl Tryd.func11 rfl trivial ⟨by rw [sameF (fun h => hne hxy h.2.2.1)]; rfl, rfl, rfl⟩
      · refine At.run 100 true [false] [hB 1] rfl (by (repeat' apply And.intro) <;> first | exact True.intro | omega | (simp only [inK]; omega) | (simp; done) | (simp; omega) | exact decide_eq_true (by omega) | exact decide_eq_false (by omega) | rfl | (simp [Value.oneCell']; done) | exact i64s_one _ | exact AggOk.mk (by kernel_rfl) (by kernel_rfl)) ?_
        have e3 := eq_take hno (by omega) (by omega)
        clear ih hno hlt
        refine At.loop (n := a.R.length) (env0 := [(2, .pointer (some ⟨bq, 0, none⟩)), (3, .pointer (some ⟨br, 0, none⟩)), (8, .int .i64 0)]) (fun m env bx hp => ∃ i : Nat, m = a.R.length - i ∧ i ≤ a.R.length ∧ a.R.take i = b.R.take i ∧
          env = [(2, .pointer (some ⟨bq, 0, none⟩)), (3, .pointer (some ⟨br, 0, none⟩)), (8, .int .i64 i)] ∧ bx = [(br, 27, bkV b ⟨b1, b2, b3, b4, d1, d2, d3, d4⟩), (bq, 27, bkV a ⟨a1, a2, a3, a4, c1, c2, c3, c4⟩)] ∧ hp = []) rfl ⟨0, rfl, by omega, by simp, rfl, rfl, rfl⟩ ⟨rfl, rfl, rfl, trivial⟩ ?_
        rintro m env bx hp ⟨i, rfl, hi2, hno, rfl, rfl, rfl⟩ ih
        by_cases hlt : i < a.R.length
        · obtain ⟨x, hx⟩ : ∃ x, a.R[i]? = some x := ⟨_, List.getElem?_eq_getElem hlt⟩
          obtain ⟨y, hy⟩ : ∃ y, b.R[i]? = some y := ⟨_, List.getElem?_eq_getElem (by omega)⟩
          have hmx := List.mem_of_getElem? hx
          have hmy := List.mem_of_getElem? hy
          obtain ⟨g, o, rfl, hc⟩ := h4.get (slNe (by decide) ha.r4.len hx)
          obtain ⟨g2, o2, rfl, hc2⟩ := h4'.get (slNe (by decide) hb.r4.len hy)
          have r1 : ∀ {bx : Bx} {hp : List Seg}, RdW ⟨w, kys [] []⟩ bx hp g (o + (i : Int).toNat * 2) (i64s x) := fun {_ _} => RdW.rec ha.r4.len hc (by simp [kys]) hx (by omega)
          have r2 : ∀ {bx : Bx} {hp : List Seg}, RdW ⟨w, kys [] []⟩ bx hp g2 (o2 + (i : Int).toNat * 2) (i64s y) := fun {_ _} => RdW.rec hb.r4.len hc2 (by simp [kys]) hy (by omega)
          have hne := fun h => ne_of_get hx hy h
          have hn := fun (h : x = y) => take_next hno hx (by rw [h]; exact hy)
          obtain ⟨x0, x1, rfl⟩ := len2 (ha.r4.len x hmx)
          obtain ⟨y0, y1, rfl⟩ := len2 (hb.r4.len y hmy)
          refine At.run 100 true [true] [hB 1] rfl (by (repeat' apply And.intro) <;> first | exact True.intro | omega | (simp only [inK]; omega) | (simp; done) | (simp; omega) | exact decide_eq_true (by omega) | exact decide_eq_false (by omega) | rfl | (simp [Value.oneCell']; done) | exact i64s_one _ | exact AggOk.mk (by kernel_rfl) (by kernel_rfl)) ?_
          refine At.quiet true [] [hB 1, hR [.int .i64 x0, .int .i64 x1], hB 0, hR [.int .i64 y0, .int .i64 y1]] ⟨by kernel_rfl, by kernel_rfl, rfl, rfl, rfl⟩ rfl rfl rfl (by (repeat' apply And.intro) <;> first | exact r1 | exact r2 | exact True.intro | omega | rfl | (simp only [inK]; omega) | exact decide_eq_true (by omega) | exact decide_eq_false (by omega) | (simp; done) | (simp; omega) | (simp [Value.oneCell']; done) | exact i64s_one _ | exact AggOk.mk (by kernel_rfl) (by kernel_rfl)) ?_
          rw [ch2]
          by_cases hxy : [x0, x1] = [y0, y1]
          · refine At.run 100 true [false] [] rfl (by (repeat' apply And.intro) <;> first | rw [decide_eq_true hxy]; rfl | exact True.intro | omega | rfl | (simp only [inK]; omega) | exact decide_eq_true (by omega) | exact decide_eq_false (by omega) | (simp; done) | (simp; omega) | (simp [Value.oneCell']; done) | exact i64s_one _ | exact AggOk.mk (by kernel_rfl) (by kernel_rfl)) ?_
            refine At.weak (ih (a.R.length - (i + 1)) _ _ _ (by omega) ⟨i + 1, rfl, by omega, hn hxy, rfl, rfl, rfl⟩) ⟨rfl, rfl, some_int_eq (by omega), trivial⟩
          · refine At.run 100 true [true] [] rfl (by (repeat' apply And.intro) <;> first | rw [decide_eq_false hxy]; rfl | exact True.intro | omega | rfl | (simp only [inK]; omega) | exact decide_eq_true (by omega) | exact decide_eq_false (by omega) | (simp; done) | (simp; omega) | (simp [Value.oneCell']; done) | exact i64s_one _ | exact AggOk.mk (by kernel_rfl) (by kernel_rfl)) ?_
            exact At.retK [] [] [] rfl rfl Tryd.func11 rfl trivial ⟨by rw [sameF (fun h => hne hxy h.2.2.2.1)]; rfl, rfl, rfl⟩
        · refine At.run 100 true [false] [hB 1] rfl (by (repeat' apply And.intro) <;> first | exact True.intro | omega | (simp only [inK]; omega) | (simp; done) | (simp; omega) | exact decide_eq_true (by omega) | exact decide_eq_false (by omega) | rfl | (simp [Value.oneCell']; done) | exact i64s_one _ | exact AggOk.mk (by kernel_rfl) (by kernel_rfl)) ?_
          have e4 := eq_take hno (by omega) (by omega)
          clear ih hno hlt
          exact At.retK [] [] [] rfl rfl Tryd.func11 rfl trivial ⟨by rw [show sameB a b = true from decide_eq_true ⟨e1, e2, e3, e4, by omega⟩]; rfl, rfl, rfl⟩

end Go.Proofs

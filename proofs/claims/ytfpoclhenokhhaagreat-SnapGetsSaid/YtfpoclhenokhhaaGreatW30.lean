/-
  Walks of layer 13: the reference puts a book.
-/
import Derived.Test.YtfpoclhenokhhaaGreatW29
import Derived.Test.YtfpoclhenokhhaaGreatW28
namespace Go.Proofs
open Go Go.Eng
set_option maxRecDepth 100000
set_option maxHeartbeats 4000000
attribute [local irreducible] Tri

def colsB (b : Bk) : List (List Int) := [colOf b.H 0, colOf b.H 1, colOf b.H 2, colOf b.H 3, colOf b.S 0, colOf b.S 1, colOf b.S 2, colOf b.O 0, colOf b.O 1, colOf b.O 2, colOf b.O 3, colOf b.O 4, colOf b.O 5, colOf b.R 0, colOf b.R 1]
theorem colsB_put (b : Bk) : numL b.c.toNat ++ (colsB b).flatMap colL = bookB b := by
  simp [colsB, bookB, putB, List.range_succ]
theorem flat_bound (B : Nat) : ∀ (ls : List (List Int)) (i : Nat), (∀ c, c ∈ ls → (colL c).length ≤ B) → ((ls.take i).flatMap colL).length ≤ i * B
  | [], i, _ => by simp
  | c :: ls, 0, _ => by simp
  | c :: ls, i + 1, h => by
    rw [List.take_succ_cons, List.flatMap_cons, List.length_append, Nat.succ_mul]
    have h1 := h c (by simp)
    have h2 := flat_bound B ls i (fun d hd => h d (by simp [hd]))
    omega
theorem colsB_bound (b : Bk) (hi : BkIn b) (h1 : b.H.length ≤ 65536) (h2 : b.S.length ≤ 65536) (h3 : b.O.length ≤ 65536) (h4 : b.R.length ≤ 65536) : ∀ c, c ∈ colsB b → (colL c).length ≤ 1310730 := by
  have key : ∀ (sz : Nat) (l : List (List Int)) (f : Nat), Recs sz l → l.length ≤ 65536 → (colL (colOf l f)).length ≤ 1310730 := fun sz l f hr hl => by
    have := colL_len (colOf l f) (colOf_in hr f) (by rw [colOf_len]; omega)
    rw [colOf_len] at this; omega
  intro c hc
  simp only [colsB, List.mem_cons, List.not_mem_nil, or_false] at hc
  rcases hc with rfl | rfl | rfl | rfl | rfl | rfl | rfl | rfl | rfl | rfl | rfl | rfl | rfl | rfl | rfl
  all_goals first | exact key 4 _ _ hi.r1 h1 | exact key 3 _ _ hi.r2 h2 | exact key 6 _ _ hi.r3 h3 | exact key 2 _ _ hi.r4 h4
theorem Tryz.cols15 (b : Bk) (g : Nat → Option Nat) (c : Nat → Nat) (h1 : b.H.length ≤ 65536) (h2 : b.S.length ≤ 65536) (h3 : b.O.length ≤ 65536) (h4 : b.R.length ≤ 65536) (i : Nat) (hi : i < 15) :
    ∃ (gg : Option Nat) (cc : Nat) (xs : List Int), ([sv (g 0) b.H.length (c 0), sv (g 1) b.H.length (c 1), sv (g 2) b.H.length (c 2), sv (g 3) b.H.length (c 3), sv (g 4) b.S.length (c 4), sv (g 5) b.S.length (c 5), sv (g 6) b.S.length (c 6), sv (g 7) b.O.length (c 7), sv (g 8) b.O.length (c 8), sv (g 9) b.O.length (c 9), sv (g 10) b.O.length (c 10), sv (g 11) b.O.length (c 11), sv (g 12) b.O.length (c 12), sv (g 13) b.R.length (c 13), sv (g 14) b.R.length (c 14)] : List Value)[i]? = some (sv gg xs.length cc) ∧ (colsB b)[i]? = some xs ∧ ([Seg.row (g 0) 2 1 b.H.length (c 0) (i64s (colOf b.H 0)), Seg.row (g 1) 2 1 b.H.length (c 1) (i64s (colOf b.H 1)), Seg.row (g 2) 2 1 b.H.length (c 2) (i64s (colOf b.H 2)), Seg.row (g 3) 2 1 b.H.length (c 3) (i64s (colOf b.H 3)), Seg.row (g 4) 2 1 b.S.length (c 4) (i64s (colOf b.S 0)), Seg.row (g 5) 2 1 b.S.length (c 5) (i64s (colOf b.S 1)), Seg.row (g 6) 2 1 b.S.length (c 6) (i64s (colOf b.S 2)), Seg.row (g 7) 2 1 b.O.length (c 7) (i64s (colOf b.O 0)), Seg.row (g 8) 2 1 b.O.length (c 8) (i64s (colOf b.O 1)), Seg.row (g 9) 2 1 b.O.length (c 9) (i64s (colOf b.O 2)), Seg.row (g 10) 2 1 b.O.length (c 10) (i64s (colOf b.O 3)), Seg.row (g 11) 2 1 b.O.length (c 11) (i64s (colOf b.O 4)), Seg.row (g 12) 2 1 b.O.length (c 12) (i64s (colOf b.O 5)), Seg.row (g 13) 2 1 b.R.length (c 13) (i64s (colOf b.R 0)), Seg.row (g 14) 2 1 b.R.length (c 14) (i64s (colOf b.R 1))] : List Seg)[i]? = some (Seg.row gg 2 1 xs.length cc (i64s xs)) ∧ xs.length ≤ 65536 := by
  have key : ∀ (gg : Option Nat) (cc : Nat) (l : List (List Int)) (f : Nat), l.length ≤ 65536 → (([sv (g 0) b.H.length (c 0), sv (g 1) b.H.length (c 1), sv (g 2) b.H.length (c 2), sv (g 3) b.H.length (c 3), sv (g 4) b.S.length (c 4), sv (g 5) b.S.length (c 5), sv (g 6) b.S.length (c 6), sv (g 7) b.O.length (c 7), sv (g 8) b.O.length (c 8), sv (g 9) b.O.length (c 9), sv (g 10) b.O.length (c 10), sv (g 11) b.O.length (c 11), sv (g 12) b.O.length (c 12), sv (g 13) b.R.length (c 13), sv (g 14) b.R.length (c 14)] : List Value)[i]? = some (sv gg l.length cc) ∧ (colsB b)[i]? = some (colOf l f) ∧ ([Seg.row (g 0) 2 1 b.H.length (c 0) (i64s (colOf b.H 0)), Seg.row (g 1) 2 1 b.H.length (c 1) (i64s (colOf b.H 1)), Seg.row (g 2) 2 1 b.H.length (c 2) (i64s (colOf b.H 2)), Seg.row (g 3) 2 1 b.H.length (c 3) (i64s (colOf b.H 3)), Seg.row (g 4) 2 1 b.S.length (c 4) (i64s (colOf b.S 0)), Seg.row (g 5) 2 1 b.S.length (c 5) (i64s (colOf b.S 1)), Seg.row (g 6) 2 1 b.S.length (c 6) (i64s (colOf b.S 2)), Seg.row (g 7) 2 1 b.O.length (c 7) (i64s (colOf b.O 0)), Seg.row (g 8) 2 1 b.O.length (c 8) (i64s (colOf b.O 1)), Seg.row (g 9) 2 1 b.O.length (c 9) (i64s (colOf b.O 2)), Seg.row (g 10) 2 1 b.O.length (c 10) (i64s (colOf b.O 3)), Seg.row (g 11) 2 1 b.O.length (c 11) (i64s (colOf b.O 4)), Seg.row (g 12) 2 1 b.O.length (c 12) (i64s (colOf b.O 5)), Seg.row (g 13) 2 1 b.R.length (c 13) (i64s (colOf b.R 0)), Seg.row (g 14) 2 1 b.R.length (c 14) (i64s (colOf b.R 1))] : List Seg)[i]? = some (Seg.row gg 2 1 l.length cc (i64s (colOf l f)))) →
      ∃ (gg : Option Nat) (cc : Nat) (xs : List Int), ([sv (g 0) b.H.length (c 0), sv (g 1) b.H.length (c 1), sv (g 2) b.H.length (c 2), sv (g 3) b.H.length (c 3), sv (g 4) b.S.length (c 4), sv (g 5) b.S.length (c 5), sv (g 6) b.S.length (c 6), sv (g 7) b.O.length (c 7), sv (g 8) b.O.length (c 8), sv (g 9) b.O.length (c 9), sv (g 10) b.O.length (c 10), sv (g 11) b.O.length (c 11), sv (g 12) b.O.length (c 12), sv (g 13) b.R.length (c 13), sv (g 14) b.R.length (c 14)] : List Value)[i]? = some (sv gg xs.length cc) ∧ (colsB b)[i]? = some xs ∧ ([Seg.row (g 0) 2 1 b.H.length (c 0) (i64s (colOf b.H 0)), Seg.row (g 1) 2 1 b.H.length (c 1) (i64s (colOf b.H 1)), Seg.row (g 2) 2 1 b.H.length (c 2) (i64s (colOf b.H 2)), Seg.row (g 3) 2 1 b.H.length (c 3) (i64s (colOf b.H 3)), Seg.row (g 4) 2 1 b.S.length (c 4) (i64s (colOf b.S 0)), Seg.row (g 5) 2 1 b.S.length (c 5) (i64s (colOf b.S 1)), Seg.row (g 6) 2 1 b.S.length (c 6) (i64s (colOf b.S 2)), Seg.row (g 7) 2 1 b.O.length (c 7) (i64s (colOf b.O 0)), Seg.row (g 8) 2 1 b.O.length (c 8) (i64s (colOf b.O 1)), Seg.row (g 9) 2 1 b.O.length (c 9) (i64s (colOf b.O 2)), Seg.row (g 10) 2 1 b.O.length (c 10) (i64s (colOf b.O 3)), Seg.row (g 11) 2 1 b.O.length (c 11) (i64s (colOf b.O 4)), Seg.row (g 12) 2 1 b.O.length (c 12) (i64s (colOf b.O 5)), Seg.row (g 13) 2 1 b.R.length (c 13) (i64s (colOf b.R 0)), Seg.row (g 14) 2 1 b.R.length (c 14) (i64s (colOf b.R 1))] : List Seg)[i]? = some (Seg.row gg 2 1 xs.length cc (i64s xs)) ∧ xs.length ≤ 65536 := by
    intro gg cc l f hl ⟨e1, e2, e3⟩
    exact ⟨gg, cc, colOf l f, by rw [colOf_len]; exact e1, e2, by rw [colOf_len]; exact e3, by rw [colOf_len]; exact hl⟩
  match i, hi with
  | 0, _ => exact key (g 0) (c 0) b.H 0 h1 ⟨rfl, rfl, rfl⟩
  | 1, _ => exact key (g 1) (c 1) b.H 1 h1 ⟨rfl, rfl, rfl⟩
  | 2, _ => exact key (g 2) (c 2) b.H 2 h1 ⟨rfl, rfl, rfl⟩
  | 3, _ => exact key (g 3) (c 3) b.H 3 h1 ⟨rfl, rfl, rfl⟩
  | 4, _ => exact key (g 4) (c 4) b.S 0 h2 ⟨rfl, rfl, rfl⟩
  | 5, _ => exact key (g 5) (c 5) b.S 1 h2 ⟨rfl, rfl, rfl⟩
  | 6, _ => exact key (g 6) (c 6) b.S 2 h2 ⟨rfl, rfl, rfl⟩
  | 7, _ => exact key (g 7) (c 7) b.O 0 h3 ⟨rfl, rfl, rfl⟩
  | 8, _ => exact key (g 8) (c 8) b.O 1 h3 ⟨rfl, rfl, rfl⟩
  | 9, _ => exact key (g 9) (c 9) b.O 2 h3 ⟨rfl, rfl, rfl⟩
  | 10, _ => exact key (g 10) (c 10) b.O 3 h3 ⟨rfl, rfl, rfl⟩
  | 11, _ => exact key (g 11) (c 11) b.O 4 h3 ⟨rfl, rfl, rfl⟩
  | 12, _ => exact key (g 12) (c 12) b.O 5 h3 ⟨rfl, rfl, rfl⟩
  | 13, _ => exact key (g 13) (c 13) b.R 0 h4 ⟨rfl, rfl, rfl⟩
  | 14, _ => exact key (g 14) (c 14) b.R 1 h4 ⟨rfl, rfl, rfl⟩

theorem Tryz.rPut13_w (b : Bk) (A : BkA) (w : World) (hi : BkIn b) (ho : BkOk w b A) (h1 : b.H.length ≤ 65536) (h2 : b.S.length ≤ 65536) (h3 : b.O.length ≤ 65536) (h4 : b.R.length ≤ 65536) (hc : 0 ≤ b.c) :
    Fun Tryz.prog 11 [.agg ⟨bkV b A⟩] w (str (bookB b)) := by
  refine Tri.enter (bx := []) (hp := []) Tryz.func11 rfl (by kernel_rfl) rfl (Own.nil w) ?_
  refine At.run 100 true [] [] rfl trivial ?_
  refine At.step [] rfl rfl rfl rfl rfl trivial (OpOk.box rfl rfl rfl fun bq hbq => ?_)
  have hcc := hi.cc
  have hN : ∀ {bx : Bx} {hp : List Seg}, CallOb Tryz.prog ⟨w, kys [] []⟩ bx hp 34 [.int .u64 b.c] (str (numL b.c.toNat)) := fun {_ _} w' hw' => by
    have := Tryz.rnum_w b.c.toNat (by simp only [inK] at hcc; omega) w'
    rw [Int.toNat_of_nonneg hc] at this; exact this
  refine At.run 100 true [] [hB 0, hC (str (numL b.c.toNat)), hB 0] rfl (by (repeat' apply And.intro) <;> first | exact hN | (simp only [inK] at hcc ⊢; omega) | exact True.intro | omega | rfl | (simp only [inK]; omega) | exact decide_eq_true (by omega) | exact decide_eq_false (by omega) | (simp; done) | (simp; omega) | (simp [Value.oneCell']; done) | exact i64s_one _ | exact AggOk.mk (by kernel_rfl) (by kernel_rfl)) ?_
  refine At.step [] rfl rfl rfl rfl rfl trivial (OpOk.call rfl (fun w' hw' => Tryz.columns_w b A w' hi (ho.ext hw'.ext (by simp [kys]))) ?_)
  rintro v bx' hp' ⟨g, c, rfl, rfl, rfl⟩
  refine At.run 100 true [] [] rfl trivial ?_
  refine At.step [] rfl rfl rfl rfl rfl trivial (OpOk.alloc (cs := [sv none 0 0, sv none 0 0, sv none 0 0, sv none 0 0, sv none 0 0, sv none 0 0, sv none 0 0, sv none 0 0, sv none 0 0, sv none 0 0, sv none 0 0, sv none 0 0, sv none 0 0, sv none 0 0, sv none 0 0]) rfl (by kernel_rfl) fun b4 hb4 => ?_)
  refine At.run 100 true [] [hB 0] rfl (by (repeat' apply And.intro) <;> first | simp [Value.oneCell', sv]; done | exact True.intro | omega | rfl | (simp only [inK]; omega) | exact decide_eq_true (by omega) | exact decide_eq_false (by omega) | (simp; done) | (simp; omega) | (simp [Value.oneCell']; done) | exact i64s_one _ | exact AggOk.mk (by kernel_rfl) (by kernel_rfl)) ?_
  refine At.loop (n := 15) (env0 := [(1, .pointer (some ⟨bq, 0, none⟩)), (3, str (numL b.c.toNat)), (4, .pointer (some ⟨b4, 0, none⟩)), (5, .int .i64 0)]) (fun m env bx hp => ∃ (i : Nat), m = 15 - i ∧ i ≤ 15 ∧ env = [(1, .pointer (some ⟨bq, 0, none⟩)), (3, str (numL b.c.toNat ++ ((colsB b).take i).flatMap colL)), (4, .pointer (some ⟨b4, 0, none⟩)), (5, .int .i64 i)] ∧
    bx = [(b4, 78, [sv (g 0) b.H.length (c 0), sv (g 1) b.H.length (c 1), sv (g 2) b.H.length (c 2), sv (g 3) b.H.length (c 3), sv (g 4) b.S.length (c 4), sv (g 5) b.S.length (c 5), sv (g 6) b.S.length (c 6), sv (g 7) b.O.length (c 7), sv (g 8) b.O.length (c 8), sv (g 9) b.O.length (c 9), sv (g 10) b.O.length (c 10), sv (g 11) b.O.length (c 11), sv (g 12) b.O.length (c 12), sv (g 13) b.R.length (c 13), sv (g 14) b.R.length (c 14)]), (bq, 27, bkV b A)] ∧ hp = [Seg.row (g 0) 2 1 b.H.length (c 0) (i64s (colOf b.H 0)), Seg.row (g 1) 2 1 b.H.length (c 1) (i64s (colOf b.H 1)), Seg.row (g 2) 2 1 b.H.length (c 2) (i64s (colOf b.H 2)), Seg.row (g 3) 2 1 b.H.length (c 3) (i64s (colOf b.H 3)), Seg.row (g 4) 2 1 b.S.length (c 4) (i64s (colOf b.S 0)), Seg.row (g 5) 2 1 b.S.length (c 5) (i64s (colOf b.S 1)), Seg.row (g 6) 2 1 b.S.length (c 6) (i64s (colOf b.S 2)), Seg.row (g 7) 2 1 b.O.length (c 7) (i64s (colOf b.O 0)), Seg.row (g 8) 2 1 b.O.length (c 8) (i64s (colOf b.O 1)), Seg.row (g 9) 2 1 b.O.length (c 9) (i64s (colOf b.O 2)), Seg.row (g 10) 2 1 b.O.length (c 10) (i64s (colOf b.O 3)), Seg.row (g 11) 2 1 b.O.length (c 11) (i64s (colOf b.O 4)), Seg.row (g 12) 2 1 b.O.length (c 12) (i64s (colOf b.O 5)), Seg.row (g 13) 2 1 b.R.length (c 13) (i64s (colOf b.R 0)), Seg.row (g 14) 2 1 b.R.length (c 14) (i64s (colOf b.R 1))]) rfl ⟨0, rfl, by omega, by simp, rfl, rfl⟩ ⟨rfl, rfl, rfl, rfl, trivial⟩ ?_
  rintro m env bx hp ⟨i, rfl, hi2, rfl, rfl, rfl⟩ ih
  by_cases hlt : i < 15
  · obtain ⟨gg, cc, xs, e1, e2, e3, hxl⟩ := Tryz.cols15 b g c h1 h2 h3 h4 i hlt
    have hld : RdW ⟨w, kys [] []⟩ [(b4, 78, [sv (g 0) b.H.length (c 0), sv (g 1) b.H.length (c 1), sv (g 2) b.H.length (c 2), sv (g 3) b.H.length (c 3), sv (g 4) b.S.length (c 4), sv (g 5) b.S.length (c 5), sv (g 6) b.S.length (c 6), sv (g 7) b.O.length (c 7), sv (g 8) b.O.length (c 8), sv (g 9) b.O.length (c 9), sv (g 10) b.O.length (c 10), sv (g 11) b.O.length (c 11), sv (g 12) b.O.length (c 12), sv (g 13) b.R.length (c 13), sv (g 14) b.R.length (c 14)]), (bq, 27, bkV b A)] [Seg.row (g 0) 2 1 b.H.length (c 0) (i64s (colOf b.H 0)), Seg.row (g 1) 2 1 b.H.length (c 1) (i64s (colOf b.H 1)), Seg.row (g 2) 2 1 b.H.length (c 2) (i64s (colOf b.H 2)), Seg.row (g 3) 2 1 b.H.length (c 3) (i64s (colOf b.H 3)), Seg.row (g 4) 2 1 b.S.length (c 4) (i64s (colOf b.S 0)), Seg.row (g 5) 2 1 b.S.length (c 5) (i64s (colOf b.S 1)), Seg.row (g 6) 2 1 b.S.length (c 6) (i64s (colOf b.S 2)), Seg.row (g 7) 2 1 b.O.length (c 7) (i64s (colOf b.O 0)), Seg.row (g 8) 2 1 b.O.length (c 8) (i64s (colOf b.O 1)), Seg.row (g 9) 2 1 b.O.length (c 9) (i64s (colOf b.O 2)), Seg.row (g 10) 2 1 b.O.length (c 10) (i64s (colOf b.O 3)), Seg.row (g 11) 2 1 b.O.length (c 11) (i64s (colOf b.O 4)), Seg.row (g 12) 2 1 b.O.length (c 12) (i64s (colOf b.O 5)), Seg.row (g 13) 2 1 b.R.length (c 13) (i64s (colOf b.R 0)), Seg.row (g 14) 2 1 b.R.length (c 14) (i64s (colOf b.R 1))] b4 (0 + (i : Int).toNat * 1) [sv gg xs.length cc] := RdW.blk (i := 0) rfl (fun j u hu => by
      match j, hu with
      | 0, hu => simp only [List.getElem?_cons_zero, Option.some.injEq] at hu; subst hu; rw [show 0 + (i : Int).toNat * 1 + 0 = i by omega]; exact e1)
    have hP : CallOb Tryz.prog ⟨w, kys [] []⟩ [(b4, 78, [sv (g 0) b.H.length (c 0), sv (g 1) b.H.length (c 1), sv (g 2) b.H.length (c 2), sv (g 3) b.H.length (c 3), sv (g 4) b.S.length (c 4), sv (g 5) b.S.length (c 5), sv (g 6) b.S.length (c 6), sv (g 7) b.O.length (c 7), sv (g 8) b.O.length (c 8), sv (g 9) b.O.length (c 9), sv (g 10) b.O.length (c 10), sv (g 11) b.O.length (c 11), sv (g 12) b.O.length (c 12), sv (g 13) b.R.length (c 13), sv (g 14) b.R.length (c 14)]), (bq, 27, bkV b A)] [Seg.row (g 0) 2 1 b.H.length (c 0) (i64s (colOf b.H 0)), Seg.row (g 1) 2 1 b.H.length (c 1) (i64s (colOf b.H 1)), Seg.row (g 2) 2 1 b.H.length (c 2) (i64s (colOf b.H 2)), Seg.row (g 3) 2 1 b.H.length (c 3) (i64s (colOf b.H 3)), Seg.row (g 4) 2 1 b.S.length (c 4) (i64s (colOf b.S 0)), Seg.row (g 5) 2 1 b.S.length (c 5) (i64s (colOf b.S 1)), Seg.row (g 6) 2 1 b.S.length (c 6) (i64s (colOf b.S 2)), Seg.row (g 7) 2 1 b.O.length (c 7) (i64s (colOf b.O 0)), Seg.row (g 8) 2 1 b.O.length (c 8) (i64s (colOf b.O 1)), Seg.row (g 9) 2 1 b.O.length (c 9) (i64s (colOf b.O 2)), Seg.row (g 10) 2 1 b.O.length (c 10) (i64s (colOf b.O 3)), Seg.row (g 11) 2 1 b.O.length (c 11) (i64s (colOf b.O 4)), Seg.row (g 12) 2 1 b.O.length (c 12) (i64s (colOf b.O 5)), Seg.row (g 13) 2 1 b.R.length (c 13) (i64s (colOf b.R 0)), Seg.row (g 14) 2 1 b.R.length (c 14) (i64s (colOf b.R 1))] 36 [sv gg xs.length cc] (str (colL xs)) := fun w' hw' => Tryz.rPut_w xs (svA gg) cc w' hxl (SlOk.row (hw'.hp _ (List.mem_of_getElem? e3)))
    have htk := take_succ_get e2
    have hfb := flat_bound 1310730 (colsB b) i (colsB_bound b hi h1 h2 h3 h4)
    have hcx := colsB_bound b hi h1 h2 h3 h4 xs (List.mem_of_getElem? e2)
    have hnl := numL_len10 b.c.toNat (by simp only [inK] at hcc; omega)
    have hbd : (bl ⟨(numL b.c.toNat ++ ((colsB b).take i).flatMap colL).toArray⟩).length + (bl ⟨(colL xs).toArray⟩).length ≤ 9223372036854775807 := by
      rw [bl_str, bl_str, List.length_append]; omega
    refine At.run 100 true [true] [hR [sv gg xs.length cc], hC (str (colL xs))] rfl (by (repeat' apply And.intro) <;> first | exact hld | exact hP | exact hbd | exact True.intro | omega | rfl | (simp only [inK]; omega) | exact decide_eq_true (by omega) | exact decide_eq_false (by omega) | (simp; done) | (simp; omega) | (simp [Value.oneCell']; done) | exact i64s_one _ | exact AggOk.mk (by kernel_rfl) (by kernel_rfl)) ?_
    refine At.weak (ih (15 - (i + 1)) _ _ _ (by omega) ⟨i + 1, rfl, by omega, rfl, rfl, rfl⟩) ⟨rfl, ?_, rfl, some_int_eq (by omega), trivial⟩
    rw [htk, List.flatMap_append, ← List.append_assoc]; simp only [List.flatMap_cons, List.flatMap_nil, List.append_nil]; rfl
  · have : i = 15 := by omega
    subst this
    refine At.run 100 true [false] [] rfl (by (repeat' apply And.intro) <;> first | exact True.intro | omega | (simp only [inK]; omega) | (simp; done) | (simp; omega) | exact decide_eq_true (by omega) | exact decide_eq_false (by omega) | rfl | (simp [Value.oneCell']; done) | exact i64s_one _ | exact AggOk.mk (by kernel_rfl) (by kernel_rfl)) ?_
    exact At.retK [] [] [] rfl rfl Tryz.func11 rfl trivial ⟨by rw [← colsB_put]; rfl, rfl, rfl⟩

end Go.Proofs

/-
  Walks of layer 11: columns.
-/
import Derived.Test.YtfpoclhenokhhaaGreatW1
import Derived.Test.YtfpoclhenokhhaaGreatP4
import Derived.Test.YtfpoclhenokhhaaGreatE14
import Derived.Test.YtfpoclhenokhhaaGreatP6
namespace Go.Proofs
open Go Go.Eng
set_option maxRecDepth 100000
set_option maxHeartbeats 4000000
attribute [local irreducible] Tri

theorem Own.tail {e : Nat × TypeId × List Value} {bx : Bx} {hp : List Seg} {w : World} (h : Own (e :: bx) hp w) : Own bx hp w :=
  ⟨(List.nodup_cons.1 h.nd).2, fun k hk => h.lt k (List.mem_cons_of_mem _ hk), fun e he => h.bx e (List.mem_cons_of_mem _ he), h.hp⟩


theorem Tryz.runs_w (a : Option Addr) (n cap : Nat) (w : World) :
    Tri Tryz.prog 111 [.slice a n cap] w [] (fun v bx hp => ∃ b, v = .func (.func 122) #[] #[.pointer (some ⟨b, 0, none⟩)] ∧ bx = [(b, 77, [.slice a n cap])] ∧ hp = []) := by
  refine Tri.enter (bx := []) (hp := []) Tryz.func111 rfl (by kernel_rfl) rfl (Own.nil w) ?_
  refine At.run 100 true [] [] rfl (by (repeat' apply And.intro) <;> first | exact True.intro | omega | (simp only [inK]; omega) | (simp; done) | (simp; omega) | exact decide_eq_true (by omega) | exact decide_eq_false (by omega) | rfl | (simp [Value.oneCell']; done) | exact i64s_one _ | exact AggOk.mk (by kernel_rfl) (by kernel_rfl)) ?_
  refine At.step [] rfl rfl rfl rfl rfl trivial (OpOk.box (cs := [.slice a n cap]) rfl rfl rfl fun b hb => ?_)
  refine At.run 100 true [] [] rfl (by (repeat' apply And.intro) <;> first | exact True.intro | omega | (simp only [inK]; omega) | (simp; done) | (simp; omega) | exact decide_eq_true (by omega) | exact decide_eq_false (by omega) | rfl | (simp [Value.oneCell']; done) | exact i64s_one _ | exact AggOk.mk (by kernel_rfl) (by kernel_rfl)) ?_
  exact At.ret [] rfl Tryz.func111 rfl trivial ⟨b, rfl, rfl, rfl⟩

def encR (x : Int × Nat) : List Value := [.int .i64 x.1, .int .i64 x.2]

/-- The column that is ranged over: its box, its row. -/
theorem Tryz.runs1_w (xs : List Int) (a : Option Addr) (cap b : Nat) (w : World) (hlen : xs.length ≤ 1048576) (hrow : SlOk w a (i64s xs)) :
    Iter Tryz.prog 122 [.pointer (some ⟨b, 0, none⟩)] [(b, 77, [.slice a xs.length cap])] (slR a (i64s xs)) encR (rle (diffs 0 xs)) w := by
  intro y s0 J hJ hown hfree hyield
  refine Tri.enter Tryz.func122 rfl (by kernel_rfl) rfl hown ?_
  refine At.run 100 true [] [hB 0, hB 0, hB 0] rfl (by (repeat' apply And.intro) <;> first | exact True.intro | omega | (simp only [inK]; omega) | (simp; done) | (simp; omega) | exact decide_eq_true (by omega) | exact decide_eq_false (by omega) | rfl | (simp [Value.oneCell']; done) | exact i64s_one _ | exact AggOk.mk (by kernel_rfl) (by kernel_rfl)) ?_
  refine At.loop (n := xs.length) (env0 := [(0, .func (.yield y) #[] #[]), (1, .pointer (some ⟨b, 0, none⟩)), (3, .int .i64 0), (4, .int .i64 0)])
    (fun m env bx hp => ∃ (i : Nat) (ahead : Int) (pre : List (Int × Nat)) (s : Seg), m = xs.length - i ∧ i ≤ xs.length ∧ rle (diffs 0 xs) = pre ++ rle (diffs ahead (xs.drop i)) ∧
      env = [(0, .func (.yield y) #[] #[]), (1, .pointer (some ⟨b, 0, none⟩)), (3, .int .i64 ahead), (4, .int .i64 i)] ∧ bx = [(b, 77, [.slice a xs.length cap])] ∧ hp = [s] ∧ J pre s) rfl
    ⟨0, 0, [], s0, by simp, by omega, by simp, rfl, rfl, rfl, hJ⟩ ⟨rfl, rfl, rfl, rfl, trivial⟩ ?_
  rintro m env bx hp ⟨i, ahead, pre, s, rfl, hi, he, rfl, rfl, rfl, hJp⟩ ih
  refine At.run 100 true [] [hB 0] rfl (by (repeat' apply And.intro) <;> first | exact True.intro | omega | (simp only [inK]; omega) | (simp; done) | (simp; omega) | exact decide_eq_true (by omega) | exact decide_eq_false (by omega) | rfl | (simp [Value.oneCell']; done) | exact i64s_one _ | exact AggOk.mk (by kernel_rfl) (by kernel_rfl)) ?_
  by_cases hlt : i < xs.length
  · have hne : i64s xs ≠ [] := by intro e; simp only [i64s, List.map_eq_nil_iff] at e; rw [e] at hlt; simp at hlt
    obtain ⟨g, o, rfl, hc⟩ := hrow.get hne
    have hrd : ∀ (bx : Bx) (hp : List Seg) (j : Nat) (x : Int), xs[j]? = some x → RdW ⟨w, kys [(b, 77, [.slice (some ⟨g, o, none⟩) xs.length cap])] [s0]⟩ bx hp g (o + j * 1) [.int .i64 x] :=
      fun bx hp j x hx => RdW.base1 (hfree g (mem_slR hne)) (by rw [Nat.mul_one]; exact hc j _ (i64s_get hx))
    have hx : xs[i]? = some xs[i] := List.getElem?_eq_getElem hlt
    refine At.run 100 false [true] [hB 0, hR [.int .i64 xs[i]]] rfl ⟨trivial, hrd _ _ i _ hx, ⟨by omega, by omega⟩, rfl, decide_eq_true (by omega), trivial⟩ ?_
    obtain ⟨d, hd⟩ : ∃ d, d = IntKind.i64.wrap (xs[i] - ahead) := ⟨_, rfl⟩
    have hd0 : diffs ahead (xs.drop i) = d :: diffs xs[i] (xs.drop (i + 1)) := by rw [List.drop_eq_getElem_cons hlt, diffs, hd]
    rw [← hd]
    refine At.loop (n := xs.length - i) (env0 := [(0, .func (.yield y) #[] #[]), (1, .pointer (some ⟨b, 0, none⟩)), (3, .int .i64 ahead), (4, .int .i64 i), (5, .int .i64 d), (6, .int .i64 0)])
      (fun m env bx hp => ∃ (k : Nat) (ah : Int), m = xs.length - (i + k) ∧ i + k ≤ xs.length ∧ diffs ahead (xs.drop i) = List.replicate k d ++ diffs ah (xs.drop (i + k)) ∧
        env = [(0, .func (.yield y) #[] #[]), (1, .pointer (some ⟨b, 0, none⟩)), (3, .int .i64 ah), (4, .int .i64 (i + k : Nat)), (5, .int .i64 d), (6, .int .i64 k)] ∧ bx = [(b, 77, [.slice (some ⟨g, o, none⟩) xs.length cap])] ∧ hp = [s]) rfl
      ⟨0, ahead, by simp, by omega, by simp, rfl, rfl, rfl⟩ ⟨rfl, rfl, rfl, rfl, rfl, rfl, trivial⟩ ?_
    rintro m env bx hp ⟨k, ah, rfl, hk, hek, rfl, rfl, rfl⟩ ih2
    by_cases hlt2 : i + k < xs.length
    · have hx2 : xs[i + k]? = some xs[i + k] := List.getElem?_eq_getElem hlt2
      have hd2 : diffs ah (xs.drop (i + k)) = IntKind.i64.wrap (xs[i + k] - ah) :: diffs xs[i + k] (xs.drop (i + k + 1)) := by rw [List.drop_eq_getElem_cons hlt2, diffs]
      by_cases hsame : IntKind.i64.wrap (xs[i + k] - ah) = d
      · refine At.run 100 false [true, true] [hB 0, hB 0, hR [.int .i64 xs[i + k]], hB 0, hR [.int .i64 xs[i + k]]] rfl (by (repeat' apply And.intro) <;> first | exact True.intro | exact hrd _ _ _ _ hx2 | omega | (simp only [inK]; omega) | exact decide_eq_true (by omega) | exact decide_eq_false (by omega) | exact decide_eq_true hsame | exact decide_eq_false hsame | rfl) ?_
        refine At.weak (ih2 (xs.length - (i + (k + 1))) _ _ _ (by omega) ⟨k + 1, xs[i + k], rfl, by omega, ?_, rfl, rfl, rfl⟩) ⟨rfl, rfl, rfl, some_int_eq (by rw [wrap_i64]; omega), rfl, some_int_eq (by rw [wrap_i64]; omega), trivial⟩
        rw [hek, hd2, hsame, List.replicate_succ', ← Nat.add_assoc]; simp
      · refine At.run 100 false [true, false] [hB 0, hB 0, hR [.int .i64 xs[i + k]]] rfl (by (repeat' apply And.intro) <;> first | exact True.intro | exact hrd _ _ _ _ hx2 | omega | (simp only [inK]; omega) | exact decide_eq_true (by omega) | exact decide_eq_false (by omega) | exact decide_eq_true hsame | exact decide_eq_false hsame | rfl) ?_
        have hnx : ∀ e l, diffs ah (xs.drop (i + k)) = e :: l → e ≠ d := by
          intro e l h; rw [hd2] at h; cases h; exact hsame
        obtain ⟨k', rfl⟩ : ∃ k', k = k' + 1 := by
          cases k with
          | zero =>
            simp only [List.replicate_zero, List.nil_append] at hek
            rw [hd0] at hek
            exact (hnx _ _ hek.symm rfl).elim
          | succ k' => exact ⟨k', rfl⟩
        have hrun : rle (diffs ahead (xs.drop i)) = (d, k' + 1) :: rle (diffs ah (xs.drop (i + (k' + 1)))) := by rw [hek]; exact rle_run d _ hnx k'
        refine At.yield [] rfl rfl rfl rfl rfl trivial (lp := y) (args := encR (d, k' + 1)) rfl [] [true] (bm := []) (hm := [s]) (br := [(b, 77, [.slice (some ⟨g, o, none⟩) xs.length cap])]) (hr := []) (Q := fun bx hp => bx = [] ∧ ∃ s', hp = [s'] ∧ J (pre ++ [(d, k' + 1)]) s') rfl
          (fun w' hw' => hyield pre (d, k' + 1) s w' ⟨rle (diffs ah (xs.drop (i + (k' + 1)))), by rw [he, hrun]; simp⟩ hJp (Own.tail hw'.toOwn) hw'.ext) ?_
        rintro _ _ ⟨rfl, s', rfl, hJ'⟩
        refine At.run 100 true [false] [] rfl ⟨rfl, trivial⟩ ?_
        refine At.weak (ih (xs.length - (i + (k' + 1))) _ _ _ (by omega) ⟨i + (k' + 1), ah, pre ++ [(d, k' + 1)], s', rfl, hk, by rw [he, hrun]; simp, rfl, rfl, rfl, hJ'⟩) ⟨rfl, rfl, rfl, rfl, trivial⟩
    · refine At.run 100 false [false, false] [hB 0] rfl (by (repeat' apply And.intro) <;> first | exact True.intro | exact hrd _ _ _ _ hx2 | omega | (simp only [inK]; omega) | exact decide_eq_true (by omega) | exact decide_eq_false (by omega) | exact decide_eq_true hsame | exact decide_eq_false hsame | rfl) ?_
      have hnx : ∀ e l, diffs ah (xs.drop (i + k)) = e :: l → e ≠ d := by
        intro e l h; rw [List.drop_eq_nil_of_le (by omega)] at h; cases h
      obtain ⟨k', rfl⟩ : ∃ k', k = k' + 1 := by
        cases k with
        | zero =>
          simp only [List.replicate_zero, List.nil_append] at hek
          rw [hd0] at hek
          exact (hnx _ _ hek.symm rfl).elim
        | succ k' => exact ⟨k', rfl⟩
      have hrun : rle (diffs ahead (xs.drop i)) = (d, k' + 1) :: rle (diffs ah (xs.drop (i + (k' + 1)))) := by rw [hek]; exact rle_run d _ hnx k'
      refine At.yield [] rfl rfl rfl rfl rfl trivial (lp := y) (args := encR (d, k' + 1)) rfl [] [true] (bm := []) (hm := [s]) (br := [(b, 77, [.slice (some ⟨g, o, none⟩) xs.length cap])]) (hr := []) (Q := fun bx hp => bx = [] ∧ ∃ s', hp = [s'] ∧ J (pre ++ [(d, k' + 1)]) s') rfl
        (fun w' hw' => hyield pre (d, k' + 1) s w' ⟨rle (diffs ah (xs.drop (i + (k' + 1)))), by rw [he, hrun]; simp⟩ hJp (Own.tail hw'.toOwn) hw'.ext) ?_
      rintro _ _ ⟨rfl, s', rfl, hJ'⟩
      refine At.run 100 true [false] [] rfl ⟨rfl, trivial⟩ ?_
      refine At.weak (ih (xs.length - (i + (k' + 1))) _ _ _ (by omega) ⟨i + (k' + 1), ah, pre ++ [(d, k' + 1)], s', rfl, hk, by rw [he, hrun]; simp, rfl, rfl, rfl, hJ'⟩) ⟨rfl, rfl, rfl, rfl, trivial⟩
  · refine At.run 100 true [false] [] rfl (by (repeat' apply And.intro) <;> first | exact True.intro | omega | (simp only [inK]; omega) | (simp; done) | (simp; omega) | exact decide_eq_true (by omega) | exact decide_eq_false (by omega) | rfl | (simp [Value.oneCell']; done) | exact i64s_one _ | exact AggOk.mk (by kernel_rfl) (by kernel_rfl)) ?_
    refine At.ret [] rfl Tryz.func122 rfl trivial ⟨rfl, s, rfl, ?_⟩
    have : i = xs.length := by omega
    rw [he, this]; simpa [diffs, rle] using hJp


theorem Tryz.Put_w (xs : List Int) (a : Option Addr) (cap : Nat) (w : World) (hlen : xs.length ≤ 65536) (hrow : SlOk w a (i64s xs)) :
    Fun Tryz.prog 52 [.slice a xs.length cap] w (.tuple #[str (colL xs), .int .i64 0]) := by
  refine Tri.enter (bx := []) (hp := []) Tryz.func52 rfl (by kernel_rfl) rfl (Own.nil w) ?_
  refine At.run 100 true [false] [] rfl (by (repeat' apply And.intro) <;> first | exact True.intro | omega | (simp only [inK]; omega) | (simp; done) | (simp; omega) | exact decide_eq_true (by omega) | exact decide_eq_false (by omega) | rfl | (simp [Value.oneCell']; done) | exact i64s_one _ | exact AggOk.mk (by kernel_rfl) (by kernel_rfl)) ?_
  have h64 : xs.length < 18446744073709551616 := by omega
  refine At.run 100 true [] [hC (str (numL xs.length))] rfl ⟨fun w' _ => Tryz.num_w _ h64 w', trivial⟩ ?_
  refine At.step [] rfl rfl rfl rfl rfl trivial (OpOk.toBytes rfl rfl rfl rfl rfl (by rw [bl_mk]; have := numL_len10 _ h64; omega) fun g cap0 => ?_)
  refine At.run 100 true [] [] rfl (by (repeat' apply And.intro) <;> first | exact True.intro | omega | (simp only [inK]; omega) | (simp; done) | (simp; omega) | exact decide_eq_true (by omega) | exact decide_eq_false (by omega) | rfl | (simp [Value.oneCell']; done) | exact i64s_one _ | exact AggOk.mk (by kernel_rfl) (by kernel_rfl)) ?_
  refine At.step [] rfl rfl rfl rfl rfl trivial (OpOk.alloc (cs := [sv none 0 0]) rfl (by kernel_rfl) fun bo hbo => ?_)
  refine At.run 100 true [] [hB 0] rfl (by (repeat' apply And.intro) <;> first | exact True.intro | omega | (simp only [inK]; omega) | (simp; done) | (simp; omega) | exact decide_eq_true (by omega) | exact decide_eq_false (by omega) | rfl | (simp [Value.oneCell']; done) | exact i64s_one _ | exact AggOk.mk (by kernel_rfl) (by kernel_rfl)) ?_
  refine At.step [] rfl rfl rfl rfl rfl trivial (OpOk.call rfl (fun w' hw' => Tryz.runs_w a _ cap w') ?_)
  rintro v bx' hp' ⟨b, rfl, rfl, rfl⟩
  refine At.run 100 true [] [] rfl (by (repeat' apply And.intro) <;> first | exact True.intro | omega | (simp only [inK]; omega) | (simp; done) | (simp; omega) | exact decide_eq_true (by omega) | exact decide_eq_false (by omega) | rfl | (simp [Value.oneCell']; done) | exact i64s_one _ | exact AggOk.mk (by kernel_rfl) (by kernel_rfl)) ?_
  refine At.rangeI (bi := [(b, 77, [.slice a xs.length cap])]) (bc := [(bo, 41, [sv (some g) (numL xs.length).length cap0])]) (hp := [Seg.row (some g) 5 1 (numL xs.length).length cap0 (u8s (numL xs.length))]) rfl rfl rfl (rd := slR a (i64s xs)) (fun k hk => ⟨hrow.ltR k hk, by simp [kys]⟩)
    (enc := encR) (xs := rle (diffs 0 xs)) (fun _ => rfl) rfl
    (fun pre bx hp => ∃ a1 cap1 l, l = numL xs.length ++ pre.flatMap runB ∧ bx = [(bo, 41, [sv a1 l.length cap1])] ∧ hp = [Seg.row a1 5 1 l.length cap1 (u8s l)]) ⟨some g, cap0, numL xs.length, by simp, rfl, rfl⟩
    (fun w' hext => (Tryz.runs1_w xs a cap b w' (by omega) (hrow.ext hext (by simp [kys])))) ?_ ?_
  · rintro lp D tm pre ⟨d, n⟩ bx hp w' hpre ⟨a1, cap1, l, hl, rfl, rfl⟩ hext
    refine At.run 100 true [] [] rfl trivial ?_
    refine At.begin ?_
    have hmem : ∀ x, x ∈ pre ++ [(d, n)] → inK .i64 x.1 ∧ x.2 ≤ xs.length := by
      intro x hx
      have := rle_mem _ x (hpre.subset hx)
      rw [diffs_len] at this
      exact ⟨diffs_in _ _ _ this.1, this.2.2⟩
    have hd := (hmem (d, n) (by simp)).1
    have hn := (hmem (d, n) (by simp)).2
    simp only at hd hn
    have hpl := hpre.length_le
    have hl2 := rle_len (diffs 0 xs)
    rw [diffs_len] at hl2
    simp only [List.length_append, List.length_singleton] at hpl
    have hb1 := runs_len pre (fun x hx => runB_len (hmem x (by simp [hx])).1 (by have := (hmem x (by simp [hx])).2; omega))
    have hb2 := numL_len10 _ h64
    have hb3 := numL_len10 _ (zig_lt hd)
    have hb4 := numL_len10 n (by omega)
    have hll : l.length = (numL xs.length).length + (pre.flatMap runB).length := by rw [hl]; simp
    refine At.cutRow (ι := Option Nat × Nat) ⟨1, [0, 0], []⟩ 1 (fun _ => [(4, .pointer (some ⟨bo, 0, none⟩)), (6, .int .i64 n)]) (fun i => [(bo, 41, [sv i.1 (l.length + (numL (zig d)).length) i.2])])
      (fun i => Seg.row i.1 5 1 (l.length + (numL (zig d)).length) i.2 (u8s l ++ u8s (numL (zig d)))) ?_ (fun hs2 => ?_)
    · rintro ⟨a2, cap2⟩
      refine At.run 100 true [] [] rfl trivial ?_
      refine At.draw 6 rfl rfl rfl rfl ?_
      refine AtD.pures (ob := True) true (by kernel_rfl) [1, 2] (fuel := 4) (by kernel_rfl) rfl (by (repeat' apply And.intro) <;> first | exact True.intro | omega | (simp only [inK]; omega) | (simp; done) | (simp; omega) | exact decide_eq_true (by omega) | exact decide_eq_false (by omega) | rfl | (simp [Value.oneCell']; done) | exact i64s_one _ | exact AggOk.mk (by kernel_rfl) (by kernel_rfl)) ?_
      have hcall : ∀ {S : Base} {bx : Bx} {hp : List Seg}, CallOb Tryz.prog S bx hp 15 [.int .u64 n] (str (numL n)) := fun w _ => Tryz.num_w n (by omega) w
      refine AtD.fork2 0 3 (by kernel_rfl) ?_ ?_
      · refine StepD.by [] rfl rfl rfl rfl trivial (OpOk.one true [] [hB 0] rfl rfl ?_)
        refine AtD.fork1 3 (by kernel_rfl) (StepD.by [] rfl rfl rfl rfl trivial (OpOk.one true [] [hC (str (numL n))] rfl hcall ?_))
        refine AtD.fork1 4 (by kernel_rfl) (StepD.by [] rfl rfl rfl rfl trivial (OpOk.appendStr 1 rfl rfl rfl rfl rfl rfl rfl (by rw [bl_mk]; omega) fun a3 cap3 => ?_))
        rw [bl_mk]
        refine AtD.fork1 5 (by kernel_rfl) (StepD.by0 [] rfl rfl rfl trivial (OpOk.one true [] [hB 0] rfl ⟨rfl, rfl⟩ ?_))
        refine AtD.done (by kernel_rfl) ?_
        refine At.run 100 true [] [] rfl trivial ?_
        refine At.roundEnd ⟨_, rfl, a3, cap3, l ++ numL (zig d) ++ numL n, ?_, ?_, ?_⟩
        · rw [hl]; simp [runB]
        · simp [setL, Nat.add_assoc]
        · simp only [setL]; rw [u8s_append, u8s_append]; simp [Nat.add_assoc]
      · refine StepD.by [] rfl rfl rfl rfl trivial (OpOk.one true [] [hC (str (numL n))] rfl hcall ?_)
        refine AtD.fork1 0 (by kernel_rfl) (StepD.by [] rfl rfl rfl rfl trivial (OpOk.one true [] [hB 0] rfl rfl ?_))
        refine AtD.fork1 4 (by kernel_rfl) (StepD.by [] rfl rfl rfl rfl trivial (OpOk.appendStr 1 rfl rfl rfl rfl rfl rfl rfl (by rw [bl_mk]; omega) fun a3 cap3 => ?_))
        rw [bl_mk]
        refine AtD.fork1 5 (by kernel_rfl) (StepD.by0 [] rfl rfl rfl trivial (OpOk.one true [] [hB 0] rfl ⟨rfl, rfl⟩ ?_))
        refine AtD.done (by kernel_rfl) ?_
        refine At.run 100 true [] [] rfl trivial ?_
        refine At.roundEnd ⟨_, rfl, a3, cap3, l ++ numL (zig d) ++ numL n, ?_, ?_, ?_⟩
        · rw [hl]; simp [runB]
        · simp [setL, Nat.add_assoc]
        · simp only [setL]; rw [u8s_append, u8s_append]; simp [Nat.add_assoc]
    · refine At.run 100 true [] [] rfl trivial ?_
      refine At.draw 5 rfl rfl rfl rfl ?_
      refine AtD.pures (ob := True) true (by kernel_rfl) [1] (fuel := 4) (by kernel_rfl) rfl (by (repeat' apply And.intro) <;> first | exact True.intro | omega | (simp only [inK]; omega) | (simp; done) | (simp; omega) | exact decide_eq_true (by omega) | exact decide_eq_false (by omega) | rfl | (simp [Value.oneCell']; done) | exact i64s_one _ | exact AggOk.mk (by kernel_rfl) (by kernel_rfl)) ?_
      have hcall : ∀ {S : Base} {bx : Bx} {hp : List Seg}, CallOb Tryz.prog S bx hp 112 [.int .i64 d] (str (numL (zig d))) := fun w _ => Tryz.int_w d hd w
      refine AtD.fork2 0 2 (by kernel_rfl) ?_ ?_
      · refine StepD.by [] rfl rfl rfl rfl trivial (OpOk.one true [] [hB 0] rfl rfl ?_)
        refine AtD.fork1 2 (by kernel_rfl) (StepD.by [] rfl rfl rfl rfl trivial (OpOk.one true [] [hC (str (numL (zig d)))] rfl hcall ?_))
        refine AtD.fork1 3 (by kernel_rfl) (StepD.by [] rfl rfl rfl rfl trivial (OpOk.appendStr 1 rfl rfl rfl rfl rfl rfl rfl (by rw [bl_mk]; omega) fun a2 cap2 => ?_))
        rw [bl_mk]
        refine AtD.fork1 4 (by kernel_rfl) (StepD.by0 [] rfl rfl rfl trivial (OpOk.one true [] [hB 0] rfl ⟨rfl, rfl⟩ ?_))
        refine AtD.done (by kernel_rfl) ?_
        exact At.weak (hs2 (a2, cap2)) ⟨rfl, rfl, trivial⟩
      · refine StepD.by [] rfl rfl rfl rfl trivial (OpOk.one true [] [hC (str (numL (zig d)))] rfl hcall ?_)
        refine AtD.fork1 0 (by kernel_rfl) (StepD.by [] rfl rfl rfl rfl trivial (OpOk.one true [] [hB 0] rfl rfl ?_))
        refine AtD.fork1 3 (by kernel_rfl) (StepD.by [] rfl rfl rfl rfl trivial (OpOk.appendStr 1 rfl rfl rfl rfl rfl rfl rfl (by rw [bl_mk]; omega) fun a2 cap2 => ?_))
        rw [bl_mk]
        refine AtD.fork1 4 (by kernel_rfl) (StepD.by0 [] rfl rfl rfl trivial (OpOk.one true [] [hB 0] rfl ⟨rfl, rfl⟩ ?_))
        refine AtD.done (by kernel_rfl) ?_
        exact At.weak (hs2 (a2, cap2)) ⟨rfl, rfl, trivial⟩
  · rintro D bx' hp' ⟨a1, cap1, l, hl, rfl, rfl⟩
    refine At.run 100 true [] [hB 1] rfl (by (repeat' apply And.intro) <;> first | exact True.intro | omega | (simp only [inK]; omega) | (simp; done) | (simp; omega) | exact decide_eq_true (by omega) | exact decide_eq_false (by omega) | rfl | (simp [Value.oneCell']; done) | exact i64s_one _ | exact AggOk.mk (by kernel_rfl) (by kernel_rfl)) ?_
    have hl' : l = colL xs := hl
    refine At.step [] rfl rfl rfl rfl rfl trivial (OpOk.toStr (l := l) 0 rfl rfl rfl rfl rfl rfl ?_)
    refine At.run 100 true [] [] rfl (by (repeat' apply And.intro) <;> first | exact True.intro | omega | (simp only [inK]; omega) | (simp; done) | (simp; omega) | exact decide_eq_true (by omega) | exact decide_eq_false (by omega) | rfl | (simp [Value.oneCell']; done) | exact i64s_one _ | exact AggOk.mk (by kernel_rfl) (by kernel_rfl)) ?_
    refine At.keep [] [false, true] rfl ?_
    exact At.retC (hp := []) [] rfl Tryz.func52 rfl trivial ⟨by rw [← hl']; rfl, rfl, rfl⟩
end Go.Proofs

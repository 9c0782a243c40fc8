/-
  Walks of the column's statements.
-/
import Derived.Test.YtdiglfjmjkhgoaaW4
import Derived.Test.YtdiglfjmjkhgoaaE12
namespace Go.Proofs
open Go Go.Eng

theorem Try.alive_w (w : World) : Fun Try.prog 6 [] w (.bool true) := by
  refine Tri.enter (bx := []) (hp := []) Try.func6 rfl (by kernel_rfl) rfl (Own.nil w) ?_
  refine At.run 100 true [] [] rfl (by (repeat' apply And.intro) <;> first | exact True.intro | omega | (simp only [inK]; omega) | (simp; done) | (simp; omega) | exact decide_eq_true (by omega) | exact decide_eq_false (by omega) | rfl) ?_
  refine At.step [] rfl rfl rfl rfl rfl trivial (OpOk.buildSlice rfl rfl rfl rfl rfl rfl rfl (fun b hb => ?_))
  have hcall : ∀ {hp : List Seg}, CallOb Try.prog ⟨w, kys [] []⟩ [(b, 2, [.int .i64 5, .int .i64 6, .int .i64 7, .int .i64 7])] hp 8 [sv (some b) 4 4] (.tuple #[str [4, 10, 1, 2, 2, 0, 1], .int .i64 0]) := by
    intro hp w' hw'
    have hblk := hw'.bx _ (List.mem_cons_self ..)
    rw [← colL_alive]
    refine Try.Put_w [5, 6, 7, 7] (some b) 4 w' (by simp) (fun g j x h1 h2 => ?_) (by simp) (fun g hg => by cases hg; exact (Array.getElem?_eq_some_iff.1 hblk).1)
    cases h1
    exact cell_blk hblk (by simp only; rw [show ([.int .i64 5, .int .i64 6, .int .i64 7, .int .i64 7] : List Value) = ([5, 6, 7, 7] : List Int).map (Value.int .i64) from rfl, List.getElem?_map, h2]; rfl)
  refine At.run 100 true [] [hC (.tuple #[str [4, 10, 1, 2, 2, 0, 1], .int .i64 0])] rfl ⟨hcall, trivial⟩ ?_
  refine At.run 100 true [true] [] rfl (by (repeat' apply And.intro) <;> first | exact True.intro | omega | (simp only [inK]; omega) | (simp; done) | (simp; omega) | exact decide_eq_true (by omega) | exact decide_eq_false (by omega) | rfl) ?_
  refine At.keep [] [] rfl ?_
  exact At.ret [] rfl Try.func6 rfl trivial ⟨rfl, rfl, rfl⟩

theorem Try.stairs_w (fr by_ : Int) (n : Nat) (h1 : inK .i64 fr) (h2 : inK .i64 by_) (hn : n < 65536) (w : World) : Fun Try.prog 3 [.int .i64 fr, .int .i64 by_, .int .u16 n] w (.bool true) := by
  refine Tri.enter (bx := []) (hp := []) Try.func3 rfl (by kernel_rfl) rfl (Own.nil w) ?_
  refine At.run 100 true [false] [hC (.bool true)] rfl ⟨⟨by omega, by omega⟩, by simp only [inK]; omega, rfl, fun w' _ => Try.alive_w w', trivial⟩ ?_
  refine At.nilRow 2 1 ?_
  refine At.loop (n := n % 1000) (env0 := [(1, .int .i64 by_), (0, .int .i64 fr), (7, .int .i64 (n % 1000 : Nat)), (8, sv none 0 0), (9, .int .i64 fr), (10, .int .i64 0)])
    (fun m env bx hp => ∃ (i : Nat) (a : Option Nat) (cap : Nat), m = n % 1000 - i ∧ i ≤ n % 1000 ∧ env = [(1, .int .i64 by_), (0, .int .i64 fr), (7, .int .i64 (n % 1000 : Nat)), (8, sv a i cap), (9, .int .i64 (stairAt fr by_ i)), (10, .int .i64 i)] ∧ bx = [] ∧
      hp = [Seg.row a 2 1 i cap ((stairs fr by_ i).map (Value.int .i64))]) rfl ⟨0, none, 0, by simp, by omega, rfl, rfl, rfl⟩ ⟨rfl, rfl, rfl, rfl, rfl, rfl, trivial⟩ ?_
  rintro m env bx hp ⟨i, a, cap, rfl, hi, rfl, rfl, rfl⟩ ih
  by_cases hlt : i < n % 1000
  · refine At.run 100 true [true] [] rfl (by (repeat' apply And.intro) <;> first | exact True.intro | omega | (simp only [inK]; omega) | (simp; done) | (simp; omega) | exact decide_eq_true (by omega) | exact decide_eq_false (by omega) | rfl) ?_
    refine At.append1 0 1 8 rfl rfl rfl rfl rfl rfl rfl rfl rfl trivial (fun _ => rfl) trivial rfl rfl rfl rfl rfl rfl rfl rfl (fun _ => rfl) (by simp [Value.oneCell']) (by omega) (by omega) (fun bb a2 cap2 => ?_)
    refine At.run 100 false [] [] rfl (by (repeat' apply And.intro) <;> first | exact True.intro | omega | (simp only [inK]; omega) | (simp; done) | (simp; omega) | exact decide_eq_true (by omega) | exact decide_eq_false (by omega) | rfl) ?_
    refine At.weak (ih (n % 1000 - (i + 1)) _ _ _ (by omega) ⟨i + 1, a2, cap2, rfl, by omega, rfl, rfl, by simp [setL, stairs]⟩) ⟨rfl, rfl, rfl, rfl, rfl, some_int_eq (by rw [wrap_i64]; omega), trivial⟩
  · have hin : i = n % 1000 := by omega
    subst hin
    refine At.run 100 true [false] [] rfl (by (repeat' apply And.intro) <;> first | exact True.intro | omega | (simp only [inK]; omega) | (simp; done) | (simp; omega) | exact decide_eq_true (by omega) | exact decide_eq_false (by omega) | rfl) ?_
    clear ih
    obtain ⟨xs, hxs⟩ : ∃ xs, xs = stairs fr by_ (n % 1000) := ⟨_, rfl⟩
    have hlen : n % 1000 = xs.length := by rw [hxs, stairs_len]
    have hrle := rle_stairs h1 h2 (n % 1000)
    rw [← hxs] at hrle ⊢
    have hk : xs.length < 1000 := by omega
    rw [hlen] at hrle ⊢
    have hrow : ∀ {w' : World}, rowOk w' a 2 1 xs.length cap (xs.map (Value.int .i64)) → (∀ g j x, a = some g → xs[j]? = some x → w'.cell? ⟨g, j, none⟩ = some (.int .i64 x)) ∧ (a = none → xs = []) ∧ ∀ g, a = some g → g < w'.heap.size := by
      intro w' hr
      refine ⟨fun g j x hg hx => ?_, fun hn => ?_, fun g hg => ?_⟩
      · subst hg; exact hr.cell (by rw [List.getElem?_map, hx]; rfl)
      · have h0 := hr.nil hn
        have h1 := hr.le
        exact List.length_eq_zero_iff.1 (by omega)
      · obtain ⟨cur, f, hb, -⟩ := hr.blk g hg
        exact (Array.getElem?_eq_some_iff.1 hb).1
    refine At.step [] rfl rfl rfl rfl rfl trivial (OpOk.call rfl (fun w' hw' => Try.Runs_w xs a cap w' (by omega) (hrow (hw'.hp _ (List.mem_cons_self ..))).1 (hrow (hw'.hp _ (List.mem_cons_self ..))).2.1 (hrow (hw'.hp _ (List.mem_cons_self ..))).2.2) ?_)
    rintro v bx' hp' ⟨a', cap', rfl, rfl, rfl⟩
    refine At.run 100 true [] [hC (.tuple #[str (colL xs), .int .i64 0])] rfl ⟨?_, trivial⟩ ?_
    · intro w' hw'
      have hr := hrow (hw'.hp _ (List.mem_cons_of_mem _ (List.mem_cons_self ..)))
      exact Try.Put_w xs a cap w' (by omega) hr.1 hr.2.1 hr.2.2
    have hS := colL_stairs (i := n % 1000) h1 h2 (by omega)
    rw [← hxs] at hS
    have hR2 : (rle (diffs 0 xs)).length ≤ 2 := by
      rw [hrle]; split; simp; split; simp; split; simp; simp
    have hbS : (bl ⟨(colL xs).toArray⟩).length = (colL xs).length := rfl
    refine At.run 100 true [false, false, false] [] rfl (by rw [hbS]; exact (by (repeat' apply And.intro) <;> first | exact True.intro | omega | (simp; done) | exact decide_eq_true (by omega) | exact decide_eq_false (by omega) | rfl)) ?_
    by_cases hk1 : 1 < xs.length
    · have dA : decide ((xs.length : Int) < 2) = false := decide_eq_false (by omega)
      have dC : decide (1 < (xs.length : Int)) = true := decide_eq_true (by omega)
      by_cases he : fr = by_
      · have hRe : rle (diffs 0 xs) = [(by_, xs.length)] := by rw [hrle, if_neg (by omega), if_pos he]
        rw [hRe]
        cases a' with
        | none =>
          intro w' hw'
          have hr := hw'.hp _ (List.mem_cons_self ..)
          have h0 := hr.nil rfl
          have h1 := hr.le
          simp at h1; omega
        | some g' =>
          have dB : decide (fr = by_) = true := decide_eq_true he
          have hrd2 : ∀ {S : Base} {bx : Bx} {hp : List Seg}, RdW S bx ([Seg.row (some g') 30 2 1 cap' (List.flatMap encR [(by_, xs.length)])] ++ hp) g' 0 [.int .i64 by_, .int .i64 xs.length] :=
            fun {S bx hp} => RdW.row (j := 0) rfl (fun i u hu => by rw [Nat.zero_add]; exact hu)
          have hrd3 := True.intro
          refine At.run 100 true [true, true, true] [hR [.int .i64 by_, .int .i64 xs.length]] rfl (by (repeat' apply And.intro) <;> first | exact True.intro | exact dA | exact dB | exact dC | exact hrd2 | exact hrd3 | rfl | omega | (simp; done) | (simp only [inK]; omega)) ?_
          refine At.step [true] rfl rfl rfl rfl rfl (by (repeat' apply And.intro) <;> first | exact True.intro | exact dA | exact dB | exact dC | exact hrd2 | exact hrd3 | rfl | omega | (simp; done) | (simp only [inK]; omega)) (OpOk.eqPair (k := .i64) (e := 2) rfl rfl rfl rfl rfl (by kernel_rfl) rfl rfl ?_)
          refine At.run 100 true [true] [] rfl (by (repeat' apply And.intro) <;> first | exact True.intro | exact dA | exact dB | exact dC | exact hrd2 | exact hrd3 | rfl | omega | (simp; done) | (simp only [inK]; omega)) ?_
          refine At.keep [] [] rfl ?_
          exact At.ret [] rfl Try.func3 rfl trivial ⟨by simp; rfl, rfl, rfl⟩
      · have hRe : rle (diffs 0 xs) = [(fr, 1), (by_, xs.length - 1)] := by rw [hrle, if_neg (by omega), if_neg he, if_neg (by omega)]
        rw [hRe]
        cases a' with
        | none =>
          intro w' hw'
          have hr := hw'.hp _ (List.mem_cons_self ..)
          have h0 := hr.nil rfl
          have h1 := hr.le
          simp at h1; omega
        | some g' =>
          have dB : decide (fr = by_) = false := decide_eq_false he
          have hrd2 : ∀ {S : Base} {bx : Bx} {hp : List Seg}, RdW S bx ([Seg.row (some g') 30 2 2 cap' (List.flatMap encR [(fr, 1), (by_, xs.length - 1)])] ++ hp) g' 0 [.int .i64 fr, .int .i64 1] :=
            fun {S bx hp} => RdW.row (j := 0) rfl (fun i u hu => by
              rw [Nat.zero_add]
              match i, hu with
              | 0, hu => exact hu
              | 1, hu => exact hu)
          have hrd3 : ∀ {S : Base} {bx : Bx} {hp : List Seg}, RdW S bx ([Seg.row (some g') 30 2 2 cap' (List.flatMap encR [(fr, 1), (by_, xs.length - 1)])] ++ hp) g' 2 [.int .i64 by_, .int .i64 (xs.length - 1 : Nat)] :=
            fun {S bx hp} => RdW.row (j := 0) rfl (fun i u hu => by
              match i, hu with
              | 0, hu => exact hu
              | 1, hu => exact hu)
          refine At.run 100 true [true, false, false, true] [hR [.int .i64 fr, .int .i64 1]] rfl ⟨rfl, rfl, rfl, hrd2, rfl, ⟨by omega, by simp⟩, rfl, rfl, dA, dA, dA, dA, dB, dC, dC, dC, dC, trivial⟩ ?_
          refine At.step [true, true] rfl rfl rfl rfl rfl ?_ (OpOk.eqPair (k := .i64) (e := 2) rfl rfl rfl rfl rfl (by kernel_rfl) rfl rfl ?_)
          · rfl
          have dD : (decide (fr = fr) && decide ((1 : Int) = 1)) = true := by simp
          refine At.run 100 true [false, true, true] [hR [.int .i64 by_, .int .i64 (xs.length - 1 : Nat)]] rfl ⟨dD, dD, by simp only [inK]; omega, dD, dD, dD, hrd3, dD, ⟨by omega, by simp⟩, dD, dD, dA, rfl, dA, trivial⟩ ?_
          refine At.step [true, true] rfl rfl rfl rfl rfl ?_ (OpOk.eqPair (k := .i64) (e := 2) rfl rfl rfl rfl rfl (by kernel_rfl) rfl rfl ?_)
          · exact dD
          have dE : (decide (by_ = by_) && decide ((((xs.length - 1 : Nat) : Int)) = (xs.length : Int) - 1)) = true := by simp; omega
          refine At.run 100 true [false, true, true] [] rfl ⟨dA, dD, dA, trivial⟩ ?_
          refine At.keep [] [] rfl ?_
          exact At.ret [] rfl Try.func3 rfl trivial ⟨congrArg Value.bool dE, rfl, rfl⟩
    · refine At.run 100 true [false, false, true] [] rfl (by (repeat' apply And.intro) <;> first | exact True.intro | omega | (simp; done) | exact decide_eq_true (by omega) | exact decide_eq_false (by omega) | rfl) ?_
      refine At.keep [] [] rfl ?_
      exact At.ret [] rfl Try.func3 rfl trivial ⟨rfl, rfl, rfl⟩
end Go.Proofs

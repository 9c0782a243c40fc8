/-
  Walks of layer 12: keys, and how things are held against them.
-/
import Derived.Test.YtfpoclhenokhhaaGreatP6
import Derived.Test.YtfpoclhenokhhaaGreatE16
import Derived.Test.YtfpoclhenokhhaaGreatProg
import Derived.KernelRfl
namespace Go.Proofs
open Go Go.Eng
set_option maxRecDepth 100000
set_option maxHeartbeats 4000000
attribute [local irreducible] Tri

theorem Tryz.isNaN_w (x : Int) (w : World) : Fun Tryz.prog 129 [.int .i64 x] w (.bool false) := by
  refine Tri.enter (bx := []) (hp := []) Tryz.func129 rfl (by kernel_rfl) rfl (Own.nil w) ?_
  refine At.run 100 true [] [] rfl (by (repeat' apply And.intro) <;> first | exact True.intro | omega | (simp only [inK]; omega) | (simp; done) | (simp; omega) | exact decide_eq_true (by omega) | exact decide_eq_false (by omega) | rfl | (simp [Value.oneCell']; done) | exact i64s_one _ | exact AggOk.mk (by kernel_rfl) (by kernel_rfl)) ?_
  exact At.ret [] rfl Tryz.func129 rfl trivial ⟨by simp [tupV], rfl, rfl⟩

theorem Tryz.compare_w (x y : Int) (w : World) : Fun Tryz.prog 118 [.int .i64 x, .int .i64 y] w (.int .i64 (cmpI x y)) := by
  refine Tri.enter (bx := []) (hp := []) Tryz.func118 rfl (by kernel_rfl) rfl (Own.nil w) ?_
  refine At.run 100 true [false, false] [hC (.bool false), hC (.bool false)] rfl (by (repeat' apply And.intro) <;> first | exact fun w' _ => Tryz.isNaN_w _ w' | exact True.intro | omega | rfl | (simp only [inK]; omega) | exact decide_eq_true (by omega) | exact decide_eq_false (by omega) | (simp; done) | (simp; omega) | (simp [Value.oneCell']; done) | exact i64s_one _ | exact AggOk.mk (by kernel_rfl) (by kernel_rfl)) ?_
  unfold cmpI
  by_cases h1 : x < y
  · refine At.run 100 true [true] [] rfl (by (repeat' apply And.intro) <;> first | exact True.intro | omega | (simp only [inK]; omega) | (simp; done) | (simp; omega) | exact decide_eq_true (by omega) | exact decide_eq_false (by omega) | rfl | (simp [Value.oneCell']; done) | exact i64s_one _ | exact AggOk.mk (by kernel_rfl) (by kernel_rfl)) ?_
    exact At.ret [] rfl Tryz.func118 rfl trivial ⟨by rw [if_pos h1]; rfl, rfl, rfl⟩
  · by_cases h2 : y < x
    · refine At.run 100 true [false, true] [] rfl (by (repeat' apply And.intro) <;> first | exact True.intro | omega | (simp only [inK]; omega) | (simp; done) | (simp; omega) | exact decide_eq_true (by omega) | exact decide_eq_false (by omega) | rfl | (simp [Value.oneCell']; done) | exact i64s_one _ | exact AggOk.mk (by kernel_rfl) (by kernel_rfl)) ?_
      exact At.ret [] rfl Tryz.func118 rfl trivial ⟨by rw [if_neg h1, if_pos h2]; rfl, rfl, rfl⟩
    · refine At.run 100 true [false, false] [] rfl (by (repeat' apply And.intro) <;> first | exact True.intro | omega | (simp only [inK]; omega) | (simp; done) | (simp; omega) | exact decide_eq_true (by omega) | exact decide_eq_false (by omega) | rfl | (simp [Value.oneCell']; done) | exact i64s_one _ | exact AggOk.mk (by kernel_rfl) (by kernel_rfl)) ?_
      exact At.ret [] rfl Tryz.func118 rfl trivial ⟨by rw [if_neg h1, if_neg h2]; rfl, rfl, rfl⟩

/-- The first number that is not 0. -/
def orI : List Int → Int
  | [] => 0
  | x :: l => if x = 0 then orI l else x

theorem Tryz.or_w (xs : List Int) (a : Option Addr) (cap : Nat) (w : World) (hlen : xs.length ≤ 1048576) (hrow : SlOk w a (i64s xs)) : Fun Tryz.prog 119 [.slice a xs.length cap] w (.int .i64 (orI xs)) := by
  refine Tri.enter (bx := []) (hp := []) Tryz.func119 rfl (by kernel_rfl) rfl (Own.nil w) ?_
  refine At.run 100 true [] [] rfl trivial ?_
  refine At.loop (n := xs.length) (env0 := [(3, .int .i64 0), (6, .slice a xs.length cap), (7, .int .i64 xs.length), (8, .int .i64 0)]) (fun m env bx hp => ∃ i : Nat, m = xs.length - i ∧ i ≤ xs.length ∧ orI xs = orI (xs.drop i) ∧
    env = [(3, .int .i64 0), (6, .slice a xs.length cap), (7, .int .i64 xs.length), (8, .int .i64 i)] ∧ bx = [] ∧ hp = []) rfl ⟨0, by simp, by omega, by simp, rfl, rfl, rfl⟩ ⟨rfl, rfl, rfl, rfl, trivial⟩ ?_
  rintro m env bx hp ⟨i, rfl, hi, he, rfl, rfl, rfl⟩ ih
  by_cases hlt : i < xs.length
  · obtain ⟨x, hx⟩ : ∃ x, xs[i]? = some x := ⟨_, List.getElem?_eq_getElem hlt⟩
    obtain ⟨g, o, rfl, hc⟩ := hrow.get (by intro e; simp only [i64s, List.map_eq_nil_iff] at e; rw [e] at hlt; simp at hlt)
    have hd : xs.drop i = x :: xs.drop (i + 1) := by rw [List.drop_eq_getElem_cons hlt]; congr 1; exact (List.getElem?_eq_some_iff.1 hx).2
    rw [hd, orI] at he
    have r1 : ∀ {bx : Bx} {hp : List Seg}, RdW ⟨w, kys [] []⟩ bx hp g (o + (i : Int).toNat * 1) [.int .i64 x] := fun {_ _} => RdW.base1 (by simp [kys]) (by rw [Nat.mul_one]; exact hc i _ (i64s_get hx))
    by_cases h0 : x = 0
    · refine At.run 100 true [true, false] [hR [.int .i64 x]] rfl (by (repeat' apply And.intro) <;> first | exact r1 | simp [h0]; done | exact True.intro | omega | rfl | (simp only [inK]; omega) | exact decide_eq_true (by omega) | exact decide_eq_false (by omega) | (simp; done) | (simp; omega) | (simp [Value.oneCell']; done) | exact i64s_one _ | exact AggOk.mk (by kernel_rfl) (by kernel_rfl)) ?_
      refine At.weak (ih (xs.length - (i + 1)) _ _ _ (by omega) ⟨i + 1, rfl, by omega, by rw [he, if_pos h0], rfl, rfl, rfl⟩) ⟨rfl, rfl, rfl, some_int_eq (by omega), trivial⟩
    · refine At.run 100 true [true, true] [hR [.int .i64 x]] rfl (by (repeat' apply And.intro) <;> first | exact r1 | simp [h0]; done | exact True.intro | omega | rfl | (simp only [inK]; omega) | exact decide_eq_true (by omega) | exact decide_eq_false (by omega) | (simp; done) | (simp; omega) | (simp [Value.oneCell']; done) | exact i64s_one _ | exact AggOk.mk (by kernel_rfl) (by kernel_rfl)) ?_
      exact At.ret [] rfl Tryz.func119 rfl trivial ⟨by rw [he, if_neg h0]; rfl, rfl, rfl⟩
  · have : i = xs.length := by omega
    subst this
    refine At.run 100 true [false] [] rfl (by (repeat' apply And.intro) <;> first | exact True.intro | omega | (simp only [inK]; omega) | (simp; done) | (simp; omega) | exact decide_eq_true (by omega) | exact decide_eq_false (by omega) | rfl | (simp [Value.oneCell']; done) | exact i64s_one _ | exact AggOk.mk (by kernel_rfl) (by kernel_rfl)) ?_
    exact At.ret [] rfl Tryz.func119 rfl trivial ⟨by rw [he]; simp [orI, tupV], rfl, rfl⟩

theorem Tryz.holderKey_w (x0 x1 x2 x3 : Int) (w : World) : Fun Tryz.prog 94 [.agg ⟨[.int .i64 x0, .int .i64 x1, .int .i64 x2, .int .i64 x3]⟩] w (.int .i64 x0) := by
  refine Tri.enter (bx := []) (hp := []) Tryz.func94 rfl (by kernel_rfl) rfl (Own.nil w) ?_
  refine At.run 100 true [] [] rfl trivial ?_
  refine At.step [] rfl rfl rfl rfl rfl trivial (OpOk.box rfl rfl rfl fun bq hbq => ?_)
  refine At.run 100 true [] [hB 0] rfl (by (repeat' apply And.intro) <;> first | exact True.intro | omega | (simp only [inK]; omega) | (simp; done) | (simp; omega) | exact decide_eq_true (by omega) | exact decide_eq_false (by omega) | rfl | (simp [Value.oneCell']; done) | exact i64s_one _ | exact AggOk.mk (by kernel_rfl) (by kernel_rfl)) ?_
  refine At.keep [] [] rfl ?_
  exact At.ret [] rfl Tryz.func94 rfl trivial ⟨rfl, rfl, rfl⟩

theorem Tryz.byHolder_w (x0 x1 x2 x3 k : Int) (w : World) : Fun Tryz.prog 95 [.agg ⟨[.int .i64 x0, .int .i64 x1, .int .i64 x2, .int .i64 x3]⟩, .int .i64 k] w (.int .i64 (cmp1 [x0, x1, x2, x3] k)) := by
  refine Tri.enter (bx := []) (hp := []) Tryz.func95 rfl (by kernel_rfl) rfl (Own.nil w) ?_
  refine At.run 100 true [] [] rfl trivial ?_
  refine At.step [] rfl rfl rfl rfl rfl trivial (OpOk.box rfl rfl rfl fun bq hbq => ?_)
  refine At.run 100 true [] [hB 0, hC (.int .i64 (cmpI x0 k))] rfl (by (repeat' apply And.intro) <;> first | exact fun w' _ => Tryz.compare_w x0 k w' | exact True.intro | omega | rfl | (simp only [inK]; omega) | exact decide_eq_true (by omega) | exact decide_eq_false (by omega) | (simp; done) | (simp; omega) | (simp [Value.oneCell']; done) | exact i64s_one _ | exact AggOk.mk (by kernel_rfl) (by kernel_rfl)) ?_
  refine At.keep [] [] rfl ?_
  exact At.ret [] rfl Tryz.func95 rfl trivial ⟨rfl, rfl, rfl⟩

theorem Tryz.openKey_w (x0 x1 x2 x3 x4 x5 : Int) (w : World) : Fun Tryz.prog 97 [.agg ⟨[.int .i64 x0, .int .i64 x1, .int .i64 x2, .int .i64 x3, .int .i64 x4, .int .i64 x5]⟩] w (.int .i64 x0) := by
  refine Tri.enter (bx := []) (hp := []) Tryz.func97 rfl (by kernel_rfl) rfl (Own.nil w) ?_
  refine At.run 100 true [] [] rfl trivial ?_
  refine At.step [] rfl rfl rfl rfl rfl trivial (OpOk.box rfl rfl rfl fun bq hbq => ?_)
  refine At.run 100 true [] [hB 0] rfl (by (repeat' apply And.intro) <;> first | exact True.intro | omega | (simp only [inK]; omega) | (simp; done) | (simp; omega) | exact decide_eq_true (by omega) | exact decide_eq_false (by omega) | rfl | (simp [Value.oneCell']; done) | exact i64s_one _ | exact AggOk.mk (by kernel_rfl) (by kernel_rfl)) ?_
  refine At.keep [] [] rfl ?_
  exact At.ret [] rfl Tryz.func97 rfl trivial ⟨rfl, rfl, rfl⟩

theorem Tryz.byOpen_w (x0 x1 x2 x3 x4 x5 k : Int) (w : World) : Fun Tryz.prog 98 [.agg ⟨[.int .i64 x0, .int .i64 x1, .int .i64 x2, .int .i64 x3, .int .i64 x4, .int .i64 x5]⟩, .int .i64 k] w (.int .i64 (cmp1 [x0, x1, x2, x3, x4, x5] k)) := by
  refine Tri.enter (bx := []) (hp := []) Tryz.func98 rfl (by kernel_rfl) rfl (Own.nil w) ?_
  refine At.run 100 true [] [] rfl trivial ?_
  refine At.step [] rfl rfl rfl rfl rfl trivial (OpOk.box rfl rfl rfl fun bq hbq => ?_)
  refine At.run 100 true [] [hB 0, hC (.int .i64 (cmpI x0 k))] rfl (by (repeat' apply And.intro) <;> first | exact fun w' _ => Tryz.compare_w x0 k w' | exact True.intro | omega | rfl | (simp only [inK]; omega) | exact decide_eq_true (by omega) | exact decide_eq_false (by omega) | (simp; done) | (simp; omega) | (simp [Value.oneCell']; done) | exact i64s_one _ | exact AggOk.mk (by kernel_rfl) (by kernel_rfl)) ?_
  refine At.keep [] [] rfl ?_
  exact At.ret [] rfl Tryz.func98 rfl trivial ⟨rfl, rfl, rfl⟩

theorem Tryz.rateKey_w (x0 x1 : Int) (w : World) : Fun Tryz.prog 100 [.agg ⟨[.int .i64 x0, .int .i64 x1]⟩] w (.int .i64 x0) := by
  refine Tri.enter (bx := []) (hp := []) Tryz.func100 rfl (by kernel_rfl) rfl (Own.nil w) ?_
  refine At.run 100 true [] [] rfl trivial ?_
  refine At.step [] rfl rfl rfl rfl rfl trivial (OpOk.box rfl rfl rfl fun bq hbq => ?_)
  refine At.run 100 true [] [hB 0] rfl (by (repeat' apply And.intro) <;> first | exact True.intro | omega | (simp only [inK]; omega) | (simp; done) | (simp; omega) | exact decide_eq_true (by omega) | exact decide_eq_false (by omega) | rfl | (simp [Value.oneCell']; done) | exact i64s_one _ | exact AggOk.mk (by kernel_rfl) (by kernel_rfl)) ?_
  refine At.keep [] [] rfl ?_
  exact At.ret [] rfl Tryz.func100 rfl trivial ⟨rfl, rfl, rfl⟩

theorem Tryz.byRate_w (x0 x1 k : Int) (w : World) : Fun Tryz.prog 101 [.agg ⟨[.int .i64 x0, .int .i64 x1]⟩, .int .i64 k] w (.int .i64 (cmp1 [x0, x1] k)) := by
  refine Tri.enter (bx := []) (hp := []) Tryz.func101 rfl (by kernel_rfl) rfl (Own.nil w) ?_
  refine At.run 100 true [] [] rfl trivial ?_
  refine At.step [] rfl rfl rfl rfl rfl trivial (OpOk.box rfl rfl rfl fun bq hbq => ?_)
  refine At.run 100 true [] [hB 0, hC (.int .i64 (cmpI x0 k))] rfl (by (repeat' apply And.intro) <;> first | exact fun w' _ => Tryz.compare_w x0 k w' | exact True.intro | omega | rfl | (simp only [inK]; omega) | exact decide_eq_true (by omega) | exact decide_eq_false (by omega) | (simp; done) | (simp; omega) | (simp [Value.oneCell']; done) | exact i64s_one _ | exact AggOk.mk (by kernel_rfl) (by kernel_rfl)) ?_
  refine At.keep [] [] rfl ?_
  exact At.ret [] rfl Tryz.func101 rfl trivial ⟨rfl, rfl, rfl⟩

theorem Tryz.stakeKey_w (x0 x1 x2 : Int) (w : World) : Fun Tryz.prog 103 [.agg ⟨[.int .i64 x0, .int .i64 x1, .int .i64 x2]⟩] w (.agg ⟨[.int .i64 x0, .int .i64 x1]⟩) := by
  refine Tri.enter (bx := []) (hp := []) Tryz.func103 rfl (by kernel_rfl) rfl (Own.nil w) ?_
  refine At.run 100 true [] [] rfl trivial ?_
  refine At.step [] rfl rfl rfl rfl rfl trivial (OpOk.box rfl rfl rfl fun bq hbq => ?_)
  refine At.step [] rfl rfl rfl rfl rfl trivial (OpOk.alloc (cs := [.int .i64 0, .int .i64 0]) rfl (by kernel_rfl) fun b2 hb2 => ?_)
  refine At.run 100 true [] [hB 1, hB 1, hB 0] rfl (by (repeat' apply And.intro) <;> first | exact True.intro | omega | (simp only [inK]; omega) | (simp; done) | (simp; omega) | exact decide_eq_true (by omega) | exact decide_eq_false (by omega) | rfl | (simp [Value.oneCell']; done) | exact i64s_one _ | exact AggOk.mk (by kernel_rfl) (by kernel_rfl)) ?_
  exact At.retK [] [] [hB 0] rfl rfl Tryz.func103 rfl (by (repeat' apply And.intro) <;> first | exact True.intro | omega | (simp only [inK]; omega) | (simp; done) | (simp; omega) | exact decide_eq_true (by omega) | exact decide_eq_false (by omega) | rfl | (simp [Value.oneCell']; done) | exact i64s_one _ | exact AggOk.mk (by kernel_rfl) (by kernel_rfl)) ⟨rfl, rfl, rfl⟩

theorem Tryz.byStake_w (x0 x1 x2 k l : Int) (w : World) : Fun Tryz.prog 104 [.agg ⟨[.int .i64 x0, .int .i64 x1, .int .i64 x2]⟩, .agg ⟨[.int .i64 k, .int .i64 l]⟩] w (.int .i64 (cmp2 [x0, x1, x2] k l)) := by
  refine Tri.enter (bx := []) (hp := []) Tryz.func104 rfl (by kernel_rfl) rfl (Own.nil w) ?_
  refine At.run 100 true [] [] rfl trivial ?_
  refine At.step [] rfl rfl rfl rfl rfl trivial (OpOk.box rfl rfl rfl fun bq hbq => ?_)
  refine At.step [] rfl rfl rfl rfl rfl trivial (OpOk.box rfl rfl rfl fun b2 hb2 => ?_)
  refine At.run 100 true [] [] rfl (by (repeat' apply And.intro) <;> first | exact True.intro | omega | (simp only [inK]; omega) | (simp; done) | (simp; omega) | exact decide_eq_true (by omega) | exact decide_eq_false (by omega) | rfl | (simp [Value.oneCell']; done) | exact i64s_one _ | exact AggOk.mk (by kernel_rfl) (by kernel_rfl)) ?_
  refine At.quietT 10 3 true [] [hB 1, hB 0, hC (.int .i64 (cmpI x0 k)), hB 1, hB 0, hC (.int .i64 (cmpI x1 l))] ⟨by kernel_rfl, by kernel_rfl, rfl, by kernel_rfl, by kernel_rfl, by kernel_rfl, rfl, rfl, rfl⟩ rfl rfl rfl (by (repeat' apply And.intro) <;> first | exact fun w' _ => Tryz.compare_w _ _ w' | exact True.intro | omega | rfl | (simp only [inK]; omega) | exact decide_eq_true (by omega) | exact decide_eq_false (by omega) | (simp; done) | (simp; omega) | (simp [Value.oneCell']; done) | exact i64s_one _ | exact AggOk.mk (by kernel_rfl) (by kernel_rfl)) rfl ?_
  refine AtD.fork1 10 (by kernel_rfl) (StepD.by [] rfl rfl rfl rfl trivial (OpOk.buildSlice rfl rfl rfl rfl rfl rfl rfl (fun bs hbs => ?_)))
  refine AtD.fork1 11 (by kernel_rfl) (StepD.by [] rfl rfl rfl rfl trivial (OpOk.one true [] [hC (.int .i64 (orI [cmpI x0 k, cmpI x1 l]))] rfl (fun w' hw' => Tryz.or_w [cmpI x0 k, cmpI x1 l] (svA (some bs)) 2 w' (by simp) (SlOk.blk (hw'.bx _ (List.mem_cons_self ..)))) ?_))
  refine AtD.pures (ob := True) true (by kernel_rfl) [12] (fuel := 0) (by kernel_rfl) rfl trivial ?_
  refine AtD.done (by kernel_rfl) ?_
  refine At.run 100 true [] [] rfl trivial ?_
  refine At.retK [] [] [] rfl rfl Tryz.func104 rfl trivial ⟨?_, rfl, rfl⟩
  rw [show cmp2 [x0, x1, x2] k l = if cmpI x0 k = 0 then cmpI x1 l else cmpI x0 k from rfl, show tupV [Value.int .i64 (orI [cmpI x0 k, cmpI x1 l])] = .int .i64 (if cmpI x0 k = 0 then (if cmpI x1 l = 0 then 0 else cmpI x1 l) else cmpI x0 k) from rfl]
  by_cases h1 : cmpI x0 k = 0
  · rw [if_pos h1, if_pos h1]
    by_cases h2 : cmpI x1 l = 0
    · rw [if_pos h2, h2]
    · rw [if_neg h2]
  · rw [if_neg h1, if_neg h1]
end Go.Proofs

/-
  Walks of layer 1: nums.Num and the reference's.
-/
import Derived.Test.YtfpoclhenokhhaaGreatP1
import Derived.Test.YtfpoclhenokhhaaGreatE9
import Derived.Test.YtfpoclhenokhhaaGreatProg
import Derived.KernelRfl
namespace Go.Proofs
open Go Go.Eng
set_option maxRecDepth 100000
set_option maxHeartbeats 4000000
attribute [local irreducible] Tri

theorem Tryz.num_w (n : Nat) (hn : n < 18446744073709551616) (w : World) : Fun Tryz.prog 15 [.int .u64 n] w (str (numL n)) := by
  refine Tri.enter (bx := []) (hp := []) Tryz.func15 rfl (by kernel_rfl) rfl (Own.nil w) ?_
  refine At.run 100 true [] [] rfl trivial ?_
  refine At.nilRow 5 1 ?_
  refine At.loop (n := n) (env0 := [(0, .int .u64 (n : Int)), (3, sv none 0 0)]) (fun k env bx hp => ∃ (m : Nat) (l : List UInt8) (a : Option Nat) (cap : Nat), k = m ∧ m < 18446744073709551616 ∧ numL n = l ++ numL m ∧ l.length + (numL m).length ≤ 10 ∧
    env = [(0, .int .u64 (m : Int)), (3, sv a l.length cap)] ∧ bx = [] ∧ hp = [Seg.row a 5 1 l.length cap (u8s l)]) rfl ⟨n, [], none, 0, rfl, hn, rfl, by simpa using numL_len10 n hn, rfl, rfl, rfl⟩ ⟨rfl, rfl, trivial⟩ ?_
  rintro k env bx hp ⟨m, l, a, cap, rfl, hm, he, hlen, rfl, rfl, rfl⟩ ih
  by_cases h : k < 128
  · refine At.run 100 true [false] [] rfl (by (repeat' apply And.intro) <;> first | exact True.intro | omega | (simp only [inK]; omega) | (simp; done) | (simp; omega) | exact decide_eq_true (by omega) | exact decide_eq_false (by omega) | rfl | (simp [Value.oneCell']; done) | exact i64s_one _ | exact AggOk.mk (by kernel_rfl) (by kernel_rfl)) ?_
    refine At.append1 0 1 1 rfl rfl rfl rfl rfl rfl rfl rfl rfl trivial (fun _ => rfl) trivial rfl rfl rfl rfl rfl rfl rfl rfl (fun _ => rfl) (by simp [Value.oneCell']) (by omega) (by omega) (fun b a' cap' => ?_)
    have e : numL n = l ++ [UInt8.ofNat k] := by rw [he, numL_small h]
    have e2 : u8s l ++ [Value.int .u8 (k : Int)] = u8s (numL n) := by rw [e, u8s_append, u8s_single rfl (by omega)]
    refine At.step [] rfl rfl rfl rfl rfl trivial (OpOk.toStr (l := numL n) 0 rfl rfl rfl rfl (by simp only [setL, nth]; rw [e2]) rfl ?_)
    refine At.run 100 true [] [] rfl trivial ?_
    refine At.keep [] [] rfl ?_
    exact At.ret [] rfl Tryz.func15 rfl trivial ⟨rfl, rfl, rfl⟩
  · refine At.run 100 true [true] [] rfl (by (repeat' apply And.intro) <;> first | exact True.intro | omega | (simp only [inK]; omega) | (simp; done) | (simp; omega) | exact decide_eq_true (by omega) | exact decide_eq_false (by omega) | rfl | (simp [Value.oneCell']; done) | exact i64s_one _ | exact AggOk.mk (by kernel_rfl) (by kernel_rfl)) ?_
    refine At.append1 0 1 1 rfl rfl rfl rfl rfl rfl rfl rfl rfl trivial (fun _ => rfl) trivial rfl rfl rfl rfl rfl rfl rfl rfl (fun _ => rfl) (by simp [Value.oneCell']) (by omega) (by omega) (fun b a' cap' => ?_)
    have e := numL_big (n := k) (by omega)
    have e2 : u8s l ++ [Value.int .u8 ((k : Int) % 128 + 128)] = u8s (l ++ [UInt8.ofNat (k % 128 + 128)]) := by rw [u8s_append, u8s_single (x := (k : Int) % 128 + 128) (by omega) (by omega)]
    refine At.run 100 true [] [] rfl (by (repeat' apply And.intro) <;> first | exact True.intro | omega | (simp only [inK]; omega) | (simp; done) | (simp; omega) | exact decide_eq_true (by omega) | exact decide_eq_false (by omega) | rfl | (simp [Value.oneCell']; done) | exact i64s_one _ | exact AggOk.mk (by kernel_rfl) (by kernel_rfl)) ?_
    exact At.weak (ih (k / 128) _ _ _ (by omega) ⟨k / 128, l ++ [UInt8.ofNat (k % 128 + 128)], a', cap', rfl, by omega, by rw [he, e]; simp, by rw [e] at hlen; simp at hlen ⊢; omega, rfl, rfl, by simp only [setL]; rw [e2]; simp⟩) ⟨rfl, sv_eq (by simp), trivial⟩

theorem Tryz.zig_w (n : Int) (hn : inK .i64 n) (w : World) : Fun Tryz.prog 123 [.int .i64 n] w (.int .u64 (zig n)) := by
  refine Tri.enter (bx := []) (hp := []) Tryz.func123 rfl (by kernel_rfl) rfl (Own.nil w) ?_
  refine At.run 100 false [] [] rfl (by (repeat' apply And.intro) <;> first | exact True.intro | omega | (simp only [inK]; omega) | (simp; done) | (simp; omega) | exact decide_eq_true (by omega) | exact decide_eq_false (by omega) | rfl | (simp [Value.oneCell']; done) | exact i64s_one _ | exact AggOk.mk (by kernel_rfl) (by kernel_rfl)) ?_
  exact At.ret [] rfl Tryz.func123 rfl trivial ⟨int_eq (zig_walk hn), rfl, rfl⟩

theorem Tryz.zag_w (n : Nat) (hn : n < 18446744073709551616) (w : World) : Fun Tryz.prog 126 [.int .u64 n] w (.int .i64 (zag n)) := by
  refine Tri.enter (bx := []) (hp := []) Tryz.func126 rfl (by kernel_rfl) rfl (Own.nil w) ?_
  refine At.run 100 false [] [] rfl (by (repeat' apply And.intro) <;> first | exact True.intro | omega | (simp only [inK]; omega) | (simp; done) | (simp; omega) | exact decide_eq_true (by omega) | exact decide_eq_false (by omega) | rfl | (simp [Value.oneCell']; done) | exact i64s_one _ | exact AggOk.mk (by kernel_rfl) (by kernel_rfl)) ?_
  exact At.ret [] rfl Tryz.func126 rfl trivial ⟨int_eq (zag_walk hn), rfl, rfl⟩

theorem Tryz.int_w (n : Int) (hn : inK .i64 n) (w : World) : Fun Tryz.prog 112 [.int .i64 n] w (str (numL (zig n))) := by
  refine Tri.enter (bx := []) (hp := []) Tryz.func112 rfl (by kernel_rfl) rfl (Own.nil w) ?_
  refine At.run 100 false [] [hC (.int .u64 (zig n)), hC (str (numL (zig n)))] rfl ⟨fun w _ => Tryz.num_w _ (zig_lt hn) w, fun w _ => Tryz.zig_w n hn w, trivial⟩ ?_
  exact At.ret [] rfl Tryz.func112 rfl trivial ⟨rfl, rfl, rfl⟩

theorem Tryz.rzig_w (n : Int) (hn : inK .i64 n) (w : World) : Fun Tryz.prog 116 [.int .i64 n] w (.int .u64 (zig n)) := by
  refine Tri.enter (bx := []) (hp := []) Tryz.func116 rfl (by kernel_rfl) rfl (Own.nil w) ?_
  have hn' := hn
  simp only [inK] at hn'
  by_cases h : 0 ≤ n
  · refine At.run 100 false [true] [] rfl (by (repeat' apply And.intro) <;> first | exact True.intro | omega | (simp only [inK]; omega) | (simp; done) | (simp; omega) | exact decide_eq_true (by omega) | exact decide_eq_false (by omega) | rfl | (simp [Value.oneCell']; done) | exact i64s_one _ | exact AggOk.mk (by kernel_rfl) (by kernel_rfl)) ?_
    refine At.ret [] rfl Tryz.func116 rfl trivial ⟨int_eq ?_, rfl, rfl⟩
    unfold zig; rw [if_pos h]; simp only [wrap_u64]; omega
  · refine At.run 100 false [false] [] rfl (by (repeat' apply And.intro) <;> first | exact True.intro | omega | (simp only [inK]; omega) | (simp; done) | (simp; omega) | exact decide_eq_true (by omega) | exact decide_eq_false (by omega) | rfl | (simp [Value.oneCell']; done) | exact i64s_one _ | exact AggOk.mk (by kernel_rfl) (by kernel_rfl)) ?_
    refine At.ret [] rfl Tryz.func116 rfl trivial ⟨int_eq ?_, rfl, rfl⟩
    unfold zig; rw [if_neg h]; simp only [wrap_u64, wrap_i64]; omega

theorem Tryz.rzag_w (n : Nat) (hn : n < 18446744073709551616) (w : World) : Fun Tryz.prog 117 [.int .u64 n] w (.int .i64 (zag n)) := by
  refine Tri.enter (bx := []) (hp := []) Tryz.func117 rfl (by kernel_rfl) rfl (Own.nil w) ?_
  by_cases h : n % 2 = 0
  · refine At.run 100 true [true] [] rfl (by (repeat' apply And.intro) <;> first | exact True.intro | omega | (simp only [inK]; omega) | (simp; done) | (simp; omega) | exact decide_eq_true (by omega) | exact decide_eq_false (by omega) | rfl | (simp [Value.oneCell']; done) | exact i64s_one _ | exact AggOk.mk (by kernel_rfl) (by kernel_rfl)) ?_
    refine At.ret [] rfl Tryz.func117 rfl trivial ⟨int_eq ?_, rfl, rfl⟩
    unfold zag; rw [if_pos h]; omega
  · refine At.run 100 true [false] [] rfl (by (repeat' apply And.intro) <;> first | exact True.intro | omega | (simp only [inK]; omega) | (simp; done) | (simp; omega) | exact decide_eq_true (by omega) | exact decide_eq_false (by omega) | rfl | (simp [Value.oneCell']; done) | exact i64s_one _ | exact AggOk.mk (by kernel_rfl) (by kernel_rfl)) ?_
    refine At.ret [] rfl Tryz.func117 rfl trivial ⟨int_eq ?_, rfl, rfl⟩
    unfold zag; rw [if_neg h]; omega

theorem Tryz.rnum_w (n : Nat) (hn : n < 18446744073709551616) (w : World) : Fun Tryz.prog 34 [.int .u64 n] w (str (numL n)) := by
  induction n using Nat.strongRecOn generalizing w with
  | _ n ih =>
  refine Tri.enter (bx := []) (hp := []) Tryz.func34 rfl (by kernel_rfl) rfl (Own.nil w) ?_
  by_cases h : n < 128
  · refine At.run 100 true [true] [] rfl (by (repeat' apply And.intro) <;> first | exact True.intro | omega | (simp only [inK]; omega) | (simp; done) | (simp; omega) | exact decide_eq_true (by omega) | exact decide_eq_false (by omega) | rfl | (simp [Value.oneCell']; done) | exact i64s_one _ | exact AggOk.mk (by kernel_rfl) (by kernel_rfl)) ?_
    refine At.step [] rfl rfl rfl rfl rfl trivial (OpOk.buildSlice rfl rfl rfl rfl rfl rfl rfl (fun b hb => ?_))
    refine At.step [] rfl rfl rfl rfl rfl trivial (OpOk.toStrR [UInt8.ofNat n] rfl rfl rfl rfl rfl rfl (by rw [u8s_single rfl (by omega)]; exact RdW.blk0 (i := 0) rfl) ?_)
    refine At.run 100 true [] [] rfl (by (repeat' apply And.intro) <;> first | exact True.intro | omega | (simp only [inK]; omega) | (simp; done) | (simp; omega) | exact decide_eq_true (by omega) | exact decide_eq_false (by omega) | rfl | (simp [Value.oneCell']; done) | exact i64s_one _ | exact AggOk.mk (by kernel_rfl) (by kernel_rfl)) ?_
    refine At.keep [] [] rfl ?_
    exact At.ret [] rfl Tryz.func34 rfl trivial ⟨by rw [numL_small h]; rfl, rfl, rfl⟩
  · refine At.run 100 true [false] [] rfl (by (repeat' apply And.intro) <;> first | exact True.intro | omega | (simp only [inK]; omega) | (simp; done) | (simp; omega) | exact decide_eq_true (by omega) | exact decide_eq_false (by omega) | rfl | (simp [Value.oneCell']; done) | exact i64s_one _ | exact AggOk.mk (by kernel_rfl) (by kernel_rfl)) ?_
    refine At.draw 11 rfl rfl rfl rfl ?_
    refine AtD.pures (ob := True) true (by kernel_rfl) [0, 1, 2, 3, 6, 7] (fuel := 5) (by kernel_rfl) rfl (by (repeat' apply And.intro) <;> first | exact True.intro | omega | (simp only [inK]; omega) | (simp; done) | (simp; omega) | exact decide_eq_true (by omega) | exact decide_eq_false (by omega) | rfl | (simp [Value.oneCell']; done) | exact i64s_one _ | exact AggOk.mk (by kernel_rfl) (by kernel_rfl)) ?_
    have hcall : ∀ {S : Base} {bx : Bx} {hp : List Seg}, CallOb Tryz.prog S bx hp 34 [.int .u64 ((n : Int) / 128)] (str (numL (n / 128))) := fun w _ => ih (n / 128) (by omega) (by omega) w
    have e1 : u8s [UInt8.ofNat (n % 128 + 128)] = [.int .u8 ((n : Int) % 128 + 128)] := u8s_single (by omega) (by omega)
    have efin : str (UInt8.ofNat (n % 128 + 128) :: numL (n / 128)) = str (numL n) := by rw [numL_big (n := n) (by omega)]
    have hlen := numL_len10 (n / 128) (by omega)
    refine AtD.fork2 4 8 (by kernel_rfl) ?_ ?_
    · refine StepD.by [] rfl rfl rfl rfl trivial (OpOk.buildSlice rfl rfl rfl rfl rfl rfl rfl (fun b hb => ?_))
      refine AtD.fork2 5 8 (by kernel_rfl) ?_ ?_
      · refine StepD.by [] rfl rfl rfl rfl trivial (OpOk.toStrR [UInt8.ofNat (n % 128 + 128)] rfl rfl rfl rfl rfl rfl (by rw [e1]; exact RdW.blk0 (i := 0) rfl) ?_)
        refine AtD.fork1 8 (by kernel_rfl) (StepD.by [] rfl rfl rfl rfl trivial (OpOk.one true [] [hC (str (numL (n / 128)))] rfl hcall ?_))
        refine AtD.pures (ob := True) true (by kernel_rfl) [9, 10] (fuel := 0) (by kernel_rfl) rfl ⟨by simp [bl]; omega, trivial⟩ ?_
        refine AtD.done (by kernel_rfl) ?_
        refine At.run 100 true [] [] rfl (by (repeat' apply And.intro) <;> first | exact True.intro | omega | (simp only [inK]; omega) | (simp; done) | (simp; omega) | exact decide_eq_true (by omega) | exact decide_eq_false (by omega) | rfl | (simp [Value.oneCell']; done) | exact i64s_one _ | exact AggOk.mk (by kernel_rfl) (by kernel_rfl)) ?_
        refine At.keep [] [] rfl ?_
        exact At.ret [] rfl Tryz.func34 rfl trivial ⟨efin, rfl, rfl⟩
      · refine StepD.by [] rfl rfl rfl rfl trivial (OpOk.one true [] [hC (str (numL (n / 128)))] rfl hcall ?_)
        refine AtD.fork1 5 (by kernel_rfl) (StepD.by [] rfl rfl rfl rfl trivial (OpOk.toStrR [UInt8.ofNat (n % 128 + 128)] rfl rfl rfl rfl rfl rfl (by rw [e1]; exact RdW.blk0 (i := 0) rfl) ?_))
        refine AtD.pures (ob := True) true (by kernel_rfl) [9, 10] (fuel := 0) (by kernel_rfl) rfl ⟨by simp [bl]; omega, trivial⟩ ?_
        refine AtD.done (by kernel_rfl) ?_
        refine At.run 100 true [] [] rfl (by (repeat' apply And.intro) <;> first | exact True.intro | omega | (simp only [inK]; omega) | (simp; done) | (simp; omega) | exact decide_eq_true (by omega) | exact decide_eq_false (by omega) | rfl | (simp [Value.oneCell']; done) | exact i64s_one _ | exact AggOk.mk (by kernel_rfl) (by kernel_rfl)) ?_
        refine At.keep [] [] rfl ?_
        exact At.ret [] rfl Tryz.func34 rfl trivial ⟨efin, rfl, rfl⟩
    · refine StepD.by [] rfl rfl rfl rfl trivial (OpOk.one true [] [hC (str (numL (n / 128)))] rfl hcall ?_)
      refine AtD.fork1 4 (by kernel_rfl) (StepD.by [] rfl rfl rfl rfl trivial (OpOk.buildSlice rfl rfl rfl rfl rfl rfl rfl (fun b hb => ?_)))
      refine AtD.fork1 5 (by kernel_rfl) (StepD.by [] rfl rfl rfl rfl trivial (OpOk.toStrR [UInt8.ofNat (n % 128 + 128)] rfl rfl rfl rfl rfl rfl (by rw [e1]; exact RdW.blk0 (i := 0) rfl) ?_))
      refine AtD.pures (ob := True) true (by kernel_rfl) [9, 10] (fuel := 0) (by kernel_rfl) rfl ⟨by simp [bl]; omega, trivial⟩ ?_
      refine AtD.done (by kernel_rfl) ?_
      refine At.run 100 true [] [] rfl (by (repeat' apply And.intro) <;> first | exact True.intro | omega | (simp only [inK]; omega) | (simp; done) | (simp; omega) | exact decide_eq_true (by omega) | exact decide_eq_false (by omega) | rfl | (simp [Value.oneCell']; done) | exact i64s_one _ | exact AggOk.mk (by kernel_rfl) (by kernel_rfl)) ?_
      refine At.keep [] [] rfl ?_
      exact At.ret [] rfl Tryz.func34 rfl trivial ⟨efin, rfl, rfl⟩
end Go.Proofs

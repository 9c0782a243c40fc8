/-
  Walks of layer 1: the reference's reader.
-/
import Derived.Test.YtfpoclhenokhhaaGreatW7
namespace Go.Proofs
open Go Go.Eng
set_option maxRecDepth 100000
set_option maxHeartbeats 4000000
attribute [local irreducible] Tri

@[simp] theorem bl_str (l : List UInt8) : bl ⟨l.toArray⟩ = l := rfl
/-- The reference's digits. -/
def digR (l : List UInt8) : Nat × Nat × Nat := if (digP l 0 0).2.2 = 0 then ((digP l 0 0).1, (digP l 0 0).2.1, 0) else (0, 0, (digP l 0 0).2.2)

theorem Tryz.rdigits_w (l : List UInt8) (w : World) (hlen : l.length ≤ 9223372036854775807) :
    Fun Tryz.prog 91 [str l] w (.tuple #[.int .u64 (digR l).1, .int .i64 (digR l).2.1, .int .i64 (digR l).2.2]) := by
  refine Tri.enter (bx := []) (hp := []) Tryz.func91 rfl (by kernel_rfl) rfl (Own.nil w) ?_
  refine At.run 100 true [] [] rfl trivial ?_
  refine At.loop (n := l.length) (env0 := [(0, str l), (5, .int .u64 0), (6, .int .u64 1), (7, .int .i64 0)]) (fun m env bx hp => ∃ (k acc : Nat), m = l.length - k ∧ k ≤ l.length ∧ k ≤ 9 ∧ acc < 128 ^ k ∧ digP l 0 0 = digP (l.drop k) k acc ∧
    env = [(0, str l), (5, .int .u64 acc), (6, .int .u64 ((128 ^ k : Nat) : Int)), (7, .int .i64 k)] ∧ bx = [] ∧ hp = []) rfl
    ⟨0, 0, by simp, by omega, by omega, by simp, by simp, rfl, rfl, rfl⟩ ⟨rfl, rfl, rfl, rfl, trivial⟩ ?_
  rintro m env bx hp ⟨k, acc, rfl, hk, hk9, hacc, he, rfl, rfl, rfl⟩ ih
  by_cases h : k = l.length
  · refine At.run 100 true [false] [] rfl (by simp only [bl_str]; exact (by (repeat' apply And.intro) <;> first | exact True.intro | omega | (simp only [inK]; omega) | (simp; done) | (simp; omega) | exact decide_eq_true (by omega) | exact decide_eq_false (by omega) | rfl | (simp [Value.oneCell']; done) | exact i64s_one _ | exact AggOk.mk (by kernel_rfl) (by kernel_rfl))) ?_
    have hd : l.drop k = [] := by rw [h]; simp
    have hr : digP l 0 0 = (0, k, 2) := by rw [he, hd]; rfl
    exact At.ret [] rfl Tryz.func91 rfl trivial ⟨by unfold digR; rw [hr]; rfl, rfl, rfl⟩
  · obtain ⟨c, hc⟩ : ∃ c, l[k]? = some c := ⟨_, List.getElem?_eq_getElem (by omega)⟩
    have hd : l.drop k = c :: l.drop (k + 1) := by
      rw [List.drop_eq_getElem_cons (by omega)]; congr 1; exact (List.getElem?_eq_some_iff.1 hc).2
    rw [hd] at he
    have ec : (bl ⟨l.toArray⟩)[((k : Nat) : Int).toNat]?.getD 0 = c := by rw [Int.toNat_natCast, bl_str]; simp [hc]
    have hcl := c.toNat_lt
    have hp9 : (128 : Nat) ^ k ≤ 128 ^ 9 := Nat.pow_le_pow_right (by decide) hk9
    have hL : k < (bl ⟨l.toArray⟩).length := by rw [bl_str]; omega
    have hb64 := hlen
    rw [← bl_str l] at hb64
    have hlt : decide ((k : Int) < (((bl ⟨l.toArray⟩).length : Nat) : Int)) = true := decide_eq_true (by omega)
    have hix : (0 : Int) ≤ k ∧ (k : Int) < (((bl ⟨l.toArray⟩).length : Nat) : Int) := by omega
    by_cases h9 : k = 9
    · subst h9
      by_cases hc1 : 1 < c.toNat
      · refine At.run 100 true [true, true, true] [] rfl (by simp only [ec]; exact (by (repeat' apply And.intro) <;> first | exact True.intro | omega | (simp only [inK]; omega) | (simp; done) | (simp; omega) | exact decide_eq_true (by omega) | exact decide_eq_false (by omega) | rfl | (simp [Value.oneCell']; done) | exact i64s_one _ | exact AggOk.mk (by kernel_rfl) (by kernel_rfl))) ?_
        have hr : digP l 0 0 = (0, 9 + 1, 3) := by rw [he]; simp [digP, hc1]
        exact At.ret [] rfl Tryz.func91 rfl trivial ⟨by unfold digR; rw [hr]; rfl, rfl, rfl⟩
      · by_cases hz : c.toNat = 0
        · refine At.run 100 true [true, true, false, true, true] [] rfl (by simp only [ec]; exact (by (repeat' apply And.intro) <;> first | exact True.intro | omega | (simp only [inK]; omega) | (simp; done) | (simp; omega) | exact decide_eq_true (by omega) | exact decide_eq_false (by omega) | rfl | (simp [Value.oneCell']; done) | exact i64s_one _ | exact AggOk.mk (by kernel_rfl) (by kernel_rfl))) ?_
          have hr : digP l 0 0 = (0, 9 + 1, 3) := by rw [he]; simp [digP, hz]
          exact At.ret [] rfl Tryz.func91 rfl trivial ⟨by unfold digR; rw [hr]; rfl, rfl, rfl⟩
        · refine At.run 100 false [true, true, false, true, false, true] [] rfl (by simp only [ec]; exact (by (repeat' apply And.intro) <;> first | exact True.intro | omega | (simp only [inK]; omega) | (simp; done) | (simp; omega) | exact decide_eq_true (by omega) | exact decide_eq_false (by omega) | rfl | (simp [Value.oneCell']; done) | exact i64s_one _ | exact AggOk.mk (by kernel_rfl) (by kernel_rfl))) ?_
          have hr : digP l 0 0 = (acc + c.toNat * 128 ^ 9, 9 + 1, 0) := by rw [he]; simp [digP, hc1, hz]; omega
          refine At.ret [] rfl Tryz.func91 rfl trivial ⟨?_, rfl, rfl⟩
          unfold digR; rw [hr]
          simp only [ec, tupV, if_true]
          have e1 : IntKind.u64.wrap ((acc : Int) + IntKind.u64.wrap (IntKind.u64.wrap ((c.toNat : Int).tmod 128) * ((128 ^ 9 : Nat) : Int))) = ((acc + c.toNat * 128 ^ 9 : Nat) : Int) := by
            have hc2 : c.toNat = 1 := by omega
            have e3 : ((1 : Nat) : Int).tmod 128 = 1 := by decide
            rw [hc2, e3]; simp only [wrap_u64]; omega
          have e2 : IntKind.i64.wrap (((9 : Nat) : Int) + 1) = ((9 + 1 : Nat) : Int) := by rw [wrap_i64]; omega
          rw [e1, e2]; rfl
    · have hk8 : (128 : Nat) ^ k ≤ 128 ^ 8 := Nat.pow_le_pow_right (by decide) (by omega)
      have h3 : c.toNat % 128 * 128 ^ k ≤ 127 * 128 ^ k := Nat.mul_le_mul_right _ (by omega)
      have h3' : (c.toNat : Int) % 128 * ((128 ^ k : Nat) : Int) = ((c.toNat % 128 * 128 ^ k : Nat) : Int) := by rw [Int.natCast_mul, Int.natCast_emod]; rfl
      have hpos : 0 < (128 : Nat) ^ k := Nat.pow_pos (by decide)
      by_cases hz : 0 < k ∧ c.toNat = 0
      · refine At.run 100 true [true, false, false, true, true] [] rfl (by simp only [ec]; exact (by (repeat' apply And.intro) <;> first | exact True.intro | omega | (simp only [inK]; omega) | (simp; done) | (simp; omega) | exact decide_eq_true (by omega) | exact decide_eq_false (by omega) | rfl | (simp [Value.oneCell']; done) | exact i64s_one _ | exact AggOk.mk (by kernel_rfl) (by kernel_rfl))) ?_
        have hr : digP l 0 0 = (0, k + 1, 3) := by rw [he]; simp [digP, hz.2, hz.1, h9]
        exact At.ret [] rfl Tryz.func91 rfl trivial ⟨by unfold digR; rw [hr]; rfl, rfl, rfl⟩
      · by_cases h128 : c.toNat < 128
        · have hm : c.toNat % 128 = c.toNat := Nat.mod_eq_of_lt h128
          have hr : digP l 0 0 = (acc + c.toNat % 128 * 128 ^ k, k + 1, 0) := by rw [he, hm, digP, if_neg (by omega), if_pos h128, if_neg (by omega)]
          by_cases hk0 : 0 < k
          · refine At.run 100 true [true, false, false, true, false, true] [] rfl (by simp only [ec, h3']; exact (by (repeat' apply And.intro) <;> first | exact True.intro | omega | (simp only [inK]; omega) | (simp; done) | (simp; omega) | exact decide_eq_true (by omega) | exact decide_eq_false (by omega) | rfl | (simp [Value.oneCell']; done) | exact i64s_one _ | exact AggOk.mk (by kernel_rfl) (by kernel_rfl))) ?_
            refine At.ret [] rfl Tryz.func91 rfl trivial ⟨?_, rfl, rfl⟩
            unfold digR; rw [hr]
            simp only [ec, h3', tupV, if_true]; rfl
          · refine At.run 100 true [true, false, false, false, false, true] [] rfl (by simp only [ec, h3']; exact (by (repeat' apply And.intro) <;> first | exact True.intro | omega | (simp only [inK]; omega) | (simp; done) | (simp; omega) | exact decide_eq_true (by omega) | exact decide_eq_false (by omega) | rfl | (simp [Value.oneCell']; done) | exact i64s_one _ | exact AggOk.mk (by kernel_rfl) (by kernel_rfl))) ?_
            refine At.ret [] rfl Tryz.func91 rfl trivial ⟨?_, rfl, rfl⟩
            unfold digR; rw [hr]
            simp only [ec, h3', tupV, if_true]; rfl
        · have hr : digP l 0 0 = digP (l.drop (k + 1)) (k + 1) (acc + c.toNat % 128 * 128 ^ k) := by rw [he, digP, if_neg (by omega), if_neg h128]
          have e4 : ((128 ^ k : Nat) : Int) * 128 = ((128 ^ (k + 1) : Nat) : Int) := by rw [Nat.pow_succ, Int.natCast_mul]; rfl
          have hk9' : (128 : Nat) ^ (k + 1) ≤ 128 ^ 9 := Nat.pow_le_pow_right (by decide) (by omega)
          by_cases hk0 : 0 < k
          · refine At.run 100 true [true, false, false, true, false, false] [] rfl (by simp only [ec, h3', e4]; exact (by (repeat' apply And.intro) <;> first | exact True.intro | omega | (simp only [inK]; omega) | (simp; done) | (simp; omega) | exact decide_eq_true (by omega) | exact decide_eq_false (by omega) | rfl | (simp [Value.oneCell']; done) | exact i64s_one _ | exact AggOk.mk (by kernel_rfl) (by kernel_rfl))) ?_
            refine At.weak (ih (l.length - (k + 1)) _ _ _ (by omega) ⟨k + 1, acc + c.toNat % 128 * 128 ^ k, rfl, by omega, by omega, by rw [Nat.pow_succ]; omega, hr, rfl, rfl, rfl⟩) ⟨rfl, some_int_eq (by rw [ec, h3']; rfl), some_int_eq e4, some_int_eq (by omega), trivial⟩
          · refine At.run 100 true [true, false, false, false, false, false] [] rfl (by simp only [ec, h3', e4]; exact (by (repeat' apply And.intro) <;> first | exact True.intro | omega | (simp only [inK]; omega) | (simp; done) | (simp; omega) | exact decide_eq_true (by omega) | exact decide_eq_false (by omega) | rfl | (simp [Value.oneCell']; done) | exact i64s_one _ | exact AggOk.mk (by kernel_rfl) (by kernel_rfl))) ?_
            refine At.weak (ih (l.length - (k + 1)) _ _ _ (by omega) ⟨k + 1, acc + c.toNat % 128 * 128 ^ k, rfl, by omega, by omega, by rw [Nat.pow_succ]; omega, hr, rfl, rfl, rfl⟩) ⟨rfl, some_int_eq (by rw [ec, h3']; rfl), some_int_eq e4, some_int_eq (by omega), trivial⟩

theorem Tryz.rint_w (n : Int) (hn : inK .i64 n) (w : World) : Fun Tryz.prog 90 [.int .i64 n] w (str (numL (zig n))) := by
  refine Tri.enter (bx := []) (hp := []) Tryz.func90 rfl (by kernel_rfl) rfl (Own.nil w) ?_
  refine At.run 100 false [] [hC (.int .u64 (zig n)), hC (str (numL (zig n)))] rfl ⟨fun w _ => Tryz.rnum_w _ (zig_lt hn) w, fun w _ => Tryz.rzig_w n hn w, trivial⟩ ?_
  exact At.ret [] rfl Tryz.func90 rfl trivial ⟨rfl, rfl, rfl⟩

theorem Tryz.rOf_w (s : ByteArray) (w : World) :
    Tri Tryz.prog 37 [.string s] w [] (fun v bx hp => ∃ b, v = .pointer (some ⟨b, 0, none⟩) ∧ bx = [(b, 84, rdr s 0 0)] ∧ hp = []) := by
  refine Tri.enter (bx := []) (hp := []) Tryz.func37 rfl (by kernel_rfl) rfl (Own.nil w) ?_
  refine At.run 100 true [] [] rfl (by (repeat' apply And.intro) <;> first | exact True.intro | omega | (simp only [inK]; omega) | (simp; done) | (simp; omega) | exact decide_eq_true (by omega) | exact decide_eq_false (by omega) | rfl | (simp [Value.oneCell']; done) | exact i64s_one _ | exact AggOk.mk (by kernel_rfl) (by kernel_rfl)) ?_
  refine At.step [] rfl rfl rfl rfl rfl trivial (OpOk.box rfl rfl rfl fun b hb => ?_)
  refine At.run 100 true [] [] rfl (by (repeat' apply And.intro) <;> first | exact True.intro | omega | (simp only [inK]; omega) | (simp; done) | (simp; omega) | exact decide_eq_true (by omega) | exact decide_eq_false (by omega) | rfl | (simp [Value.oneCell']; done) | exact i64s_one _ | exact AggOk.mk (by kernel_rfl) (by kernel_rfl)) ?_
  exact At.ret [] rfl Tryz.func37 rfl trivial ⟨b, rfl, rfl, rfl⟩

theorem Tryz.rNum_w (s : ByteArray) (a0 : Nat) (f : Int) (b most : Nat) (w : World) (ha : a0 ≤ (bl s).length) (hlen : (bl s).length ≤ 9223372036854775807)
    (hown : Own [(b, 84, rdr s a0 f)] [] w) :
    FunU Tryz.prog 38 [.pointer (some ⟨b, 0, none⟩), .int .u64 most] w (.int .u64 (rdN (bl s) a0 f most).1) (b, 84, rdr s (rdN (bl s) a0 f most).2.1 (rdN (bl s) a0 f most).2.2) := by
  refine Tri.enter (bx := [(b, 84, rdr s a0 f)]) (hp := []) Tryz.func38 rfl (by kernel_rfl) rfl hown ?_
  by_cases hf : f = 0
  · subst hf
    refine At.run 100 true [false] [hB 0] rfl (by (repeat' apply And.intro) <;> first | exact True.intro | omega | (simp only [inK]; omega) | (simp; done) | (simp; omega) | exact decide_eq_true (by omega) | exact decide_eq_false (by omega) | rfl | (simp [Value.oneCell']; done) | exact i64s_one _ | exact AggOk.mk (by kernel_rfl) (by kernel_rfl)) ?_
    have hk := digP_k ((bl s).drop a0) 0 0
    rw [List.length_drop] at hk
    unfold rdN numE
    obtain ⟨n, k, e, hD⟩ : ∃ n k e, digP ((bl s).drop a0) 0 0 = (n, k, e) := ⟨_, _, _, rfl⟩
    have hd := fun w' => Tryz.rdigits_w ((bl s).drop a0) w' (by rw [List.length_drop]; omega)
    unfold digR at hd
    simp only [hD] at hd hk ⊢
    by_cases he : e = 0
    · subst he
      simp only [if_true] at hd
      refine At.quiet true [] [hB 0, hB 0, hC (.tuple #[.int .u64 n, .int .i64 k, .int .i64 0])] ⟨by kernel_rfl, by kernel_rfl, rfl, rfl, rfl⟩ rfl rfl rfl ⟨fun w' _ => hd w', ⟨by omega, by omega⟩, rfl, rfl, trivial⟩ ?_
      by_cases hm : most < n
      · refine At.run 100 true [true, true, true] [hB 0] rfl ⟨⟨rfl, rfl⟩, rfl, decide_eq_true (by omega), decide_eq_true (by omega), rfl, rfl, rfl, trivial⟩ ?_
        refine At.ret [] rfl Tryz.func38 rfl trivial ⟨?_, ?_, rfl⟩
        · simp [hm, tupV]
        · simp [hm, rdr]
      · refine At.run 100 true [true, false, false] [hB 0, hB 0] rfl (by (repeat' apply And.intro) <;> first | exact True.intro | omega | (simp only [inK]; omega) | (simp; done) | (simp; omega) | exact decide_eq_true (by omega) | exact decide_eq_false (by omega) | rfl | (simp [Value.oneCell']; done) | exact i64s_one _ | exact AggOk.mk (by kernel_rfl) (by kernel_rfl)) ?_
        refine At.ret [] rfl Tryz.func38 rfl trivial ⟨?_, ?_, rfl⟩
        · simp [hm, tupV]
        · simp [hm, rdr]
    · simp only [if_neg he] at hd
      refine At.quiet true [] [hB 0, hB 0, hC (.tuple #[.int .u64 0, .int .i64 0, .int .i64 e])] ⟨by kernel_rfl, by kernel_rfl, rfl, rfl, rfl⟩ rfl rfl rfl ⟨fun w' _ => hd w', ⟨by omega, by omega⟩, rfl, rfl, trivial⟩ ?_
      refine At.run 100 true [false, false, true] [hB 0] rfl (by (repeat' apply And.intro) <;> first | exact True.intro | omega | (simp only [inK]; omega) | (simp; done) | (simp; omega) | exact decide_eq_true (by omega) | exact decide_eq_false (by omega) | rfl | (simp [Value.oneCell']; done) | exact i64s_one _ | exact AggOk.mk (by kernel_rfl) (by kernel_rfl)) ?_
      refine At.ret [] rfl Tryz.func38 rfl trivial ⟨?_, ?_, rfl⟩
      · simp [he, tupV]
      · simp [he, rdr]
  · refine At.run 100 true [true] [hB 0] rfl (by (repeat' apply And.intro) <;> first | exact True.intro | omega | (simp only [inK]; omega) | (simp; done) | (simp; omega) | exact decide_eq_true (by omega) | exact decide_eq_false (by omega) | rfl | (simp [Value.oneCell']; done) | exact i64s_one _ | exact AggOk.mk (by kernel_rfl) (by kernel_rfl)) ?_
    refine At.ret [] rfl Tryz.func38 rfl trivial ⟨?_, ?_, rfl⟩
    · simp [rdN, hf, tupV]
    · simp [rdN, hf]

theorem rdI_eq (l : List UInt8) (a : Nat) (f : Int) : rdI l a f = (zag (rdN l a f 18446744073709551615).1, (rdN l a f 18446744073709551615).2) := by
  have := digP_lt (l.drop a) 0 0 (by omega) (by simp)
  have e : numE (l.drop a) 18446744073709551615 = (digP (l.drop a) 0 0).2.2 := by unfold numE; rw [if_neg (by omega)]
  unfold rdI rdN
  rw [e]
  split
  · simp [zag]
  · split <;> simp [zag]

theorem Tryz.rInt_w (s : ByteArray) (a0 : Nat) (f : Int) (b : Nat) (w : World) (ha : a0 ≤ (bl s).length) (hlen : (bl s).length ≤ 9223372036854775807)
    (hown : Own [(b, 84, rdr s a0 f)] [] w) :
    FunU Tryz.prog 92 [.pointer (some ⟨b, 0, none⟩)] w (.int .i64 (rdI (bl s) a0 f).1) (b, 84, rdr s (rdI (bl s) a0 f).2.1 (rdI (bl s) a0 f).2.2) := by
  refine Tri.enter (bx := [(b, 84, rdr s a0 f)]) (hp := []) Tryz.func92 rfl (by kernel_rfl) rfl hown ?_
  have hlt := (rdN_lt (bl s) a0 f 18446744073709551615).2
  rw [rdI_eq]
  refine At.run 100 true [] [hU (.int .u64 (rdN (bl s) a0 f 18446744073709551615).1) 0 (rdr s (rdN (bl s) a0 f 18446744073709551615).2.1 (rdN (bl s) a0 f 18446744073709551615).2.2), hC (.int .i64 (zag (rdN (bl s) a0 f 18446744073709551615).1))] rfl
    ⟨fun w' _ => Tryz.rzag_w _ hlt w', fun w' hw' => Tryz.rNum_w s a0 f b 18446744073709551615 w' ha hlen hw'.toOwn, trivial⟩ ?_
  exact At.ret [] rfl Tryz.func92 rfl trivial ⟨rfl, rfl, rfl⟩
end Go.Proofs

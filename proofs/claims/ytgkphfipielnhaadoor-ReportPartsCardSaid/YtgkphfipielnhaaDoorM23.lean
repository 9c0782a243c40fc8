/-
  Walks of layer 5: sums of three words.
-/
import Derived.Test.YtgkphfipielnhaaDoorM17
import Derived.Test.YtgkphfipielnhaaDoorM15
import Derived.Test.YtgkphfipielnhaaDoorM7
import Derived.Test.YtgkphfipielnhaaDoorM21
import Derived.Test.YtgkphfipielnhaaDoorM16
import Derived.Test.YtgkphfipielnhaaDoorM5
import Derived.Test.YtgkphfipielnhaaDoorM2
import Derived.Laws.Externs
/-
  Walks of layer 5: sums of three words.
-/
namespace Go.Proofs
open Go Go.Eng
set_option maxRecDepth 100000
set_option maxHeartbeats 4000000
attribute [local irreducible] Tri

theorem Tryd.add64_x (x y c : Int) (hx : 0 ≤ x) (hy : 0 ≤ y) (h0 : 0 ≤ c) (h1 : c ≤ 1) (w : World) : (callFunc 114 ⟨[.int .u64 x, .int .u64 y, .int .u64 c]⟩).run Tryd.prog w = .ok (.value (.tuple #[.int .u64 ((x + y + c) % 18446744073709551616), .int .u64 ((x + y + c) / 18446744073709551616)])) w := by
  rw [show (⟨[.int .u64 x, .int .u64 y, .int .u64 c]⟩ : Array Value) = #[.int .u64 x, .int .u64 y, .int .u64 c] from rfl, run_callFunc_extern Tryd.func114 (by kernel_rfl) (by kernel_rfl) (by kernel_rfl) (e := add64Entry) (by kernel_rfl), run_add64 x y c hx hy h0 h1]
  rfl
theorem Tryd.mul64_w (x y : Nat) (hx : x < 18446744073709551616) (hy : y < 18446744073709551616) (w : World) : Fun Tryd.prog 70 [.int .u64 x, .int .u64 y] w (.tuple #[.int .u64 ((x * y / 18446744073709551616 : Nat) : Int), .int .u64 ((x * y % 18446744073709551616 : Nat) : Int)]) :=
  Fun.of Tryd.func70 (Tryd.bits_Mul64 x y hx hy w)
theorem Tryd.size_w (a : Int) (h : inK .i64 a) (w : World) : Fun Tryd.prog 71 [.int .i64 a] w (.int .u64 (a.natAbs : Int)) := by
  refine Tri.enter (bx := []) (hp := []) Tryd.func71 rfl (by kernel_rfl) rfl (Own.nil w) ?_
  simp only [inK] at h
  by_cases hn : a < 0
  · refine At.gw [true] [] rfl oK ?_
    refine At.rt [] [] [] Tryd.func71 ?_
    exact ⟨congrArg (Value.int .u64) (by rw [IntKind.wrap_u64, IntKind.wrap_u64]; omega), rfl, rfl⟩
  · refine At.go [false] [] rfl oK ?_
    refine At.rt [] [] [] Tryd.func71 ?_
    exact ⟨congrArg (Value.int .u64) (by omega), rfl, rfl⟩
theorem not64 {c n : Int} (hc : c = 18446744073709551615) (h0 : 0 ≤ n) (h1 : n < 18446744073709551616) : ixor .u64 c n = 18446744073709551615 - n := by
  subst hc
  have := ixor_ones (k := .u64) (.inl rfl) n 18446744073709551615 (by decide)
  rw [ixor_u64, BitVec.xor_comm, ← ixor_u64, this, wrap_u64]; omega
/-- A sum with a carry: the words, by what holds of them. -/
theorem Tryd.add64_e (x y c : Int) (hx : 0 ≤ x ∧ x < 18446744073709551616) (hy : 0 ≤ y ∧ y < 18446744073709551616) (hc : 0 ≤ c ∧ c ≤ 1) : ∃ s k : Int, (0 ≤ s ∧ s < 18446744073709551616) ∧ (0 ≤ k ∧ k ≤ 1) ∧ s + 18446744073709551616 * k = x + y + c ∧
    ∀ w, (callFunc 114 ⟨[.int .u64 x, .int .u64 y, .int .u64 c]⟩).run Tryd.prog w = .ok (.value (.tuple #[.int .u64 s, .int .u64 k])) w :=
  ⟨_, _, by omega, by omega, by omega, fun w => Tryd.add64_x x y c hx.1 hy.1 hc.1 hc.2 w⟩
theorem Tryd.add64_n (x y c n : Int) (hx : x = 18446744073709551615 - n) (hn : 0 ≤ n ∧ n < 18446744073709551616) (hy : 0 ≤ y ∧ y < 18446744073709551616) (hc : 0 ≤ c ∧ c ≤ 1) : ∃ s k : Int, (0 ≤ s ∧ s < 18446744073709551616) ∧ (0 ≤ k ∧ k ≤ 1) ∧ s + 18446744073709551616 * k = 18446744073709551615 - n + y + c ∧
    ∀ w, (callFunc 114 ⟨[.int .u64 x, .int .u64 y, .int .u64 c]⟩).run Tryd.prog w = .ok (.value (.tuple #[.int .u64 s, .int .u64 k])) w := by
  subst hx; exact Tryd.add64_e _ _ _ (by omega) hy hc
theorem not64' {n : Int} (h : 0 ≤ n ∧ n < 18446744073709551616) : ixor .u64 (match IntKind.u64.signed with | true => -1 | false => IntKind.u64.max) n = 18446744073709551615 - n := not64 rfl h.1 h.2
theorem Tryd.neg_w (m : Nat) (h : m < 6277101735386680763835789423207666416102355444464034512896) (w : World) :
    Fun Tryd.prog 72 [.agg ⟨w3 m⟩] w (.agg ⟨w3 ((6277101735386680763835789423207666416102355444464034512896 - m) % 6277101735386680763835789423207666416102355444464034512896)⟩) := by
  obtain ⟨a, b, c, ha, hb, hc, hm, hw⟩ := w3_ex h
  rw [hw]
  obtain ⟨s0, k0, hs0, hk0, he0, A0⟩ := Tryd.add64_n _ 0 1 _ (not64' ha) ha (by omega) (by omega)
  obtain ⟨s1, k1, hs1, hk1, he1, A1⟩ := Tryd.add64_n _ 0 k0 _ (not64' hb) hb (by omega) hk0
  obtain ⟨s2, k2, hs2, hk2, he2, A2⟩ := Tryd.add64_n _ 0 k1 _ (not64' hc) hc (by omega) hk1
  have hT : s0 + 18446744073709551616 * s1 + 340282366920938463463374607431768211456 * s2 = 6277101735386680763835789423207666416102355444464034512896 - m - 6277101735386680763835789423207666416102355444464034512896 * k2 := by omega
  refine Tri.enter (bx := []) (hp := []) Tryd.func72 rfl (by kernel_rfl) rfl (Own.nil w) ?_
  refine At.go [] [] rfl oK ?_
  refine At.bo fun b1 hb1 => ?_
  refine At.al fun b2 hb2 => ?_
  refine At.go [] [] rfl oK ?_
  refine At.unr ?_
  refine At.go [true] [hB 1, hX (.tuple ⟨[.int .u64 s0, .int .u64 k0]⟩), hB 1] rfl (by and_intros <;> first | exact fun w' _ => A0 w' | exact oK) ?_
  refine At.una ?_
  refine At.go [true] [hB 1, hX (.tuple ⟨[.int .u64 s1, .int .u64 k1]⟩), hB 1] rfl (by and_intros <;> first | exact fun w' _ => A1 w' | exact oK) ?_
  refine At.una ?_
  refine At.go [true] [hB 1, hX (.tuple ⟨[.int .u64 s2, .int .u64 k2]⟩), hB 1] rfl (by and_intros <;> first | exact fun w' _ => A2 w' | exact oK) ?_
  refine At.una ?_
  refine At.go [false] [hB 1, hB 0] rfl oK ?_
  rw [← w3_of hs0 hs1 hs2 (neg_fin (k := k2) h hT (w3_rng hs0 hs1 hs2))]
  refine At.rt [] [] [hB 0] Tryd.func72 ?_
  exact ⟨rfl, rfl, rfl⟩

theorem Tryd.add_w (b m n : Nat) (hm : m < 6277101735386680763835789423207666416102355444464034512896) (hn : n < 6277101735386680763835789423207666416102355444464034512896) (w : World) (hown : Own [(b, 83, w3 m)] [] w) :
    FunU Tryd.prog 73 [.pointer (some ⟨b, 0, none⟩), .agg ⟨w3 n⟩] w (.tuple #[]) (b, 83, w3 ((m + n) % 6277101735386680763835789423207666416102355444464034512896)) := by
  obtain ⟨x, y, z, hx, hy, hz, em, hw⟩ := w3_ex hm
  obtain ⟨x', y', z', hx', hy', hz', en, hw'⟩ := w3_ex hn
  rw [hw] at hown
  rw [hw']
  obtain ⟨s0, k0, hs0, hk0, he0, A0⟩ := Tryd.add64_e x x' 0 hx hx' (by omega)
  obtain ⟨s1, k1, hs1, hk1, he1, A1⟩ := Tryd.add64_e y y' k0 hy hy' hk0
  obtain ⟨s2, k2, hs2, hk2, he2, A2⟩ := Tryd.add64_e z z' k1 hz hz' hk1
  have hT : s0 + 18446744073709551616 * s1 + 340282366920938463463374607431768211456 * s2 = m + n - 6277101735386680763835789423207666416102355444464034512896 * k2 := add_lin em en he0 he1 he2
  refine Tri.enter (bx := [(b, 83, [.int .u64 x, .int .u64 y, .int .u64 z])]) (hp := []) Tryd.func73 rfl (by kernel_rfl) rfl hown ?_
  refine At.go [] [] rfl oK ?_
  refine At.bo fun b3 hb3 => ?_
  refine At.go [] [] rfl oK ?_
  refine At.unr ?_
  refine At.go [true] [] rfl (by and_intros <;> first | exact fun w' _ => A0 w' | exact oK) ?_
  refine At.dr 21 ?_
  refine AtD.pu [0, 1, 2, 3, 8, 11] 15 rfl (by and_intros <;> first | exact fun w' _ => A0 w' | exact oK) ?_
  refine AtD.pu [4, 9, 16] 12 rfl (by and_intros <;> first | exact fun w' _ => A0 w' | exact oK) ?_
  refine AtD.pu [5, 17] 10 rfl (by and_intros <;> first | exact fun w' _ => A0 w' | exact oK) ?_
  refine AtD.pu [6] 9 rfl (by and_intros <;> first | exact fun w' _ => A0 w' | exact oK) ?_
  refine AtD.lx [7, 10] 7 [] [hB 1, hB 0] rfl (by and_intros <;> first | exact fun w' _ => A0 w' | exact oK) ?_
  refine AtD.f1 12 [] [] [hX (.tuple ⟨[.int .u64 s0, .int .u64 k0]⟩)] rfl rfl rfl (by and_intros <;> first | exact fun w' _ => A0 w' | exact oK) (by and_intros <;> first | exact fun w' _ => A0 w' | exact oK) ?_
  refine AtD.pu [13] 5 rfl (by and_intros <;> first | exact fun w' _ => A0 w' | exact oK) ?_
  refine AtD.pu [14, 15] 3 rfl (by and_intros <;> first | exact fun w' _ => A0 w' | exact oK) ?_
  refine AtD.pu [18] 2 rfl (by and_intros <;> first | exact fun w' _ => A0 w' | exact oK) ?_
  refine AtD.f1 19 [] [] [hB 1] rfl rfl rfl (by and_intros <;> first | exact fun w' _ => A0 w' | exact oK) (by and_intros <;> first | exact fun w' _ => A0 w' | exact oK) ?_
  refine AtD.pu [20] 0 rfl (by and_intros <;> first | exact fun w' _ => A0 w' | exact oK) ?_
  refine AtD.dn ?_
  refine At.go [] [] rfl (by and_intros <;> first | exact fun w' _ => A0 w' | exact oK) ?_
  refine At.una ?_
  refine At.go [true] [] rfl (by and_intros <;> first | exact fun w' _ => A1 w' | exact oK) ?_
  refine At.dr 21 ?_
  refine AtD.pu [0, 1, 2, 3, 8, 11] 15 rfl (by and_intros <;> first | exact fun w' _ => A1 w' | exact oK) ?_
  refine AtD.pu [4, 9, 16] 12 rfl (by and_intros <;> first | exact fun w' _ => A1 w' | exact oK) ?_
  refine AtD.pu [5, 17] 10 rfl (by and_intros <;> first | exact fun w' _ => A1 w' | exact oK) ?_
  refine AtD.pu [6] 9 rfl (by and_intros <;> first | exact fun w' _ => A1 w' | exact oK) ?_
  refine AtD.lx [7, 10] 7 [] [hB 1, hB 0] rfl (by and_intros <;> first | exact fun w' _ => A1 w' | exact oK) ?_
  refine AtD.f1 12 [] [] [hX (.tuple ⟨[.int .u64 s1, .int .u64 k1]⟩)] rfl rfl rfl (by and_intros <;> first | exact fun w' _ => A1 w' | exact oK) (by and_intros <;> first | exact fun w' _ => A1 w' | exact oK) ?_
  refine AtD.pu [13] 5 rfl (by and_intros <;> first | exact fun w' _ => A1 w' | exact oK) ?_
  refine AtD.pu [14, 15] 3 rfl (by and_intros <;> first | exact fun w' _ => A1 w' | exact oK) ?_
  refine AtD.pu [18] 2 rfl (by and_intros <;> first | exact fun w' _ => A1 w' | exact oK) ?_
  refine AtD.f1 19 [] [] [hB 1] rfl rfl rfl (by and_intros <;> first | exact fun w' _ => A1 w' | exact oK) (by and_intros <;> first | exact fun w' _ => A1 w' | exact oK) ?_
  refine AtD.pu [20] 0 rfl (by and_intros <;> first | exact fun w' _ => A1 w' | exact oK) ?_
  refine AtD.dn ?_
  refine At.go [] [] rfl (by and_intros <;> first | exact fun w' _ => A1 w' | exact oK) ?_
  refine At.una ?_
  refine At.go [true] [] rfl (by and_intros <;> first | exact fun w' _ => A2 w' | exact oK) ?_
  refine At.dr 21 ?_
  refine AtD.pu [0, 1, 2, 3, 8, 11] 15 rfl (by and_intros <;> first | exact fun w' _ => A2 w' | exact oK) ?_
  refine AtD.pu [4, 9, 16] 12 rfl (by and_intros <;> first | exact fun w' _ => A2 w' | exact oK) ?_
  refine AtD.pu [5, 17] 10 rfl (by and_intros <;> first | exact fun w' _ => A2 w' | exact oK) ?_
  refine AtD.pu [6] 9 rfl (by and_intros <;> first | exact fun w' _ => A2 w' | exact oK) ?_
  refine AtD.lx [7, 10] 7 [] [hB 1, hB 0] rfl (by and_intros <;> first | exact fun w' _ => A2 w' | exact oK) ?_
  refine AtD.f1 12 [] [] [hX (.tuple ⟨[.int .u64 s2, .int .u64 k2]⟩)] rfl rfl rfl (by and_intros <;> first | exact fun w' _ => A2 w' | exact oK) (by and_intros <;> first | exact fun w' _ => A2 w' | exact oK) ?_
  refine AtD.pu [13] 5 rfl (by and_intros <;> first | exact fun w' _ => A2 w' | exact oK) ?_
  refine AtD.pu [14, 15] 3 rfl (by and_intros <;> first | exact fun w' _ => A2 w' | exact oK) ?_
  refine AtD.pu [18] 2 rfl (by and_intros <;> first | exact fun w' _ => A2 w' | exact oK) ?_
  refine AtD.f1 19 [] [] [hB 1] rfl rfl rfl (by and_intros <;> first | exact fun w' _ => A2 w' | exact oK) (by and_intros <;> first | exact fun w' _ => A2 w' | exact oK) ?_
  refine AtD.pu [20] 0 rfl (by and_intros <;> first | exact fun w' _ => A2 w' | exact oK) ?_
  refine AtD.dn ?_
  refine At.go [] [] rfl (by and_intros <;> first | exact fun w' _ => A2 w' | exact oK) ?_
  refine At.una ?_
  refine At.go [false] [] rfl oK ?_
  rw [← w3_of hs0 hs1 hs2 (add_fin (k := k2) hT (w3_rng hs0 hs1 hs2))]
  refine At.rt [false, true] [] [] Tryd.func73 ?_
  exact ⟨rfl, rfl, rfl⟩
theorem Tryd.addMul_w (b : Nat) (S x y : Int) (hx : inK .i64 x) (hy : inK .i64 y) (w : World) (hown : Own [(b, 83, w3 (sumM S))] [] w) :
    FunU Tryd.prog 37 [.pointer (some ⟨b, 0, none⟩), .int .i64 x, .int .i64 y] w (.tuple #[]) (b, 83, w3 (sumM (S + x * y))) := by
  refine Tri.enter (bx := [(b, 83, w3 (sumM S))]) (hp := []) Tryd.func37 rfl (by kernel_rfl) rfl hown ?_
  simp only [inK] at hx hy
  have hp := mulN_bnd hx hy
  have hs := @mul_signs x y
  have hC1 : ∀ {bx : Bx} {hp : List Seg}, CallOb Tryd.prog ⟨w, kys [(b, 83, w3 (sumM S))] []⟩ bx hp 71 [.int .i64 x] (.int .u64 (x.natAbs : Int)) := fun {_ _} w' _ => Tryd.size_w _ (by simp only [inK]; omega) w'
  have hC2 : ∀ {bx : Bx} {hp : List Seg}, CallOb Tryd.prog ⟨w, kys [(b, 83, w3 (sumM S))] []⟩ bx hp 71 [.int .i64 y] (.int .u64 (y.natAbs : Int)) := fun {_ _} w' _ => Tryd.size_w _ (by simp only [inK]; omega) w'
  have hC3 : ∀ {bx : Bx} {hp : List Seg}, CallOb Tryd.prog ⟨w, kys [(b, 83, w3 (sumM S))] []⟩ bx hp 70 [.int .u64 (x.natAbs : Int), .int .u64 (y.natAbs : Int)] (.tuple #[.int .u64 ((x.natAbs * y.natAbs / 18446744073709551616 : Nat) : Int), .int .u64 ((x.natAbs * y.natAbs % 18446744073709551616 : Nat) : Int)]) := fun {_ _} w' _ => Tryd.mul64_w _ _ (by omega) (by omega) w'
  obtain ⟨p, hpe⟩ : ∃ p, x.natAbs * y.natAbs = p := ⟨_, rfl⟩
  rw [hpe] at hp hC3 hs
  have hN : ∀ {bx : Bx} {hp : List Seg}, CallOb Tryd.prog ⟨w, kys [(b, 83, w3 (sumM S))] []⟩ bx hp 72 [.agg ⟨[.int .u64 ((p % 18446744073709551616 : Nat) : Int), .int .u64 ((p / 18446744073709551616 : Nat) : Int), .int .u64 0]⟩] (.agg ⟨w3 ((6277101735386680763835789423207666416102355444464034512896 - p) % 6277101735386680763835789423207666416102355444464034512896)⟩) := fun {_ _} w' _ => by rw [w3_small hp]; exact Tryd.neg_w p (by omega) w'
  have hA : ∀ {bx : Bx} {hp : List Seg}, nth bx 1 = some (b, 83, w3 (sumM S)) → x * y = p → CallU Tryd.prog ⟨w, kys [(b, 83, w3 (sumM S))] []⟩ bx hp 73 [.pointer (some ⟨b, 0, none⟩), .agg ⟨[.int .u64 ((p % 18446744073709551616 : Nat) : Int), .int .u64 ((p / 18446744073709551616 : Nat) : Int), .int .u64 0]⟩] (.tuple #[]) (b, 83, w3 (sumM (S + x * y))) := fun {_ _} hb h w' hw' => by
    rw [w3_small hp, ← sumM_mul hp h]; exact Tryd.add_w b _ p (sumM_lt S) (by omega) w' (hw'.own1 1 hb)
  have hAn : ∀ {bx : Bx} {hp : List Seg}, nth bx 1 = some (b, 83, w3 (sumM S)) → x * y = -p → CallU Tryd.prog ⟨w, kys [(b, 83, w3 (sumM S))] []⟩ bx hp 73 [.pointer (some ⟨b, 0, none⟩), .agg ⟨w3 ((6277101735386680763835789423207666416102355444464034512896 - p) % 6277101735386680763835789423207666416102355444464034512896)⟩] (.tuple #[]) (b, 83, w3 (sumM (S + x * y))) := fun {_ _} hb h w' hw' => by
    rw [← sumM_muln hp h]; exact Tryd.add_w b _ _ (sumM_lt S) (by omega) w' (hw'.own1 1 hb)
  by_cases c1 : x < 0
  · by_cases c2 : y < 0
    · refine At.go [false] [hC (.int .u64 ↑x.natAbs), hC (.int .u64 ↑y.natAbs), hC (.tuple ⟨[.int .u64 ↑(p.div 18446744073709551616), .int .u64 ↑(p.mod 18446744073709551616)]⟩)] rfl (by and_intros <;> first | exact hC1 | exact hC2 | exact hC3 | (simp [c1, c2]; done) | exact hA rfl (hs.1 c1 c2) | exact oK) ?_
      refine At.al fun b8 hb8 => ?_
      refine At.go [false] [hB 0, hB 0, hU (.tuple ⟨[]⟩) 1 (w3 (sumM (S + x * y)))] rfl (by and_intros <;> first | exact hC1 | exact hC2 | exact hC3 | (simp [c1, c2]; done) | exact hA rfl (hs.1 c1 c2) | exact oK) ?_
      refine At.rt [false, true] [] [] Tryd.func37 ?_
      exact ⟨rfl, rfl, rfl⟩
    · refine At.go [false] [hC (.int .u64 ↑x.natAbs), hC (.int .u64 ↑y.natAbs), hC (.tuple ⟨[.int .u64 ↑(p.div 18446744073709551616), .int .u64 ↑(p.mod 18446744073709551616)]⟩)] rfl (by and_intros <;> first | exact hC1 | exact hC2 | exact hC3 | exact hN | (simp [c1, c2]; done) | exact hAn rfl (hs.2.2.1 c1 c2) | exact oK) ?_
      refine At.al fun b8 hb8 => ?_
      refine At.go [true] [hB 0, hB 0, hC (.agg ⟨[.int .u64 ↑(((6277101735386680763835789423207666416102355444464034512896 - p) % 6277101735386680763835789423207666416102355444464034512896).mod 18446744073709551616), .int .u64 ↑(((6277101735386680763835789423207666416102355444464034512896 - p) % 6277101735386680763835789423207666416102355444464034512896 / 18446744073709551616).mod 18446744073709551616), .int .u64 ↑(((6277101735386680763835789423207666416102355444464034512896 - p) % 6277101735386680763835789423207666416102355444464034512896 / 340282366920938463463374607431768211456).mod 18446744073709551616)]⟩), hB 0, hB 0, hU (.tuple ⟨[]⟩) 1 (w3 (sumM (S + x * y)))] rfl (by and_intros <;> first | exact hC1 | exact hC2 | exact hC3 | exact hN | (simp [c1, c2]; done) | exact hAn rfl (hs.2.2.1 c1 c2) | exact oK) ?_
      refine At.rt [false, true] [] [] Tryd.func37 ?_
      exact ⟨rfl, rfl, rfl⟩
  · by_cases c2 : y < 0
    · refine At.go [false] [hC (.int .u64 ↑x.natAbs), hC (.int .u64 ↑y.natAbs), hC (.tuple ⟨[.int .u64 ↑(p.div 18446744073709551616), .int .u64 ↑(p.mod 18446744073709551616)]⟩)] rfl (by and_intros <;> first | exact hC1 | exact hC2 | exact hC3 | exact hN | (simp [c1, c2]; done) | exact hAn rfl (hs.2.2.2 c1 c2) | exact oK) ?_
      refine At.al fun b8 hb8 => ?_
      refine At.go [true] [hB 0, hB 0, hC (.agg ⟨[.int .u64 ↑(((6277101735386680763835789423207666416102355444464034512896 - p) % 6277101735386680763835789423207666416102355444464034512896).mod 18446744073709551616), .int .u64 ↑(((6277101735386680763835789423207666416102355444464034512896 - p) % 6277101735386680763835789423207666416102355444464034512896 / 18446744073709551616).mod 18446744073709551616), .int .u64 ↑(((6277101735386680763835789423207666416102355444464034512896 - p) % 6277101735386680763835789423207666416102355444464034512896 / 340282366920938463463374607431768211456).mod 18446744073709551616)]⟩), hB 0, hB 0, hU (.tuple ⟨[]⟩) 1 (w3 (sumM (S + x * y)))] rfl (by and_intros <;> first | exact hC1 | exact hC2 | exact hC3 | exact hN | (simp [c1, c2]; done) | exact hAn rfl (hs.2.2.2 c1 c2) | exact oK) ?_
      refine At.rt [false, true] [] [] Tryd.func37 ?_
      exact ⟨rfl, rfl, rfl⟩
    · refine At.go [false] [hC (.int .u64 ↑x.natAbs), hC (.int .u64 ↑y.natAbs), hC (.tuple ⟨[.int .u64 ↑(p.div 18446744073709551616), .int .u64 ↑(p.mod 18446744073709551616)]⟩)] rfl (by and_intros <;> first | exact hC1 | exact hC2 | exact hC3 | (simp [c1, c2]; done) | exact hA rfl (hs.2.1 c1 c2) | exact oK) ?_
      refine At.al fun b8 hb8 => ?_
      refine At.go [false] [hB 0, hB 0, hU (.tuple ⟨[]⟩) 1 (w3 (sumM (S + x * y)))] rfl (by and_intros <;> first | exact hC1 | exact hC2 | exact hC3 | (simp [c1, c2]; done) | exact hA rfl (hs.2.1 c1 c2) | exact oK) ?_
      refine At.rt [false, true] [] [] Tryd.func37 ?_
      exact ⟨rfl, rfl, rfl⟩

theorem Tryd.Add_w (b : Nat) (S x : Int) (hx : inK .i64 x) (w : World) (hown : Own [(b, 83, w3 (sumM S))] [] w) :
    FunU Tryd.prog 36 [.pointer (some ⟨b, 0, none⟩), .int .i64 x] w (.tuple #[]) (b, 83, w3 (sumM (S + x))) := by
  refine Tri.enter (bx := [(b, 83, w3 (sumM S))]) (hp := []) Tryd.func36 rfl (by kernel_rfl) rfl hown ?_
  have hA : ∀ {bx : Bx} {hp : List Seg}, nth bx 0 = some (b, 83, w3 (sumM S)) → CallU Tryd.prog ⟨w, kys [(b, 83, w3 (sumM S))] []⟩ bx hp 37 [.pointer (some ⟨b, 0, none⟩), .int .i64 x, .int .i64 1] (.tuple #[]) (b, 83, w3 (sumM (S + x))) := fun {_ _} hb w' hw' => by
    have := Tryd.addMul_w b S x 1 hx (by simp [inK]) w' (hw'.own1 0 hb)
    rw [Int.mul_one] at this; exact this
  refine At.go [] [hU (.tuple ⟨[]⟩) 0 (w3 (sumM (S + x)))] rfl (by and_intros <;> first | exact hA rfl | exact oK) ?_
  refine At.rt [true] [] [] Tryd.func36 ?_
  exact ⟨rfl, rfl, rfl⟩
theorem Tryd.Total_w (b : Nat) (S : Int) (hS : BigS S) (w : World) (hb : w.heap[b]? = some (.cells (w3 (sumM S)).toArray 83 (0, 0))) :
    Fun Tryd.prog 40 [.pointer (some ⟨b, 0, none⟩)] w (.tuple #[.int .i64 (totS S).1, .bool (totS S).2]) := by
  obtain ⟨x, y, z, hx, hy, hz, em, hw⟩ := w3_ex (sumM_lt S)
  rw [hw] at hb
  refine Tri.enter (bx := []) (hp := []) Tryd.func40 rfl (by kernel_rfl) rfl (Own.nil w) ?_
  have r0 : ∀ {bx : Bx} {hp : List Seg}, RdW ⟨w, kys [] []⟩ bx hp b (0 + 0 + (0 : Int).toNat * 1) [.int .u64 x] := fun {_ _} => RdW.blkB1 (by simp [kys]) hb rfl
  have r1 : ∀ {bx : Bx} {hp : List Seg}, RdW ⟨w, kys [] []⟩ bx hp b (0 + 0 + (1 : Int).toNat * 1) [.int .u64 y] := fun {_ _} => RdW.blkB1 (by simp [kys]) hb rfl
  have r2 : ∀ {bx : Bx} {hp : List Seg}, RdW ⟨w, kys [] []⟩ bx hp b (0 + 0 + (2 : Int).toNat * 1) [.int .u64 z] := fun {_ _} => RdW.blkB1 (by simp [kys]) hb rfl
  by_cases h0 : x < 9223372036854775808
  · have hwr : IntKind.i64.wrap x = x := by rw [wrap_i64]; omega
    rw [tot_pos hS em ⟨hx.1, h0⟩ hy hz]
    by_cases h1 : y = 0
    · by_cases h2 : z = 0
      · refine At.gw [false, false, false, false] [hR [.int .u64 x], hR [.int .u64 y], hR [.int .u64 z]] rfl (by and_intros <;> first | exact r0 | exact r1 | exact r2 | (simp [hwr, h1, h2]; done) | (simp [hwr, h1, h2]; omega) | exact oK) ?_
        refine At.rt [] [] [] Tryd.func40 ?_
        exact ⟨by rw [hwr, if_pos ⟨h1, h2⟩]; rfl, rfl, rfl⟩
      · refine At.gw [false, false, false, true] [hR [.int .u64 x], hR [.int .u64 y], hR [.int .u64 z]] rfl (by and_intros <;> first | exact r0 | exact r1 | exact r2 | (simp [hwr, h1, h2]; done) | (simp [hwr, h1, h2]; omega) | exact oK) ?_
        refine At.rt [] [] [] Tryd.func40 ?_
        exact ⟨by rw [if_neg fun h => h2 h.2]; rfl, rfl, rfl⟩
    · refine At.gw [false, false, true, true] [hR [.int .u64 x], hR [.int .u64 y]] rfl (by and_intros <;> first | exact r0 | exact r1 | exact r2 | (simp [hwr, h1]; done) | (simp [hwr, h1]; omega) | exact oK) ?_
      refine At.rt [] [] [] Tryd.func40 ?_
      exact ⟨by rw [if_neg fun h => h1 h.1]; rfl, rfl, rfl⟩
  · have hwr : IntKind.i64.wrap x = x - 18446744073709551616 := by rw [wrap_i64]; omega
    rw [tot_neg hS em ⟨by omega, hx.2⟩ hy hz]
    by_cases h1 : y = 18446744073709551615
    · by_cases h2 : z = 18446744073709551615
      · refine At.gw [false, true, false, false] [hR [.int .u64 x], hR [.int .u64 y], hR [.int .u64 z]] rfl (by and_intros <;> first | exact r0 | exact r1 | exact r2 | (simp [hwr, h1, h2]; done) | (simp [hwr, h1, h2]; omega) | exact oK) ?_
        refine At.rt [] [] [] Tryd.func40 ?_
        exact ⟨by rw [hwr, if_pos ⟨h1, h2⟩]; rfl, rfl, rfl⟩
      · refine At.gw [false, true, false, true] [hR [.int .u64 x], hR [.int .u64 y], hR [.int .u64 z]] rfl (by and_intros <;> first | exact r0 | exact r1 | exact r2 | (simp [hwr, h1, h2]; done) | (simp [hwr, h1, h2]; omega) | exact oK) ?_
        refine At.rt [] [] [] Tryd.func40 ?_
        exact ⟨by rw [if_neg fun h => h2 h.2]; rfl, rfl, rfl⟩
    · refine At.gw [false, true, true, true] [hR [.int .u64 x], hR [.int .u64 y]] rfl (by and_intros <;> first | exact r0 | exact r1 | exact r2 | (simp [hwr, h1]; done) | (simp [hwr, h1]; omega) | exact oK) ?_
      refine At.rt [] [] [] Tryd.func40 ?_
      exact ⟨by rw [if_neg fun h => h1 h.1]; rfl, rfl, rfl⟩

end Go.Proofs

/-
  Walks of layer 5: money's sums, that lie side by side in one block.
-/
namespace Go.Proofs
open Go Go.Eng
set_option maxRecDepth 100000
set_option maxHeartbeats 4000000
attribute [local irreducible] Tri

theorem Tryd.addP_w (b tt : Nat) (p0 p1 p2 : Value) (m n : Nat) (hm : m < 6277101735386680763835789423207666416102355444464034512896) (hn : n < 6277101735386680763835789423207666416102355444464034512896) (w : World) (hown : Own [(b, tt, w3 m  ++ [p0, p1, p2])] [] w) :
    FunU Tryd.prog 73 [.pointer (some ⟨b, 0, none⟩), .agg ⟨w3 n⟩] w (.tuple #[]) (b, tt, w3 ((m + n) % 6277101735386680763835789423207666416102355444464034512896)  ++ [p0, p1, p2]) := by
  obtain ⟨x, y, z, hx, hy, hz, em, hw⟩ := w3_ex hm
  obtain ⟨x', y', z', hx', hy', hz', en, hw'⟩ := w3_ex hn
  rw [hw] at hown
  rw [hw']
  obtain ⟨s0, k0, hs0, hk0, he0, A0⟩ := Tryd.add64_e x x' 0 hx hx' (by omega)
  obtain ⟨s1, k1, hs1, hk1, he1, A1⟩ := Tryd.add64_e y y' k0 hy hy' hk0
  obtain ⟨s2, k2, hs2, hk2, he2, A2⟩ := Tryd.add64_e z z' k1 hz hz' hk1
  have hT : s0 + 18446744073709551616 * s1 + 340282366920938463463374607431768211456 * s2 = m + n - 6277101735386680763835789423207666416102355444464034512896 * k2 := add_lin em en he0 he1 he2
  refine Tri.enter (bx := [(b, tt, [.int .u64 x, .int .u64 y, .int .u64 z, p0, p1, p2])]) (hp := []) Tryd.func73 rfl (by kernel_rfl) rfl hown ?_
  refine At.go [] [] rfl oK ?_
  refine At.bo fun b3 hb3 => ?_
  refine At.go [] [] rfl oK ?_
  refine At.unr ?_
  refine At.go [true] [] rfl (by and_intros <;> first | exact fun w' _ => A0 w' | exact oK) ?_
  refine At.dr 21 ?_
  refine AtD.pu [0, 1, 2, 3, 8, 11] 15 rfl (by and_intros <;> first | exact fun w' _ => A0 w' | exact oK) ?_
  refine AtD.pu [4, 9, 16] 12 rfl (by and_intros <;> first | exact fun w' _ => A0 w' | exact oK) ?_
  refine AtD.pu [5, 17] 10 rfl (by and_intros <;> first | exact fun w' _ => A0 w' | exact oK) ?_
  refine AtD.pu [6] 9 rfl (by and_intros <;> first | exact fun w' _ => A0 w' | exact oK) ?_
  refine AtD.lx [7, 10] 7 [] [hB 1, hB 0] rfl (by and_intros <;> first | exact fun w' _ => A0 w' | exact oK) ?_
  refine AtD.f1 12 [] [] [hX (.tuple ⟨[.int .u64 s0, .int .u64 k0]⟩)] rfl rfl rfl (by and_intros <;> first | exact fun w' _ => A0 w' | exact oK) (by and_intros <;> first | exact fun w' _ => A0 w' | exact oK) ?_
  refine AtD.pu [13] 5 rfl (by and_intros <;> first | exact fun w' _ => A0 w' | exact oK) ?_
  refine AtD.pu [14, 15] 3 rfl (by and_intros <;> first | exact fun w' _ => A0 w' | exact oK) ?_
  refine AtD.pu [18] 2 rfl (by and_intros <;> first | exact fun w' _ => A0 w' | exact oK) ?_
  refine AtD.f1 19 [] [] [hB 1] rfl rfl rfl (by and_intros <;> first | exact fun w' _ => A0 w' | exact oK) (by and_intros <;> first | exact fun w' _ => A0 w' | exact oK) ?_
  refine AtD.pu [20] 0 rfl (by and_intros <;> first | exact fun w' _ => A0 w' | exact oK) ?_
  refine AtD.dn ?_
  refine At.go [] [] rfl (by and_intros <;> first | exact fun w' _ => A0 w' | exact oK) ?_
  refine At.una ?_
  refine At.go [true] [] rfl (by and_intros <;> first | exact fun w' _ => A1 w' | exact oK) ?_
  refine At.dr 21 ?_
  refine AtD.pu [0, 1, 2, 3, 8, 11] 15 rfl (by and_intros <;> first | exact fun w' _ => A1 w' | exact oK) ?_
  refine AtD.pu [4, 9, 16] 12 rfl (by and_intros <;> first | exact fun w' _ => A1 w' | exact oK) ?_
  refine AtD.pu [5, 17] 10 rfl (by and_intros <;> first | exact fun w' _ => A1 w' | exact oK) ?_
  refine AtD.pu [6] 9 rfl (by and_intros <;> first | exact fun w' _ => A1 w' | exact oK) ?_
  refine AtD.lx [7, 10] 7 [] [hB 1, hB 0] rfl (by and_intros <;> first | exact fun w' _ => A1 w' | exact oK) ?_
  refine AtD.f1 12 [] [] [hX (.tuple ⟨[.int .u64 s1, .int .u64 k1]⟩)] rfl rfl rfl (by and_intros <;> first | exact fun w' _ => A1 w' | exact oK) (by and_intros <;> first | exact fun w' _ => A1 w' | exact oK) ?_
  refine AtD.pu [13] 5 rfl (by and_intros <;> first | exact fun w' _ => A1 w' | exact oK) ?_
  refine AtD.pu [14, 15] 3 rfl (by and_intros <;> first | exact fun w' _ => A1 w' | exact oK) ?_
  refine AtD.pu [18] 2 rfl (by and_intros <;> first | exact fun w' _ => A1 w' | exact oK) ?_
  refine AtD.f1 19 [] [] [hB 1] rfl rfl rfl (by and_intros <;> first | exact fun w' _ => A1 w' | exact oK) (by and_intros <;> first | exact fun w' _ => A1 w' | exact oK) ?_
  refine AtD.pu [20] 0 rfl (by and_intros <;> first | exact fun w' _ => A1 w' | exact oK) ?_
  refine AtD.dn ?_
  refine At.go [] [] rfl (by and_intros <;> first | exact fun w' _ => A1 w' | exact oK) ?_
  refine At.una ?_
  refine At.go [true] [] rfl (by and_intros <;> first | exact fun w' _ => A2 w' | exact oK) ?_
  refine At.dr 21 ?_
  refine AtD.pu [0, 1, 2, 3, 8, 11] 15 rfl (by and_intros <;> first | exact fun w' _ => A2 w' | exact oK) ?_
  refine AtD.pu [4, 9, 16] 12 rfl (by and_intros <;> first | exact fun w' _ => A2 w' | exact oK) ?_
  refine AtD.pu [5, 17] 10 rfl (by and_intros <;> first | exact fun w' _ => A2 w' | exact oK) ?_
  refine AtD.pu [6] 9 rfl (by and_intros <;> first | exact fun w' _ => A2 w' | exact oK) ?_
  refine AtD.lx [7, 10] 7 [] [hB 1, hB 0] rfl (by and_intros <;> first | exact fun w' _ => A2 w' | exact oK) ?_
  refine AtD.f1 12 [] [] [hX (.tuple ⟨[.int .u64 s2, .int .u64 k2]⟩)] rfl rfl rfl (by and_intros <;> first | exact fun w' _ => A2 w' | exact oK) (by and_intros <;> first | exact fun w' _ => A2 w' | exact oK) ?_
  refine AtD.pu [13] 5 rfl (by and_intros <;> first | exact fun w' _ => A2 w' | exact oK) ?_
  refine AtD.pu [14, 15] 3 rfl (by and_intros <;> first | exact fun w' _ => A2 w' | exact oK) ?_
  refine AtD.pu [18] 2 rfl (by and_intros <;> first | exact fun w' _ => A2 w' | exact oK) ?_
  refine AtD.f1 19 [] [] [hB 1] rfl rfl rfl (by and_intros <;> first | exact fun w' _ => A2 w' | exact oK) (by and_intros <;> first | exact fun w' _ => A2 w' | exact oK) ?_
  refine AtD.pu [20] 0 rfl (by and_intros <;> first | exact fun w' _ => A2 w' | exact oK) ?_
  refine AtD.dn ?_
  refine At.go [] [] rfl (by and_intros <;> first | exact fun w' _ => A2 w' | exact oK) ?_
  refine At.una ?_
  refine At.go [false] [] rfl oK ?_
  refine At.rt [false, true] [] [] Tryd.func73 ?_
  exact ⟨rfl, by rw [← w3_of hs0 hs1 hs2 (add_fin (k := k2) hT (w3_rng hs0 hs1 hs2))] <;> rfl, rfl⟩
theorem Tryd.addMulP_w (b tt : Nat) (p0 p1 p2 : Value) (S x y : Int) (hx : inK .i64 x) (hy : inK .i64 y) (w : World) (hown : Own [(b, tt, w3 (sumM S)  ++ [p0, p1, p2])] [] w) :
    FunU Tryd.prog 37 [.pointer (some ⟨b, 0, none⟩), .int .i64 x, .int .i64 y] w (.tuple #[]) (b, tt, w3 (sumM (S + x * y))  ++ [p0, p1, p2]) := by
  refine Tri.enter (bx := [(b, tt, w3 (sumM S)  ++ [p0, p1, p2])]) (hp := []) Tryd.func37 rfl (by kernel_rfl) rfl hown ?_
  simp only [inK] at hx hy
  have hp := mulN_bnd hx hy
  have hs := @mul_signs x y
  have hC1 : ∀ {bx : Bx} {hp : List Seg}, CallOb Tryd.prog ⟨w, kys [(b, tt, w3 (sumM S)  ++ [p0, p1, p2])] []⟩ bx hp 71 [.int .i64 x] (.int .u64 (x.natAbs : Int)) := fun {_ _} w' _ => Tryd.size_w _ (by simp only [inK]; omega) w'
  have hC2 : ∀ {bx : Bx} {hp : List Seg}, CallOb Tryd.prog ⟨w, kys [(b, tt, w3 (sumM S)  ++ [p0, p1, p2])] []⟩ bx hp 71 [.int .i64 y] (.int .u64 (y.natAbs : Int)) := fun {_ _} w' _ => Tryd.size_w _ (by simp only [inK]; omega) w'
  have hC3 : ∀ {bx : Bx} {hp : List Seg}, CallOb Tryd.prog ⟨w, kys [(b, tt, w3 (sumM S)  ++ [p0, p1, p2])] []⟩ bx hp 70 [.int .u64 (x.natAbs : Int), .int .u64 (y.natAbs : Int)] (.tuple #[.int .u64 ((x.natAbs * y.natAbs / 18446744073709551616 : Nat) : Int), .int .u64 ((x.natAbs * y.natAbs % 18446744073709551616 : Nat) : Int)]) := fun {_ _} w' _ => Tryd.mul64_w _ _ (by omega) (by omega) w'
  obtain ⟨p, hpe⟩ : ∃ p, x.natAbs * y.natAbs = p := ⟨_, rfl⟩
  rw [hpe] at hp hC3 hs
  have hN : ∀ {bx : Bx} {hp : List Seg}, CallOb Tryd.prog ⟨w, kys [(b, tt, w3 (sumM S)  ++ [p0, p1, p2])] []⟩ bx hp 72 [.agg ⟨[.int .u64 ((p % 18446744073709551616 : Nat) : Int), .int .u64 ((p / 18446744073709551616 : Nat) : Int), .int .u64 0]⟩] (.agg ⟨w3 ((6277101735386680763835789423207666416102355444464034512896 - p) % 6277101735386680763835789423207666416102355444464034512896)⟩) := fun {_ _} w' _ => by rw [w3_small hp]; exact Tryd.neg_w p (by omega) w'
  have hA : ∀ {bx : Bx} {hp : List Seg}, nth bx 1 = some (b, tt, w3 (sumM S)  ++ [p0, p1, p2]) → x * y = p → CallU Tryd.prog ⟨w, kys [(b, tt, w3 (sumM S)  ++ [p0, p1, p2])] []⟩ bx hp 73 [.pointer (some ⟨b, 0, none⟩), .agg ⟨[.int .u64 ((p % 18446744073709551616 : Nat) : Int), .int .u64 ((p / 18446744073709551616 : Nat) : Int), .int .u64 0]⟩] (.tuple #[]) (b, tt, w3 (sumM (S + x * y))  ++ [p0, p1, p2]) := fun {_ _} hb h w' hw' => by
    rw [w3_small hp, ← sumM_mul hp h]; exact Tryd.addP_w b tt p0 p1 p2 _ p (sumM_lt S) (by omega) w' (hw'.own1 1 hb)
  have hAn : ∀ {bx : Bx} {hp : List Seg}, nth bx 1 = some (b, tt, w3 (sumM S)  ++ [p0, p1, p2]) → x * y = -p → CallU Tryd.prog ⟨w, kys [(b, tt, w3 (sumM S)  ++ [p0, p1, p2])] []⟩ bx hp 73 [.pointer (some ⟨b, 0, none⟩), .agg ⟨w3 ((6277101735386680763835789423207666416102355444464034512896 - p) % 6277101735386680763835789423207666416102355444464034512896)⟩] (.tuple #[]) (b, tt, w3 (sumM (S + x * y))  ++ [p0, p1, p2]) := fun {_ _} hb h w' hw' => by
    rw [← sumM_muln hp h]; exact Tryd.addP_w b tt p0 p1 p2 _ _ (sumM_lt S) (by omega) w' (hw'.own1 1 hb)
  by_cases c1 : x < 0
  · by_cases c2 : y < 0
    · refine At.go [false] [hC (.int .u64 ↑x.natAbs), hC (.int .u64 ↑y.natAbs), hC (.tuple ⟨[.int .u64 ↑(p.div 18446744073709551616), .int .u64 ↑(p.mod 18446744073709551616)]⟩)] rfl (by and_intros <;> first | exact hC1 | exact hC2 | exact hC3 | (simp [c1, c2]; done) | exact hA rfl (hs.1 c1 c2) | exact oK) ?_
      refine At.al fun b8 hb8 => ?_
      refine At.go [false] [hB 0, hB 0, hU (.tuple ⟨[]⟩) 1 (w3 (sumM (S + x * y))  ++ [p0, p1, p2])] rfl (by and_intros <;> first | exact hC1 | exact hC2 | exact hC3 | (simp [c1, c2]; done) | exact hA rfl (hs.1 c1 c2) | exact oK) ?_
      refine At.rt [false, true] [] [] Tryd.func37 ?_
      exact ⟨rfl, rfl, rfl⟩
    · refine At.go [false] [hC (.int .u64 ↑x.natAbs), hC (.int .u64 ↑y.natAbs), hC (.tuple ⟨[.int .u64 ↑(p.div 18446744073709551616), .int .u64 ↑(p.mod 18446744073709551616)]⟩)] rfl (by and_intros <;> first | exact hC1 | exact hC2 | exact hC3 | exact hN | (simp [c1, c2]; done) | exact hAn rfl (hs.2.2.1 c1 c2) | exact oK) ?_
      refine At.al fun b8 hb8 => ?_
      refine At.go [true] [hB 0, hB 0, hC (.agg ⟨[.int .u64 ↑(((6277101735386680763835789423207666416102355444464034512896 - p) % 6277101735386680763835789423207666416102355444464034512896).mod 18446744073709551616), .int .u64 ↑(((6277101735386680763835789423207666416102355444464034512896 - p) % 6277101735386680763835789423207666416102355444464034512896 / 18446744073709551616).mod 18446744073709551616), .int .u64 ↑(((6277101735386680763835789423207666416102355444464034512896 - p) % 6277101735386680763835789423207666416102355444464034512896 / 340282366920938463463374607431768211456).mod 18446744073709551616)]⟩), hB 0, hB 0, hU (.tuple ⟨[]⟩) 1 (w3 (sumM (S + x * y))  ++ [p0, p1, p2])] rfl (by and_intros <;> first | exact hC1 | exact hC2 | exact hC3 | exact hN | (simp [c1, c2]; done) | exact hAn rfl (hs.2.2.1 c1 c2) | exact oK) ?_
      refine At.rt [false, true] [] [] Tryd.func37 ?_
      exact ⟨rfl, rfl, rfl⟩
  · by_cases c2 : y < 0
    · refine At.go [false] [hC (.int .u64 ↑x.natAbs), hC (.int .u64 ↑y.natAbs), hC (.tuple ⟨[.int .u64 ↑(p.div 18446744073709551616), .int .u64 ↑(p.mod 18446744073709551616)]⟩)] rfl (by and_intros <;> first | exact hC1 | exact hC2 | exact hC3 | exact hN | (simp [c1, c2]; done) | exact hAn rfl (hs.2.2.2 c1 c2) | exact oK) ?_
      refine At.al fun b8 hb8 => ?_
      refine At.go [true] [hB 0, hB 0, hC (.agg ⟨[.int .u64 ↑(((6277101735386680763835789423207666416102355444464034512896 - p) % 6277101735386680763835789423207666416102355444464034512896).mod 18446744073709551616), .int .u64 ↑(((6277101735386680763835789423207666416102355444464034512896 - p) % 6277101735386680763835789423207666416102355444464034512896 / 18446744073709551616).mod 18446744073709551616), .int .u64 ↑(((6277101735386680763835789423207666416102355444464034512896 - p) % 6277101735386680763835789423207666416102355444464034512896 / 340282366920938463463374607431768211456).mod 18446744073709551616)]⟩), hB 0, hB 0, hU (.tuple ⟨[]⟩) 1 (w3 (sumM (S + x * y))  ++ [p0, p1, p2])] rfl (by and_intros <;> first | exact hC1 | exact hC2 | exact hC3 | exact hN | (simp [c1, c2]; done) | exact hAn rfl (hs.2.2.2 c1 c2) | exact oK) ?_
      refine At.rt [false, true] [] [] Tryd.func37 ?_
      exact ⟨rfl, rfl, rfl⟩
    · refine At.go [false] [hC (.int .u64 ↑x.natAbs), hC (.int .u64 ↑y.natAbs), hC (.tuple ⟨[.int .u64 ↑(p.div 18446744073709551616), .int .u64 ↑(p.mod 18446744073709551616)]⟩)] rfl (by and_intros <;> first | exact hC1 | exact hC2 | exact hC3 | (simp [c1, c2]; done) | exact hA rfl (hs.2.1 c1 c2) | exact oK) ?_
      refine At.al fun b8 hb8 => ?_
      refine At.go [false] [hB 0, hB 0, hU (.tuple ⟨[]⟩) 1 (w3 (sumM (S + x * y))  ++ [p0, p1, p2])] rfl (by and_intros <;> first | exact hC1 | exact hC2 | exact hC3 | (simp [c1, c2]; done) | exact hA rfl (hs.2.1 c1 c2) | exact oK) ?_
      refine At.rt [false, true] [] [] Tryd.func37 ?_
      exact ⟨rfl, rfl, rfl⟩

theorem Tryd.AddP_w (b tt : Nat) (p0 p1 p2 : Value) (S x : Int) (hx : inK .i64 x) (w : World) (hown : Own [(b, tt, w3 (sumM S)  ++ [p0, p1, p2])] [] w) :
    FunU Tryd.prog 36 [.pointer (some ⟨b, 0, none⟩), .int .i64 x] w (.tuple #[]) (b, tt, w3 (sumM (S + x))  ++ [p0, p1, p2]) := by
  refine Tri.enter (bx := [(b, tt, w3 (sumM S)  ++ [p0, p1, p2])]) (hp := []) Tryd.func36 rfl (by kernel_rfl) rfl hown ?_
  have hA : ∀ {bx : Bx} {hp : List Seg}, nth bx 0 = some (b, tt, w3 (sumM S)  ++ [p0, p1, p2]) → CallU Tryd.prog ⟨w, kys [(b, tt, w3 (sumM S)  ++ [p0, p1, p2])] []⟩ bx hp 37 [.pointer (some ⟨b, 0, none⟩), .int .i64 x, .int .i64 1] (.tuple #[]) (b, tt, w3 (sumM (S + x))  ++ [p0, p1, p2]) := fun {_ _} hb w' hw' => by
    have := Tryd.addMulP_w b tt p0 p1 p2 S x 1 hx (by simp [inK]) w' (hw'.own1 0 hb)
    rw [Int.mul_one] at this; exact this
  refine At.go [] [hU (.tuple ⟨[]⟩) 0 (w3 (sumM (S + x))  ++ [p0, p1, p2])] rfl (by and_intros <;> first | exact hA rfl | exact oK) ?_
  refine At.rt [true] [] [] Tryd.func36 ?_
  exact ⟨rfl, rfl, rfl⟩
theorem Tryd.TotalP_w (b tt : Nat) (p0 p1 p2 : Value) (S : Int) (hS : BigS S) (w : World) (hb : w.heap[b]? = some (.cells (w3 (sumM S)  ++ [p0, p1, p2]).toArray tt (0, 0))) :
    Fun Tryd.prog 40 [.pointer (some ⟨b, 0, none⟩)] w (.tuple #[.int .i64 (totS S).1, .bool (totS S).2]) := by
  obtain ⟨x, y, z, hx, hy, hz, em, hw⟩ := w3_ex (sumM_lt S)
  rw [hw] at hb
  refine Tri.enter (bx := []) (hp := []) Tryd.func40 rfl (by kernel_rfl) rfl (Own.nil w) ?_
  have r0 : ∀ {bx : Bx} {hp : List Seg}, RdW ⟨w, kys [] []⟩ bx hp b (0 + 0 + (0 : Int).toNat * 1) [.int .u64 x] := fun {_ _} => RdW.blkB1 (by simp [kys]) hb rfl
  have r1 : ∀ {bx : Bx} {hp : List Seg}, RdW ⟨w, kys [] []⟩ bx hp b (0 + 0 + (1 : Int).toNat * 1) [.int .u64 y] := fun {_ _} => RdW.blkB1 (by simp [kys]) hb rfl
  have r2 : ∀ {bx : Bx} {hp : List Seg}, RdW ⟨w, kys [] []⟩ bx hp b (0 + 0 + (2 : Int).toNat * 1) [.int .u64 z] := fun {_ _} => RdW.blkB1 (by simp [kys]) hb rfl
  by_cases h0 : x < 9223372036854775808
  · have hwr : IntKind.i64.wrap x = x := by rw [wrap_i64]; omega
    rw [tot_pos hS em ⟨hx.1, h0⟩ hy hz]
    by_cases h1 : y = 0
    · by_cases h2 : z = 0
      · refine At.gw [false, false, false, false] [hR [.int .u64 x], hR [.int .u64 y], hR [.int .u64 z]] rfl (by and_intros <;> first | exact r0 | exact r1 | exact r2 | (simp [hwr, h1, h2]; done) | (simp [hwr, h1, h2]; omega) | exact oK) ?_
        refine At.rt [] [] [] Tryd.func40 ?_
        exact ⟨by rw [hwr, if_pos ⟨h1, h2⟩]; rfl, rfl, rfl⟩
      · refine At.gw [false, false, false, true] [hR [.int .u64 x], hR [.int .u64 y], hR [.int .u64 z]] rfl (by and_intros <;> first | exact r0 | exact r1 | exact r2 | (simp [hwr, h1, h2]; done) | (simp [hwr, h1, h2]; omega) | exact oK) ?_
        refine At.rt [] [] [] Tryd.func40 ?_
        exact ⟨by rw [if_neg fun h => h2 h.2]; rfl, rfl, rfl⟩
    · refine At.gw [false, false, true, true] [hR [.int .u64 x], hR [.int .u64 y]] rfl (by and_intros <;> first | exact r0 | exact r1 | exact r2 | (simp [hwr, h1]; done) | (simp [hwr, h1]; omega) | exact oK) ?_
      refine At.rt [] [] [] Tryd.func40 ?_
      exact ⟨by rw [if_neg fun h => h1 h.1]; rfl, rfl, rfl⟩
  · have hwr : IntKind.i64.wrap x = x - 18446744073709551616 := by rw [wrap_i64]; omega
    rw [tot_neg hS em ⟨by omega, hx.2⟩ hy hz]
    by_cases h1 : y = 18446744073709551615
    · by_cases h2 : z = 18446744073709551615
      · refine At.gw [false, true, false, false] [hR [.int .u64 x], hR [.int .u64 y], hR [.int .u64 z]] rfl (by and_intros <;> first | exact r0 | exact r1 | exact r2 | (simp [hwr, h1, h2]; done) | (simp [hwr, h1, h2]; omega) | exact oK) ?_
        refine At.rt [] [] [] Tryd.func40 ?_
        exact ⟨by rw [hwr, if_pos ⟨h1, h2⟩]; rfl, rfl, rfl⟩
      · refine At.gw [false, true, false, true] [hR [.int .u64 x], hR [.int .u64 y], hR [.int .u64 z]] rfl (by and_intros <;> first | exact r0 | exact r1 | exact r2 | (simp [hwr, h1, h2]; done) | (simp [hwr, h1, h2]; omega) | exact oK) ?_
        refine At.rt [] [] [] Tryd.func40 ?_
        exact ⟨by rw [if_neg fun h => h2 h.2]; rfl, rfl, rfl⟩
    · refine At.gw [false, true, true, true] [hR [.int .u64 x], hR [.int .u64 y]] rfl (by and_intros <;> first | exact r0 | exact r1 | exact r2 | (simp [hwr, h1]; done) | (simp [hwr, h1]; omega) | exact oK) ?_
      refine At.rt [] [] [] Tryd.func40 ?_
      exact ⟨by rw [if_neg fun h => h1 h.1]; rfl, rfl, rfl⟩

theorem Tryd.addQ_w (b tt : Nat) (p0 p1 p2 : Value) (m n : Nat) (hm : m < 6277101735386680763835789423207666416102355444464034512896) (hn : n < 6277101735386680763835789423207666416102355444464034512896) (w : World) (hown : Own [(b, tt, p0 :: p1 :: p2 :: w3 m)] [] w) :
    FunU Tryd.prog 73 [.pointer (some ⟨b, 3, none⟩), .agg ⟨w3 n⟩] w (.tuple #[]) (b, tt, p0 :: p1 :: p2 :: w3 ((m + n) % 6277101735386680763835789423207666416102355444464034512896)) := by
  obtain ⟨x, y, z, hx, hy, hz, em, hw⟩ := w3_ex hm
  obtain ⟨x', y', z', hx', hy', hz', en, hw'⟩ := w3_ex hn
  rw [hw] at hown
  rw [hw']
  obtain ⟨s0, k0, hs0, hk0, he0, A0⟩ := Tryd.add64_e x x' 0 hx hx' (by omega)
  obtain ⟨s1, k1, hs1, hk1, he1, A1⟩ := Tryd.add64_e y y' k0 hy hy' hk0
  obtain ⟨s2, k2, hs2, hk2, he2, A2⟩ := Tryd.add64_e z z' k1 hz hz' hk1
  have hT : s0 + 18446744073709551616 * s1 + 340282366920938463463374607431768211456 * s2 = m + n - 6277101735386680763835789423207666416102355444464034512896 * k2 := add_lin em en he0 he1 he2
  refine Tri.enter (bx := [(b, tt, [p0, p1, p2, .int .u64 x, .int .u64 y, .int .u64 z])]) (hp := []) Tryd.func73 rfl (by kernel_rfl) rfl hown ?_
  refine At.go [] [] rfl oK ?_
  refine At.bo fun b3 hb3 => ?_
  refine At.go [] [] rfl oK ?_
  refine At.unr ?_
  refine At.go [true] [] rfl (by and_intros <;> first | exact fun w' _ => A0 w' | exact oK) ?_
  refine At.dr 21 ?_
  refine AtD.pu [0, 1, 2, 3, 8, 11] 15 rfl (by and_intros <;> first | exact fun w' _ => A0 w' | exact oK) ?_
  refine AtD.pu [4, 9, 16] 12 rfl (by and_intros <;> first | exact fun w' _ => A0 w' | exact oK) ?_
  refine AtD.pu [5, 17] 10 rfl (by and_intros <;> first | exact fun w' _ => A0 w' | exact oK) ?_
  refine AtD.pu [6] 9 rfl (by and_intros <;> first | exact fun w' _ => A0 w' | exact oK) ?_
  refine AtD.lx [7, 10] 7 [] [hB 1, hB 0] rfl (by and_intros <;> first | exact fun w' _ => A0 w' | exact oK) ?_
  refine AtD.f1 12 [] [] [hX (.tuple ⟨[.int .u64 s0, .int .u64 k0]⟩)] rfl rfl rfl (by and_intros <;> first | exact fun w' _ => A0 w' | exact oK) (by and_intros <;> first | exact fun w' _ => A0 w' | exact oK) ?_
  refine AtD.pu [13] 5 rfl (by and_intros <;> first | exact fun w' _ => A0 w' | exact oK) ?_
  refine AtD.pu [14, 15] 3 rfl (by and_intros <;> first | exact fun w' _ => A0 w' | exact oK) ?_
  refine AtD.pu [18] 2 rfl (by and_intros <;> first | exact fun w' _ => A0 w' | exact oK) ?_
  refine AtD.f1 19 [] [] [hB 1] rfl rfl rfl (by and_intros <;> first | exact fun w' _ => A0 w' | exact oK) (by and_intros <;> first | exact fun w' _ => A0 w' | exact oK) ?_
  refine AtD.pu [20] 0 rfl (by and_intros <;> first | exact fun w' _ => A0 w' | exact oK) ?_
  refine AtD.dn ?_
  refine At.go [] [] rfl (by and_intros <;> first | exact fun w' _ => A0 w' | exact oK) ?_
  refine At.una ?_
  refine At.go [true] [] rfl (by and_intros <;> first | exact fun w' _ => A1 w' | exact oK) ?_
  refine At.dr 21 ?_
  refine AtD.pu [0, 1, 2, 3, 8, 11] 15 rfl (by and_intros <;> first | exact fun w' _ => A1 w' | exact oK) ?_
  refine AtD.pu [4, 9, 16] 12 rfl (by and_intros <;> first | exact fun w' _ => A1 w' | exact oK) ?_
  refine AtD.pu [5, 17] 10 rfl (by and_intros <;> first | exact fun w' _ => A1 w' | exact oK) ?_
  refine AtD.pu [6] 9 rfl (by and_intros <;> first | exact fun w' _ => A1 w' | exact oK) ?_
  refine AtD.lx [7, 10] 7 [] [hB 1, hB 0] rfl (by and_intros <;> first | exact fun w' _ => A1 w' | exact oK) ?_
  refine AtD.f1 12 [] [] [hX (.tuple ⟨[.int .u64 s1, .int .u64 k1]⟩)] rfl rfl rfl (by and_intros <;> first | exact fun w' _ => A1 w' | exact oK) (by and_intros <;> first | exact fun w' _ => A1 w' | exact oK) ?_
  refine AtD.pu [13] 5 rfl (by and_intros <;> first | exact fun w' _ => A1 w' | exact oK) ?_
  refine AtD.pu [14, 15] 3 rfl (by and_intros <;> first | exact fun w' _ => A1 w' | exact oK) ?_
  refine AtD.pu [18] 2 rfl (by and_intros <;> first | exact fun w' _ => A1 w' | exact oK) ?_
  refine AtD.f1 19 [] [] [hB 1] rfl rfl rfl (by and_intros <;> first | exact fun w' _ => A1 w' | exact oK) (by and_intros <;> first | exact fun w' _ => A1 w' | exact oK) ?_
  refine AtD.pu [20] 0 rfl (by and_intros <;> first | exact fun w' _ => A1 w' | exact oK) ?_
  refine AtD.dn ?_
  refine At.go [] [] rfl (by and_intros <;> first | exact fun w' _ => A1 w' | exact oK) ?_
  refine At.una ?_
  refine At.go [true] [] rfl (by and_intros <;> first | exact fun w' _ => A2 w' | exact oK) ?_
  refine At.dr 21 ?_
  refine AtD.pu [0, 1, 2, 3, 8, 11] 15 rfl (by and_intros <;> first | exact fun w' _ => A2 w' | exact oK) ?_
  refine AtD.pu [4, 9, 16] 12 rfl (by and_intros <;> first | exact fun w' _ => A2 w' | exact oK) ?_
  refine AtD.pu [5, 17] 10 rfl (by and_intros <;> first | exact fun w' _ => A2 w' | exact oK) ?_
  refine AtD.pu [6] 9 rfl (by and_intros <;> first | exact fun w' _ => A2 w' | exact oK) ?_
  refine AtD.lx [7, 10] 7 [] [hB 1, hB 0] rfl (by and_intros <;> first | exact fun w' _ => A2 w' | exact oK) ?_
  refine AtD.f1 12 [] [] [hX (.tuple ⟨[.int .u64 s2, .int .u64 k2]⟩)] rfl rfl rfl (by and_intros <;> first | exact fun w' _ => A2 w' | exact oK) (by and_intros <;> first | exact fun w' _ => A2 w' | exact oK) ?_
  refine AtD.pu [13] 5 rfl (by and_intros <;> first | exact fun w' _ => A2 w' | exact oK) ?_
  refine AtD.pu [14, 15] 3 rfl (by and_intros <;> first | exact fun w' _ => A2 w' | exact oK) ?_
  refine AtD.pu [18] 2 rfl (by and_intros <;> first | exact fun w' _ => A2 w' | exact oK) ?_
  refine AtD.f1 19 [] [] [hB 1] rfl rfl rfl (by and_intros <;> first | exact fun w' _ => A2 w' | exact oK) (by and_intros <;> first | exact fun w' _ => A2 w' | exact oK) ?_
  refine AtD.pu [20] 0 rfl (by and_intros <;> first | exact fun w' _ => A2 w' | exact oK) ?_
  refine AtD.dn ?_
  refine At.go [] [] rfl (by and_intros <;> first | exact fun w' _ => A2 w' | exact oK) ?_
  refine At.una ?_
  refine At.go [false] [] rfl oK ?_
  refine At.rt [false, true] [] [] Tryd.func73 ?_
  exact ⟨rfl, by rw [← w3_of hs0 hs1 hs2 (add_fin (k := k2) hT (w3_rng hs0 hs1 hs2))] <;> rfl, rfl⟩
theorem Tryd.addMulQ_w (b tt : Nat) (p0 p1 p2 : Value) (S x y : Int) (hx : inK .i64 x) (hy : inK .i64 y) (w : World) (hown : Own [(b, tt, p0 :: p1 :: p2 :: w3 (sumM S))] [] w) :
    FunU Tryd.prog 37 [.pointer (some ⟨b, 3, none⟩), .int .i64 x, .int .i64 y] w (.tuple #[]) (b, tt, p0 :: p1 :: p2 :: w3 (sumM (S + x * y))) := by
  refine Tri.enter (bx := [(b, tt, p0 :: p1 :: p2 :: w3 (sumM S))]) (hp := []) Tryd.func37 rfl (by kernel_rfl) rfl hown ?_
  simp only [inK] at hx hy
  have hp := mulN_bnd hx hy
  have hs := @mul_signs x y
  have hC1 : ∀ {bx : Bx} {hp : List Seg}, CallOb Tryd.prog ⟨w, kys [(b, tt, p0 :: p1 :: p2 :: w3 (sumM S))] []⟩ bx hp 71 [.int .i64 x] (.int .u64 (x.natAbs : Int)) := fun {_ _} w' _ => Tryd.size_w _ (by simp only [inK]; omega) w'
  have hC2 : ∀ {bx : Bx} {hp : List Seg}, CallOb Tryd.prog ⟨w, kys [(b, tt, p0 :: p1 :: p2 :: w3 (sumM S))] []⟩ bx hp 71 [.int .i64 y] (.int .u64 (y.natAbs : Int)) := fun {_ _} w' _ => Tryd.size_w _ (by simp only [inK]; omega) w'
  have hC3 : ∀ {bx : Bx} {hp : List Seg}, CallOb Tryd.prog ⟨w, kys [(b, tt, p0 :: p1 :: p2 :: w3 (sumM S))] []⟩ bx hp 70 [.int .u64 (x.natAbs : Int), .int .u64 (y.natAbs : Int)] (.tuple #[.int .u64 ((x.natAbs * y.natAbs / 18446744073709551616 : Nat) : Int), .int .u64 ((x.natAbs * y.natAbs % 18446744073709551616 : Nat) : Int)]) := fun {_ _} w' _ => Tryd.mul64_w _ _ (by omega) (by omega) w'
  obtain ⟨p, hpe⟩ : ∃ p, x.natAbs * y.natAbs = p := ⟨_, rfl⟩
  rw [hpe] at hp hC3 hs
  have hN : ∀ {bx : Bx} {hp : List Seg}, CallOb Tryd.prog ⟨w, kys [(b, tt, p0 :: p1 :: p2 :: w3 (sumM S))] []⟩ bx hp 72 [.agg ⟨[.int .u64 ((p % 18446744073709551616 : Nat) : Int), .int .u64 ((p / 18446744073709551616 : Nat) : Int), .int .u64 0]⟩] (.agg ⟨w3 ((6277101735386680763835789423207666416102355444464034512896 - p) % 6277101735386680763835789423207666416102355444464034512896)⟩) := fun {_ _} w' _ => by rw [w3_small hp]; exact Tryd.neg_w p (by omega) w'
  have hA : ∀ {bx : Bx} {hp : List Seg}, nth bx 1 = some (b, tt, p0 :: p1 :: p2 :: w3 (sumM S)) → x * y = p → CallU Tryd.prog ⟨w, kys [(b, tt, p0 :: p1 :: p2 :: w3 (sumM S))] []⟩ bx hp 73 [.pointer (some ⟨b, 3, none⟩), .agg ⟨[.int .u64 ((p % 18446744073709551616 : Nat) : Int), .int .u64 ((p / 18446744073709551616 : Nat) : Int), .int .u64 0]⟩] (.tuple #[]) (b, tt, p0 :: p1 :: p2 :: w3 (sumM (S + x * y))) := fun {_ _} hb h w' hw' => by
    rw [w3_small hp, ← sumM_mul hp h]; exact Tryd.addQ_w b tt p0 p1 p2 _ p (sumM_lt S) (by omega) w' (hw'.own1 1 hb)
  have hAn : ∀ {bx : Bx} {hp : List Seg}, nth bx 1 = some (b, tt, p0 :: p1 :: p2 :: w3 (sumM S)) → x * y = -p → CallU Tryd.prog ⟨w, kys [(b, tt, p0 :: p1 :: p2 :: w3 (sumM S))] []⟩ bx hp 73 [.pointer (some ⟨b, 3, none⟩), .agg ⟨w3 ((6277101735386680763835789423207666416102355444464034512896 - p) % 6277101735386680763835789423207666416102355444464034512896)⟩] (.tuple #[]) (b, tt, p0 :: p1 :: p2 :: w3 (sumM (S + x * y))) := fun {_ _} hb h w' hw' => by
    rw [← sumM_muln hp h]; exact Tryd.addQ_w b tt p0 p1 p2 _ _ (sumM_lt S) (by omega) w' (hw'.own1 1 hb)
  by_cases c1 : x < 0
  · by_cases c2 : y < 0
    · refine At.go [false] [hC (.int .u64 ↑x.natAbs), hC (.int .u64 ↑y.natAbs), hC (.tuple ⟨[.int .u64 ↑(p.div 18446744073709551616), .int .u64 ↑(p.mod 18446744073709551616)]⟩)] rfl (by and_intros <;> first | exact hC1 | exact hC2 | exact hC3 | (simp [c1, c2]; done) | exact hA rfl (hs.1 c1 c2) | exact oK) ?_
      refine At.al fun b8 hb8 => ?_
      refine At.go [false] [hB 0, hB 0, hU (.tuple ⟨[]⟩) 1 (p0 :: p1 :: p2 :: w3 (sumM (S + x * y)))] rfl (by and_intros <;> first | exact hC1 | exact hC2 | exact hC3 | (simp [c1, c2]; done) | exact hA rfl (hs.1 c1 c2) | exact oK) ?_
      refine At.rt [false, true] [] [] Tryd.func37 ?_
      exact ⟨rfl, rfl, rfl⟩
    · refine At.go [false] [hC (.int .u64 ↑x.natAbs), hC (.int .u64 ↑y.natAbs), hC (.tuple ⟨[.int .u64 ↑(p.div 18446744073709551616), .int .u64 ↑(p.mod 18446744073709551616)]⟩)] rfl (by and_intros <;> first | exact hC1 | exact hC2 | exact hC3 | exact hN | (simp [c1, c2]; done) | exact hAn rfl (hs.2.2.1 c1 c2) | exact oK) ?_
      refine At.al fun b8 hb8 => ?_
      refine At.go [true] [hB 0, hB 0, hC (.agg ⟨[.int .u64 ↑(((6277101735386680763835789423207666416102355444464034512896 - p) % 6277101735386680763835789423207666416102355444464034512896).mod 18446744073709551616), .int .u64 ↑(((6277101735386680763835789423207666416102355444464034512896 - p) % 6277101735386680763835789423207666416102355444464034512896 / 18446744073709551616).mod 18446744073709551616), .int .u64 ↑(((6277101735386680763835789423207666416102355444464034512896 - p) % 6277101735386680763835789423207666416102355444464034512896 / 340282366920938463463374607431768211456).mod 18446744073709551616)]⟩), hB 0, hB 0, hU (.tuple ⟨[]⟩) 1 (p0 :: p1 :: p2 :: w3 (sumM (S + x * y)))] rfl (by and_intros <;> first | exact hC1 | exact hC2 | exact hC3 | exact hN | (simp [c1, c2]; done) | exact hAn rfl (hs.2.2.1 c1 c2) | exact oK) ?_
      refine At.rt [false, true] [] [] Tryd.func37 ?_
      exact ⟨rfl, rfl, rfl⟩
  · by_cases c2 : y < 0
    · refine At.go [false] [hC (.int .u64 ↑x.natAbs), hC (.int .u64 ↑y.natAbs), hC (.tuple ⟨[.int .u64 ↑(p.div 18446744073709551616), .int .u64 ↑(p.mod 18446744073709551616)]⟩)] rfl (by and_intros <;> first | exact hC1 | exact hC2 | exact hC3 | exact hN | (simp [c1, c2]; done) | exact hAn rfl (hs.2.2.2 c1 c2) | exact oK) ?_
      refine At.al fun b8 hb8 => ?_
      refine At.go [true] [hB 0, hB 0, hC (.agg ⟨[.int .u64 ↑(((6277101735386680763835789423207666416102355444464034512896 - p) % 6277101735386680763835789423207666416102355444464034512896).mod 18446744073709551616), .int .u64 ↑(((6277101735386680763835789423207666416102355444464034512896 - p) % 6277101735386680763835789423207666416102355444464034512896 / 18446744073709551616).mod 18446744073709551616), .int .u64 ↑(((6277101735386680763835789423207666416102355444464034512896 - p) % 6277101735386680763835789423207666416102355444464034512896 / 340282366920938463463374607431768211456).mod 18446744073709551616)]⟩), hB 0, hB 0, hU (.tuple ⟨[]⟩) 1 (p0 :: p1 :: p2 :: w3 (sumM (S + x * y)))] rfl (by and_intros <;> first | exact hC1 | exact hC2 | exact hC3 | exact hN | (simp [c1, c2]; done) | exact hAn rfl (hs.2.2.2 c1 c2) | exact oK) ?_
      refine At.rt [false, true] [] [] Tryd.func37 ?_
      exact ⟨rfl, rfl, rfl⟩
    · refine At.go [false] [hC (.int .u64 ↑x.natAbs), hC (.int .u64 ↑y.natAbs), hC (.tuple ⟨[.int .u64 ↑(p.div 18446744073709551616), .int .u64 ↑(p.mod 18446744073709551616)]⟩)] rfl (by and_intros <;> first | exact hC1 | exact hC2 | exact hC3 | (simp [c1, c2]; done) | exact hA rfl (hs.2.1 c1 c2) | exact oK) ?_
      refine At.al fun b8 hb8 => ?_
      refine At.go [false] [hB 0, hB 0, hU (.tuple ⟨[]⟩) 1 (p0 :: p1 :: p2 :: w3 (sumM (S + x * y)))] rfl (by and_intros <;> first | exact hC1 | exact hC2 | exact hC3 | (simp [c1, c2]; done) | exact hA rfl (hs.2.1 c1 c2) | exact oK) ?_
      refine At.rt [false, true] [] [] Tryd.func37 ?_
      exact ⟨rfl, rfl, rfl⟩

theorem Tryd.AddQ_w (b tt : Nat) (p0 p1 p2 : Value) (S x : Int) (hx : inK .i64 x) (w : World) (hown : Own [(b, tt, p0 :: p1 :: p2 :: w3 (sumM S))] [] w) :
    FunU Tryd.prog 36 [.pointer (some ⟨b, 3, none⟩), .int .i64 x] w (.tuple #[]) (b, tt, p0 :: p1 :: p2 :: w3 (sumM (S + x))) := by
  refine Tri.enter (bx := [(b, tt, p0 :: p1 :: p2 :: w3 (sumM S))]) (hp := []) Tryd.func36 rfl (by kernel_rfl) rfl hown ?_
  have hA : ∀ {bx : Bx} {hp : List Seg}, nth bx 0 = some (b, tt, p0 :: p1 :: p2 :: w3 (sumM S)) → CallU Tryd.prog ⟨w, kys [(b, tt, p0 :: p1 :: p2 :: w3 (sumM S))] []⟩ bx hp 37 [.pointer (some ⟨b, 3, none⟩), .int .i64 x, .int .i64 1] (.tuple #[]) (b, tt, p0 :: p1 :: p2 :: w3 (sumM (S + x))) := fun {_ _} hb w' hw' => by
    have := Tryd.addMulQ_w b tt p0 p1 p2 S x 1 hx (by simp [inK]) w' (hw'.own1 0 hb)
    rw [Int.mul_one] at this; exact this
  refine At.go [] [hU (.tuple ⟨[]⟩) 0 (p0 :: p1 :: p2 :: w3 (sumM (S + x)))] rfl (by and_intros <;> first | exact hA rfl | exact oK) ?_
  refine At.rt [true] [] [] Tryd.func36 ?_
  exact ⟨rfl, rfl, rfl⟩
theorem Tryd.TotalQ_w (b tt : Nat) (p0 p1 p2 : Value) (S : Int) (hS : BigS S) (w : World) (hb : w.heap[b]? = some (.cells (p0 :: p1 :: p2 :: w3 (sumM S)).toArray tt (0, 0))) :
    Fun Tryd.prog 40 [.pointer (some ⟨b, 3, none⟩)] w (.tuple #[.int .i64 (totS S).1, .bool (totS S).2]) := by
  obtain ⟨x, y, z, hx, hy, hz, em, hw⟩ := w3_ex (sumM_lt S)
  rw [hw] at hb
  refine Tri.enter (bx := []) (hp := []) Tryd.func40 rfl (by kernel_rfl) rfl (Own.nil w) ?_
  have r0 : ∀ {bx : Bx} {hp : List Seg}, RdW ⟨w, kys [] []⟩ bx hp b (3 + 0 + (0 : Int).toNat * 1) [.int .u64 x] := fun {_ _} => RdW.blkB1 (by simp [kys]) hb rfl
  have r1 : ∀ {bx : Bx} {hp : List Seg}, RdW ⟨w, kys [] []⟩ bx hp b (3 + 0 + (1 : Int).toNat * 1) [.int .u64 y] := fun {_ _} => RdW.blkB1 (by simp [kys]) hb rfl
  have r2 : ∀ {bx : Bx} {hp : List Seg}, RdW ⟨w, kys [] []⟩ bx hp b (3 + 0 + (2 : Int).toNat * 1) [.int .u64 z] := fun {_ _} => RdW.blkB1 (by simp [kys]) hb rfl
  by_cases h0 : x < 9223372036854775808
  · have hwr : IntKind.i64.wrap x = x := by rw [wrap_i64]; omega
    rw [tot_pos hS em ⟨hx.1, h0⟩ hy hz]
    by_cases h1 : y = 0
    · by_cases h2 : z = 0
      · refine At.gw [false, false, false, false] [hR [.int .u64 x], hR [.int .u64 y], hR [.int .u64 z]] rfl (by and_intros <;> first | exact r0 | exact r1 | exact r2 | (simp [hwr, h1, h2]; done) | (simp [hwr, h1, h2]; omega) | exact oK) ?_
        refine At.rt [] [] [] Tryd.func40 ?_
        exact ⟨by rw [hwr, if_pos ⟨h1, h2⟩]; rfl, rfl, rfl⟩
      · refine At.gw [false, false, false, true] [hR [.int .u64 x], hR [.int .u64 y], hR [.int .u64 z]] rfl (by and_intros <;> first | exact r0 | exact r1 | exact r2 | (simp [hwr, h1, h2]; done) | (simp [hwr, h1, h2]; omega) | exact oK) ?_
        refine At.rt [] [] [] Tryd.func40 ?_
        exact ⟨by rw [if_neg fun h => h2 h.2]; rfl, rfl, rfl⟩
    · refine At.gw [false, false, true, true] [hR [.int .u64 x], hR [.int .u64 y]] rfl (by and_intros <;> first | exact r0 | exact r1 | exact r2 | (simp [hwr, h1]; done) | (simp [hwr, h1]; omega) | exact oK) ?_
      refine At.rt [] [] [] Tryd.func40 ?_
      exact ⟨by rw [if_neg fun h => h1 h.1]; rfl, rfl, rfl⟩
  · have hwr : IntKind.i64.wrap x = x - 18446744073709551616 := by rw [wrap_i64]; omega
    rw [tot_neg hS em ⟨by omega, hx.2⟩ hy hz]
    by_cases h1 : y = 18446744073709551615
    · by_cases h2 : z = 18446744073709551615
      · refine At.gw [false, true, false, false] [hR [.int .u64 x], hR [.int .u64 y], hR [.int .u64 z]] rfl (by and_intros <;> first | exact r0 | exact r1 | exact r2 | (simp [hwr, h1, h2]; done) | (simp [hwr, h1, h2]; omega) | exact oK) ?_
        refine At.rt [] [] [] Tryd.func40 ?_
        exact ⟨by rw [hwr, if_pos ⟨h1, h2⟩]; rfl, rfl, rfl⟩
      · refine At.gw [false, true, false, true] [hR [.int .u64 x], hR [.int .u64 y], hR [.int .u64 z]] rfl (by and_intros <;> first | exact r0 | exact r1 | exact r2 | (simp [hwr, h1, h2]; done) | (simp [hwr, h1, h2]; omega) | exact oK) ?_
        refine At.rt [] [] [] Tryd.func40 ?_
        exact ⟨by rw [if_neg fun h => h2 h.2]; rfl, rfl, rfl⟩
    · refine At.gw [false, true, true, true] [hR [.int .u64 x], hR [.int .u64 y]] rfl (by and_intros <;> first | exact r0 | exact r1 | exact r2 | (simp [hwr, h1]; done) | (simp [hwr, h1]; omega) | exact oK) ?_
      refine At.rt [] [] [] Tryd.func40 ?_
      exact ⟨by rw [if_neg fun h => h1 h.1]; rfl, rfl, rfl⟩

end Go.Proofs

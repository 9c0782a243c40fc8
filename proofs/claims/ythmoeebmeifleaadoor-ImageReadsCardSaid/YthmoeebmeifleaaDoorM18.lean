/-
  Walks of layer 1: nums.Num and the reference's.
-/
import Derived.Test.YthmoeebmeifleaaDoorM7
import Derived.Test.YthmoeebmeifleaaDoorM2
import Derived.Test.YthmoeebmeifleaaDoorM4
import Derived.Test.YthmoeebmeifleaaDoorProg
import Derived.KernelRfl
/-
  Walks of layer 1: nums.Num and the reference's.
-/
namespace Go.Proofs
open Go Go.Eng
set_option maxRecDepth 100000
set_option maxHeartbeats 4000000
attribute [local irreducible] Tri

end Go.Proofs

/-
  Walks of layer 1: the reader.
-/
namespace Go.Proofs
open Go Go.Eng
set_option maxRecDepth 100000
set_option maxHeartbeats 4000000
attribute [local irreducible] Tri

theorem bx_eq3 {b t : Nat} {s : Value} {k : IntKind} {x y : Int} {f : Value} (h : x = y) : [(b, t, [s, .int k x, f])] = [(b, t, [s, .int k y, f])] := by rw [h]

theorem Tryd.digits_w (s : ByteArray) (a0 : Nat) (f : Int) (b : Nat) (w : World) (ha : a0 ≤ (bl s).length) (hlen : (bl s).length ≤ 9223372036854775807)
    (hown : Own [(b, 84, [.string s, .int .i64 a0, .int .i64 f])] [] w) :
    FunU Tryd.prog 52 [.pointer (some ⟨b, 0, none⟩)] w (.tuple #[.int .u64 (digP ((bl s).drop a0) 0 0).1, .int .i64 (digP ((bl s).drop a0) 0 0).2.2])
      (b, 84, [.string s, .int .i64 ((a0 + (digP ((bl s).drop a0) 0 0).2.1 : Nat) : Int), .int .i64 f]) := by
  refine Tri.enter (bx := [(b, 84, [.string s, .int .i64 a0, .int .i64 f])]) (hp := []) Tryd.func52 rfl (by kernel_rfl) rfl hown ?_
  refine At.run 100 true [] [] rfl trivial ?_
  refine At.loop (n := (bl s).length - a0) (env0 := [(0, .pointer (some ⟨b, 0, none⟩)), (4, .int .u64 0), (5, .int .i64 0)]) (fun m env bx hp => ∃ (k acc : Nat), m = (bl s).length - (a0 + k) ∧ a0 + k ≤ (bl s).length ∧ k ≤ 9 ∧ acc < 128 ^ k ∧
    digP ((bl s).drop a0) 0 0 = digP ((bl s).drop (a0 + k)) k acc ∧
    env = [(0, .pointer (some ⟨b, 0, none⟩)), (4, .int .u64 acc), (5, .int .i64 k)] ∧ bx = [(b, 84, [.string s, .int .i64 ((a0 + k : Nat) : Int), .int .i64 f])] ∧ hp = []) rfl
    ⟨0, 0, by simp, by omega, by omega, by simp, rfl, rfl, rfl, rfl⟩ ⟨rfl, rfl, rfl, trivial⟩ ?_
  rintro m env bx hp ⟨k, acc, rfl, hk, hk9, hacc, he, rfl, rfl, rfl⟩ ih
  refine At.run 100 true [] [] rfl trivial ?_
  refine At.quiet true [] [hB 0, hB 0] ⟨by kernel_rfl, by kernel_rfl, rfl, rfl, rfl⟩ rfl rfl rfl oK ?_
  by_cases h : a0 + k = (bl s).length
  · refine At.run 100 true [true] [] rfl ⟨by simp; omega, trivial⟩ ?_
    have hd : (bl s).drop (a0 + k) = [] := by rw [h]; simp
    have hr : digP ((bl s).drop a0) 0 0 = (0, k, 2) := by rw [he, hd]; rfl
    exact At.ret [] rfl Tryd.func52 rfl trivial ⟨by rw [hr]; rfl, by rw [hr], rfl⟩
  · obtain ⟨c, hc⟩ : ∃ c, (bl s)[a0 + k]? = some c := ⟨_, List.getElem?_eq_getElem (by omega)⟩
    have hd : (bl s).drop (a0 + k) = c :: (bl s).drop (a0 + (k + 1)) := by
      rw [List.drop_eq_getElem_cons (by omega)]; congr 1; exact (List.getElem?_eq_some_iff.1 hc).2
    rw [hd] at he
    have ec : (bl s)[((a0 + k : Nat) : Int).toNat]?.getD 0 = c := by rw [Int.toNat_natCast]; simp [hc]
    have hcl := c.toNat_lt
    have hp9 : (128 : Nat) ^ k ≤ 128 ^ 9 := Nat.pow_le_pow_right (by decide) hk9
    refine At.run 100 true [false] [] rfl ⟨by simp; omega, trivial⟩ ?_
    refine At.quiet true [] [hB 0, hB 0] ⟨by kernel_rfl, by kernel_rfl, rfl, rfl, rfl⟩ rfl rfl rfl ⟨by omega, rfl, rfl, trivial⟩ ?_
    simp only [ec]
    by_cases h9 : k = 9 ∧ 1 < c.toNat
    · refine At.run 100 true [true, true] [hB 0, hB 0] rfl oK ?_
      have hr : digP ((bl s).drop a0) 0 0 = (0, k + 1, 3) := by rw [he]; simp [digP, h9]
      exact At.ret [] rfl Tryd.func52 rfl trivial ⟨by rw [hr]; rfl, by rw [hr]; rfl, rfl⟩
    · have hb : acc + (c.toNat % 128) * 128 ^ k < 18446744073709551616 := by
        have h2 : c.toNat % 128 < 128 := Nat.mod_lt _ (by decide)
        by_cases h8 : k = 9
        · subst h8
          have : c.toNat % 128 ≤ 1 := by omega
          have : (c.toNat % 128) * 128 ^ 9 ≤ 1 * 128 ^ 9 := Nat.mul_le_mul_right _ this
          omega
        · have h3 : (c.toNat % 128) * 128 ^ k ≤ 127 * 128 ^ k := Nat.mul_le_mul_right _ (by omega)
          have h4 : (128 : Nat) ^ k ≤ 128 ^ 8 := Nat.pow_le_pow_right (by decide) (by omega)
          omega
      have hior := ior_add hacc hb
      simp only [Int.natCast_emod, Int.cast_ofNat_Int] at hior
      by_cases h8 : k = 9
      · refine At.run 100 true [true, false] [hB 0, hB 0] rfl oK ?_
        simp only [hior]
        clear hior hb hp9
        by_cases h128 : c.toNat < 128
        · have hm : c.toNat % 128 = c.toNat := Nat.mod_eq_of_lt h128
          by_cases hz0 : c.toNat = 0
          · by_cases hk0 : 0 < k
            · refine At.run 100 true [true, true, true] [] rfl oK ?_
              have hr : digP ((bl s).drop a0) 0 0 = (0, k + 1, 3) := by rw [he, digP, if_neg h9, if_pos h128, if_pos ⟨hz0, hk0⟩]
              exact At.ret [] rfl Tryd.func52 rfl trivial ⟨by rw [hr]; rfl, by rw [hr]; rfl, rfl⟩
            · refine At.run 100 true [true, true, false] [] rfl oK ?_
              have hr : digP ((bl s).drop a0) 0 0 = (acc + c.toNat % 128 * 128 ^ k, k + 1, 0) := by rw [he, hm, digP, if_neg h9, if_pos h128, if_neg (by omega)]
              exact At.ret [] rfl Tryd.func52 rfl trivial ⟨by rw [hr]; rfl, by rw [hr]; rfl, rfl⟩
          · refine At.run 100 true [true, false, false] [] rfl oK ?_
            have hr : digP ((bl s).drop a0) 0 0 = (acc + c.toNat % 128 * 128 ^ k, k + 1, 0) := by rw [he, hm, digP, if_neg h9, if_pos h128, if_neg (by omega)]
            exact At.ret [] rfl Tryd.func52 rfl trivial ⟨by rw [hr]; rfl, by rw [hr]; rfl, rfl⟩
        · have hlt : k < 9 := by omega
          refine At.run 100 true [false] [] rfl oK ?_
          refine At.weak (ih ((bl s).length - (a0 + (k + 1))) _ _ _ (by omega) ⟨k + 1, acc + c.toNat % 128 * 128 ^ k, rfl, by omega, by omega, ?_, ?_, rfl, bx_eq3 (by omega), rfl⟩) ⟨rfl, rfl, some_int_eq (by omega), trivial⟩
          · have h3 : c.toNat % 128 * 128 ^ k ≤ 127 * 128 ^ k := Nat.mul_le_mul_right _ (by omega)
            rw [Nat.pow_succ]; omega
          · rw [he, digP, if_neg h9, if_neg h128]
      · refine At.run 100 true [false, false] [hB 0, hB 0] rfl oK ?_
        simp only [hior]
        clear hior hb hp9
        by_cases h128 : c.toNat < 128
        · have hm : c.toNat % 128 = c.toNat := Nat.mod_eq_of_lt h128
          by_cases hz0 : c.toNat = 0
          · by_cases hk0 : 0 < k
            · refine At.run 100 true [true, true, true] [] rfl oK ?_
              have hr : digP ((bl s).drop a0) 0 0 = (0, k + 1, 3) := by rw [he, digP, if_neg h9, if_pos h128, if_pos ⟨hz0, hk0⟩]
              exact At.ret [] rfl Tryd.func52 rfl trivial ⟨by rw [hr]; rfl, by rw [hr]; rfl, rfl⟩
            · refine At.run 100 true [true, true, false] [] rfl oK ?_
              have hr : digP ((bl s).drop a0) 0 0 = (acc + c.toNat % 128 * 128 ^ k, k + 1, 0) := by rw [he, hm, digP, if_neg h9, if_pos h128, if_neg (by omega)]
              exact At.ret [] rfl Tryd.func52 rfl trivial ⟨by rw [hr]; rfl, by rw [hr]; rfl, rfl⟩
          · refine At.run 100 true [true, false, false] [] rfl oK ?_
            have hr : digP ((bl s).drop a0) 0 0 = (acc + c.toNat % 128 * 128 ^ k, k + 1, 0) := by rw [he, hm, digP, if_neg h9, if_pos h128, if_neg (by omega)]
            exact At.ret [] rfl Tryd.func52 rfl trivial ⟨by rw [hr]; rfl, by rw [hr]; rfl, rfl⟩
        · have hlt : k < 9 := by omega
          refine At.run 100 true [false] [] rfl oK ?_
          refine At.weak (ih ((bl s).length - (a0 + (k + 1))) _ _ _ (by omega) ⟨k + 1, acc + c.toNat % 128 * 128 ^ k, rfl, by omega, by omega, ?_, ?_, rfl, bx_eq3 (by omega), rfl⟩) ⟨rfl, rfl, some_int_eq (by omega), trivial⟩
          · have h3 : c.toNat % 128 * 128 ^ k ≤ 127 * 128 ^ k := Nat.mul_le_mul_right _ (by omega)
            rw [Nat.pow_succ]; omega
          · rw [he, digP, if_neg h9, if_neg h128]
end Go.Proofs

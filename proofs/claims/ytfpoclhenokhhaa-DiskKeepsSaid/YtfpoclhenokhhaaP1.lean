/-
  Plain laws of layer 1: the bytes of numbers.
-/
import Derived.Test.YtfpoclhenokhhaaE8
namespace Go.Eng

/-- A number's bytes. -/
def numL (n : Nat) : List UInt8 := if n < 128 then [UInt8.ofNat n] else UInt8.ofNat (n % 128 + 128) :: numL (n / 128)
  termination_by n

theorem numL_small {n : Nat} (h : n < 128) : numL n = [UInt8.ofNat n] := by rw [numL, if_pos h]
theorem numL_big {n : Nat} (h : 128 ≤ n) : numL n = UInt8.ofNat (n % 128 + 128) :: numL (n / 128) := by rw [numL, if_neg (by omega)]
theorem u8_ofNat {n : Nat} (h : n < 256) : ((UInt8.ofNat n).toNat : Int) = (n : Int) := by
  simp [UInt8.toNat_ofNat']; omega
theorem numL_len (k : Nat) : ∀ n, n < 128 ^ (k + 1) → (numL n).length ≤ k + 1 := by
  induction k with
  | zero => intro n h; rw [numL_small (by simpa using h)]; simp
  | succ k ih =>
    intro n h
    by_cases hn : n < 128
    · rw [numL_small hn]; simp
    · rw [numL_big (by omega)]
      have := ih (n / 128) (by rw [Nat.div_lt_iff_lt_mul (by decide)]; rw [Nat.pow_succ] at h; exact h)
      simp; omega
theorem numL_len10 (n : Nat) (h : n < 18446744073709551616) : (numL n).length ≤ 10 := numL_len 9 n (by omega)

/-- A number with a sign, turned in. -/
def zig (n : Int) : Nat := if 0 ≤ n then (2 * n).toNat else (-2 * n - 1).toNat
/-- Turned out. -/
def zag (n : Nat) : Int := if n % 2 = 0 then (n / 2 : Nat) else -((n / 2 : Nat) : Int) - 1

theorem zig_lt {n : Int} (h : inK .i64 n) : zig n < 18446744073709551616 := by
  simp only [inK] at h; unfold zig; split <;> omega
theorem zag_zig (n : Int) : zag (zig n) = n := by
  unfold zag zig; split <;> split <;> omega
theorem zig_zag (n : Nat) : zig (zag n) = n := by
  unfold zag zig; split <;> split <;> omega
theorem zag_in {n : Nat} (h : n < 18446744073709551616) : inK .i64 (zag n) := by
  simp only [inK]; unfold zag; split <;> omega

theorem wrap_u64 (x : Int) : IntKind.u64.wrap x = x % 18446744073709551616 := by simp [IntKind.wrap, IntKind.bits, IntKind.signed]
theorem wrap_i64 (x : Int) : IntKind.i64.wrap x = (x + 9223372036854775808) % 18446744073709551616 - 9223372036854775808 := by
  simp [IntKind.wrap, IntKind.bits, IntKind.signed]; split <;> omega

theorem toNat_ofInt64 (x : Int) : ((BitVec.ofInt 64 x).toNat : Int) = x % 18446744073709551616 := by
  rw [BitVec.toNat_ofInt]; simp; omega

theorem ixor_u64 (x y : Int) : ixor .u64 x y = IntKind.u64.wrap ((BitVec.ofInt 64 x ^^^ BitVec.ofInt 64 y).toNat : Int) := rfl
theorem ixor_i64 (x y : Int) : ixor .i64 x y = IntKind.i64.wrap ((BitVec.ofInt 64 x ^^^ BitVec.ofInt 64 y).toNat : Int) := rfl
theorem iand_u64 (x y : Int) : iand .u64 x y = IntKind.u64.wrap ((BitVec.ofInt 64 x &&& BitVec.ofInt 64 y).toNat : Int) := rfl
theorem ior_u64 (x y : Int) : ior .u64 x y = IntKind.u64.wrap ((BitVec.ofInt 64 x ||| BitVec.ofInt 64 y).toNat : Int) := rfl
theorem xz (x : BitVec 64) : x ^^^ BitVec.ofInt 64 0 = x := by
  have : BitVec.ofInt 64 0 = 0#64 := by decide
  rw [this, BitVec.xor_zero]
theorem ixor_zero {k : IntKind} (hk : k = .u64 ∨ k = .i64) (x : Int) : ixor k x 0 = k.wrap x := by
  have := toNat_ofInt64 x
  rcases hk with rfl | rfl
  · rw [ixor_u64, xz, wrap_u64, wrap_u64]; omega
  · rw [ixor_i64, xz, wrap_i64, wrap_i64]; omega
theorem ofInt_allOnes {x : Int} (h : x % 18446744073709551616 = 18446744073709551615) : BitVec.ofInt 64 x = BitVec.allOnes 64 := by
  apply BitVec.eq_of_toNat_eq
  have := toNat_ofInt64 x
  simp only [BitVec.toNat_allOnes]
  omega
theorem ixor_ones {k : IntKind} (hk : k = .u64 ∨ k = .i64) (x y : Int) (h : y % 18446744073709551616 = 18446744073709551615) : ixor k x y = k.wrap (-x - 1) := by
  have := toNat_ofInt64 x
  rcases hk with rfl | rfl
  · rw [ixor_u64, ofInt_allOnes h, BitVec.xor_allOnes, BitVec.toNat_not, wrap_u64, wrap_u64]; omega
  · rw [ixor_i64, ofInt_allOnes h, BitVec.xor_allOnes, BitVec.toNat_not, wrap_i64, wrap_i64]; omega

theorem zig_walk {n : Int} (h : inK .i64 n) : ixor IntKind.u64 (IntKind.u64.wrap (IntKind.i64.wrap (n * 2 ^ min (Int.toNat 1) IntKind.i64.bits))) (IntKind.u64.wrap (n / 2 ^ min (Int.toNat 63) IntKind.i64.bits)) = (zig n : Int) := by
  simp only [inK] at h
  have e1 : (2 : Int) ^ min (Int.toNat 1) IntKind.i64.bits = 2 := by decide
  have e2 : (2 : Int) ^ min (Int.toNat 63) IntKind.i64.bits = 9223372036854775808 := by decide
  rw [e1, e2, wrap_i64, wrap_u64, wrap_u64]
  by_cases h0 : 0 ≤ n
  · have : n / 9223372036854775808 % 18446744073709551616 = 0 := by omega
    rw [this, ixor_zero (.inl rfl), wrap_u64]
    unfold zig; rw [if_pos h0]; omega
  · have : n / 9223372036854775808 % 18446744073709551616 = 18446744073709551615 := by omega
    rw [this, ixor_ones (.inl rfl) _ _ (by decide), wrap_u64]
    unfold zig; rw [if_neg h0]; omega

theorem iand_one {n : Nat} (h : n < 18446744073709551616) : iand IntKind.u64 (n : Int) 1 = ((n % 2 : Nat) : Int) := by
  have e : (BitVec.ofInt 64 (n : Int) &&& BitVec.ofInt 64 1).toNat = n % 2 := by
    rw [BitVec.toNat_and]
    have h1 : (BitVec.ofInt 64 (n : Int)).toNat = n := by have := toNat_ofInt64 (n : Int); omega
    have h2 : (BitVec.ofInt 64 1).toNat = 1 := by decide
    rw [h1, h2, Nat.and_one_is_mod]
  rw [iand_u64, e, wrap_u64]; omega
theorem zag_walk {n : Nat} (h : n < 18446744073709551616) : ixor IntKind.i64 (IntKind.i64.wrap ((n : Int) / 2 ^ min (Int.toNat 1) IntKind.u64.bits)) (IntKind.i64.wrap (0 - IntKind.i64.wrap (iand IntKind.u64 (n : Int) 1))) = zag n := by
  have e1 : (2 : Int) ^ min (Int.toNat 1) IntKind.u64.bits = 2 := by decide
  rw [e1, iand_one h]
  unfold zag
  by_cases h0 : n % 2 = 0
  · rw [if_pos h0, h0]
    have : IntKind.i64.wrap (0 - IntKind.i64.wrap ((0 : Nat) : Int)) = 0 := by decide
    rw [this, ixor_zero (.inr rfl), wrap_i64, wrap_i64]; omega
  · have h1 : n % 2 = 1 := by omega
    rw [if_neg h0, h1]
    have : IntKind.i64.wrap (0 - IntKind.i64.wrap ((1 : Nat) : Int)) = -1 := by decide
    rw [this, ixor_ones (.inr rfl) _ _ (by decide), wrap_i64, wrap_i64]; omega

/-- A number's digits read from a place on: the number, how many bytes were looked at, the fault. -/
def digP : List UInt8 → Nat → Nat → Nat × Nat × Nat
  | [], k, _ => (0, k, 2)
  | c :: l, k, acc => if k = 9 ∧ 1 < c.toNat then (0, k + 1, 3)
    else if c.toNat < 128 then (if c.toNat = 0 ∧ 0 < k then (0, k + 1, 3) else (acc + c.toNat * 128 ^ k, k + 1, 0))
    else digP l (k + 1) (acc + (c.toNat % 128) * 128 ^ k)

theorem ior_add {x d k : Nat} (hx : x < 128 ^ k) (h : x + d * 128 ^ k < 18446744073709551616) : ior IntKind.u64 (x : Int) (IntKind.u64.wrap ((d : Int) * 2 ^ min (7 * (k : Int)).toNat IntKind.u64.bits)) = ((x + d * 128 ^ k : Nat) : Int) := by
  have hk : (128 : Nat) ^ k = 2 ^ (7 * k) := by rw [show (128 : Nat) = 2 ^ 7 from rfl, ← Nat.pow_mul]
  by_cases hd : d = 0
  · subst hd
    have : IntKind.u64.wrap (((0 : Nat) : Int) * 2 ^ min (7 * (k : Int)).toNat IntKind.u64.bits) = 0 := by simp [wrap_u64]
    have h0 : BitVec.ofInt 64 (0 : Int) = 0#64 := by decide
    have hx64 := toNat_ofInt64 (x : Int)
    rw [this, ior_u64, h0, BitVec.or_zero, wrap_u64]; simp at h ⊢; omega
  · have hlt : 2 ^ (7 * k) < 2 ^ 64 := by
      have : 1 * 128 ^ k ≤ d * 128 ^ k := Nat.mul_le_mul_right _ (by omega)
      rw [← hk]; omega
    have h7 : 7 * k < 64 := (Nat.pow_lt_pow_iff_right (by decide)).1 hlt
    have hm : min (7 * (k : Int)).toNat IntKind.u64.bits = 7 * k := by simp only [IntKind.bits]; omega
    have hw : IntKind.u64.wrap ((d : Int) * 2 ^ (7 * k)) = ((d * 128 ^ k : Nat) : Int) := by
      rw [wrap_u64, hk]; simp only [Int.natCast_mul, Int.natCast_pow, Int.cast_ofNat_Int]
      rw [hk] at h
      have : (((d * 2 ^ (7 * k) : Nat)) : Int) = (d : Int) * 2 ^ (7 * k) := by simp
      omega
    rw [hm, hw, ior_u64, wrap_u64, BitVec.toNat_or]
    have h1 : (BitVec.ofInt 64 (x : Int)).toNat = x := by have := toNat_ofInt64 (x : Int); omega
    have h2 : (BitVec.ofInt 64 ((d * 128 ^ k : Nat) : Int)).toNat = d * 128 ^ k := by have := toNat_ofInt64 ((d * 128 ^ k : Nat) : Int); omega
    have h3 : d * 128 ^ k = d <<< (7 * k) := by rw [Nat.shiftLeft_eq, hk]
    rw [h1, h2, Nat.or_comm, h3, ← Nat.shiftLeft_add_eq_or_of_lt (by rw [← hk]; exact hx), ← h3]
    omega
end Go.Eng

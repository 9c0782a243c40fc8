/-
  Engine, part 36: what is owed, by the usual ways; numbers as cells.
-/
import Derived.Test.YtibdpdlghibijaaGreatDoorMT2
import Derived.KernelRfl
/-
  Engine, part 36: what is owed, by the usual ways; numbers as cells.
-/
namespace Go.Eng
open Go

/-- Numbers as cells. -/
def i64s (xs : List Int) : List Value := xs.map (Value.int .i64)
theorem i64s_one (xs : List Int) : ∀ v, v ∈ i64s xs → v.oneCell' = true := by
  intro v hv; simp only [i64s, List.mem_map] at hv; obtain ⟨x, -, rfl⟩ := hv; rfl

/-- What is owed, by the usual ways. -/
theorem oK {p : Prop} (h : p := by (repeat' apply And.intro) <;> first | exact True.intro | with_reducible assumption | omega | (simp only [inK]; omega) | (simp only [decide_eq_true_eq, decide_eq_false_iff_not]; first | with_reducible assumption | omega) | assumption | rfl | (simp; done) | (simp; omega) | (simp [Value.oneCell']; done) | exact i64s_one _ | exact AggOk.mk (by kernel_rfl) (by kernel_rfl)) : p := h
theorem s1 {k : IntKind} {a b : Int} (h : a = b) : some (Value.int k a) = some (Value.int k b) := by rw [h]
theorem s2 {a : Option Addr} {n m cap : Nat} (h : n = m) : some (Value.slice a n cap) = some (Value.slice a m cap) := by rw [h]
end Go.Eng

/-
  Plain laws of layer 5: sums of three words.
-/
namespace Go.Eng
open Go

/-- Three words, the lowest first. -/
def w3 (m : Nat) : List Value := [.int .u64 ((m % 18446744073709551616 : Nat) : Int), .int .u64 ((m / 18446744073709551616 % 18446744073709551616 : Nat) : Int), .int .u64 ((m / 340282366920938463463374607431768211456 % 18446744073709551616 : Nat) : Int)]
end Go.Eng

/-
  Plain laws of layer 28: volumes.
-/
namespace Go.Eng
open Go

def sa (l : List (Int × Int × Int)) (s : Int) : Int := ((l.filter fun c => decide (c.1 = s)).map fun c => c.2.1 * c.2.2).sum
end Go.Eng

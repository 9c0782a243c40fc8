/-
  Engine, part 36: what is owed, by the usual ways; numbers as cells.
-/
import Derived.Test.YtkmlfggemhachaaGreatDoorM2
import Derived.KernelRfl
/-
  Engine, part 36: what is owed, by the usual ways; numbers as cells.
-/
namespace Go.Eng
open Go

/-- Numbers as cells. -/
def i64s (xs : List Int) : List Value := xs.map (Value.int .i64)
theorem i64s_get {xs : List Int} {j : Nat} {x : Int} (h : xs[j]? = some x) : (i64s xs)[j]? = some (.int .i64 x) := by simp [i64s, h]
theorem i64s_len (xs : List Int) : (i64s xs).length = xs.length := by simp [i64s]
theorem i64s_one (xs : List Int) : ∀ v, v ∈ i64s xs → v.oneCell' = true := by
  intro v hv; simp only [i64s, List.mem_map] at hv; obtain ⟨x, -, rfl⟩ := hv; rfl

/-- What is owed, by the usual ways. -/
theorem oK {p : Prop} (h : p := by (repeat' apply And.intro) <;> first | exact True.intro | with_reducible assumption | omega | (simp only [inK]; omega) | (simp only [decide_eq_true_eq, decide_eq_false_iff_not]; first | with_reducible assumption | omega) | assumption | rfl | (simp; done) | (simp; omega) | (simp [Value.oneCell']; done) | exact i64s_one _ | exact AggOk.mk (by kernel_rfl) (by kernel_rfl)) : p := h
theorem s1 {k : IntKind} {a b : Int} (h : a = b) : some (Value.int k a) = some (Value.int k b) := by rw [h]
theorem s2 {a : Option Addr} {n m cap : Nat} (h : n = m) : some (Value.slice a n cap) = some (Value.slice a m cap) := by rw [h]
end Go.Eng

/-
  Plain laws of layer 5: sums of three words.
-/
namespace Go.Eng
open Go

/-- Three words, the lowest first. -/
def w3 (m : Nat) : List Value := [.int .u64 ((m % 18446744073709551616 : Nat) : Int), .int .u64 ((m / 18446744073709551616 % 18446744073709551616 : Nat) : Int), .int .u64 ((m / 340282366920938463463374607431768211456 % 18446744073709551616 : Nat) : Int)]
theorem w3_split (m : Nat) (h : m < 6277101735386680763835789423207666416102355444464034512896) : ∃ a b c : Nat, a < 18446744073709551616 ∧ b < 18446744073709551616 ∧ c < 18446744073709551616 ∧ m = a + 18446744073709551616 * b + 340282366920938463463374607431768211456 * c ∧
    m % 18446744073709551616 = a ∧ m / 18446744073709551616 % 18446744073709551616 = b ∧ m / 340282366920938463463374607431768211456 % 18446744073709551616 = c :=
  ⟨m % 18446744073709551616, m / 18446744073709551616 % 18446744073709551616, m / 340282366920938463463374607431768211456 % 18446744073709551616, by omega, by omega, by omega, by omega, rfl, rfl, rfl⟩
theorem w3_of {m : Nat} {x y z : Int} (hx : 0 ≤ x ∧ x < 18446744073709551616) (hy : 0 ≤ y ∧ y < 18446744073709551616) (hz : 0 ≤ z ∧ z < 18446744073709551616) (h : (m : Int) = x + 18446744073709551616 * y + 340282366920938463463374607431768211456 * z) :
    [Value.int .u64 x, .int .u64 y, .int .u64 z] = w3 m := by
  have e1 : ((m % 18446744073709551616 : Nat) : Int) = x := by omega
  have e2 : ((m / 18446744073709551616 % 18446744073709551616 : Nat) : Int) = y := by omega
  have e3 : ((m / 340282366920938463463374607431768211456 % 18446744073709551616 : Nat) : Int) = z := by omega
  unfold w3; rw [e1, e2, e3]
theorem w3_ex {m : Nat} (h : m < 6277101735386680763835789423207666416102355444464034512896) : ∃ a b c : Int, (0 ≤ a ∧ a < 18446744073709551616) ∧ (0 ≤ b ∧ b < 18446744073709551616) ∧ (0 ≤ c ∧ c < 18446744073709551616) ∧
    (m : Int) = a + 18446744073709551616 * b + 340282366920938463463374607431768211456 * c ∧ w3 m = [.int .u64 a, .int .u64 b, .int .u64 c] := by
  obtain ⟨a, b, c, ha, hb, hc, hm, e1, e2, e3⟩ := w3_split m h
  exact ⟨a, b, c, by omega, by omega, by omega, by omega, by unfold w3; rw [e1, e2, e3]⟩
theorem neg_fin {m : Nat} {T k : Int} (h : m < 6277101735386680763835789423207666416102355444464034512896) (hT : T = 6277101735386680763835789423207666416102355444464034512896 - m - 6277101735386680763835789423207666416102355444464034512896 * k) (h0 : 0 ≤ T ∧ T < 6277101735386680763835789423207666416102355444464034512896) :
    (((6277101735386680763835789423207666416102355444464034512896 - m) % 6277101735386680763835789423207666416102355444464034512896 : Nat) : Int) = T := by omega
theorem add_fin {m n : Nat} {T k : Int} (hT : T = m + n - 6277101735386680763835789423207666416102355444464034512896 * k) (h0 : 0 ≤ T ∧ T < 6277101735386680763835789423207666416102355444464034512896) :
    (((m + n) % 6277101735386680763835789423207666416102355444464034512896 : Nat) : Int) = T := by omega
theorem w3_rng {x y z : Int} (hx : 0 ≤ x ∧ x < 18446744073709551616) (hy : 0 ≤ y ∧ y < 18446744073709551616) (hz : 0 ≤ z ∧ z < 18446744073709551616) :
    0 ≤ x + 18446744073709551616 * y + 340282366920938463463374607431768211456 * z ∧ x + 18446744073709551616 * y + 340282366920938463463374607431768211456 * z < 6277101735386680763835789423207666416102355444464034512896 := by omega
theorem add_lin {m n x y z x' y' z' s0 s1 s2 k0 k1 k2 : Int} (em : m = x + 18446744073709551616 * y + 340282366920938463463374607431768211456 * z) (en : n = x' + 18446744073709551616 * y' + 340282366920938463463374607431768211456 * z')
    (h0 : s0 + 18446744073709551616 * k0 = x + x' + 0) (h1 : s1 + 18446744073709551616 * k1 = y + y' + k0) (h2 : s2 + 18446744073709551616 * k2 = z + z' + k1) :
    s0 + 18446744073709551616 * s1 + 340282366920938463463374607431768211456 * s2 = m + n - 6277101735386680763835789423207666416102355444464034512896 * k2 := by omega
abbrev B64 : Nat := 18446744073709551616
abbrev B192 : Nat := 6277101735386680763835789423207666416102355444464034512896
/-- The words' number of a sum. -/
def sumM (S : Int) : Nat := (S % 6277101735386680763835789423207666416102355444464034512896).toNat
theorem sumM_lt (S : Int) : sumM S < 6277101735386680763835789423207666416102355444464034512896 := by unfold sumM; omega
theorem sumM_add (S T : Int) : (sumM S + sumM T) % 6277101735386680763835789423207666416102355444464034512896 = sumM (S + T) := by unfold sumM; omega
theorem sumM_neg (S : Int) : (6277101735386680763835789423207666416102355444464034512896 - sumM S) % 6277101735386680763835789423207666416102355444464034512896 = sumM (-S) := by unfold sumM; omega
theorem sumM_nat {n : Nat} (h : n < 6277101735386680763835789423207666416102355444464034512896) : sumM n = n := by unfold sumM; omega
/-- A sum's number, if it fits. -/
def totS (S : Int) : Int × Bool := if -9223372036854775808 ≤ S ∧ S ≤ 9223372036854775807 then (S, true) else (0, false)
theorem mul_bnd {a b : Int} (ha : inK .i64 a) (hb : inK .i64 b) : -85070591730234615865843651857942052864 ≤ a * b ∧ a * b ≤ 85070591730234615865843651857942052864 := by
  simp only [inK] at ha hb
  have h1 : a.natAbs * b.natAbs ≤ 9223372036854775808 * 9223372036854775808 := Nat.mul_le_mul (by omega) (by omega)
  have h2 : (a * b).natAbs = a.natAbs * b.natAbs := Int.natAbs_mul a b
  omega
theorem w3_small {p : Nat} (h : p < 340282366920938463463374607431768211456) : [Value.int .u64 ((p % 18446744073709551616 : Nat) : Int), .int .u64 ((p / 18446744073709551616 : Nat) : Int), .int .u64 0] = w3 p := w3_of (by omega) (by omega) (by omega) (by omega)
theorem sumM_mul {S x y : Int} {p : Nat} (hp : p < 340282366920938463463374607431768211456) (h : x * y = p) : (sumM S + p) % 6277101735386680763835789423207666416102355444464034512896 = sumM (S + x * y) := by
  rw [h, ← sumM_add, sumM_nat (by omega)]
theorem sumM_muln {S x y : Int} {p : Nat} (hp : p < 340282366920938463463374607431768211456) (h : x * y = -p) : (sumM S + (6277101735386680763835789423207666416102355444464034512896 - p) % 6277101735386680763835789423207666416102355444464034512896) % 6277101735386680763835789423207666416102355444464034512896 = sumM (S + x * y) := by
  have := sumM_neg (p : Int)
  rw [sumM_nat (by omega)] at this
  rw [h, ← sumM_add, ← this]
theorem mul_signs {x y : Int} : (x < 0 → y < 0 → x * y = ((x.natAbs * y.natAbs : Nat) : Int)) ∧ (¬ x < 0 → ¬ y < 0 → x * y = ((x.natAbs * y.natAbs : Nat) : Int)) ∧ (x < 0 → ¬ y < 0 → x * y = -((x.natAbs * y.natAbs : Nat) : Int)) ∧ (¬ x < 0 → y < 0 → x * y = -((x.natAbs * y.natAbs : Nat) : Int)) := by
  refine ⟨fun h1 h2 => ?_, fun h1 h2 => ?_, fun h1 h2 => ?_, fun h1 h2 => ?_⟩
  · have e1 : ((x.natAbs : Nat) : Int) = -x := by omega
    have e2 : ((y.natAbs : Nat) : Int) = -y := by omega
    rw [Int.natCast_mul, e1, e2, Int.neg_mul_neg]
  · have e1 : ((x.natAbs : Nat) : Int) = x := by omega
    have e2 : ((y.natAbs : Nat) : Int) = y := by omega
    rw [Int.natCast_mul, e1, e2]
  · have e1 : ((x.natAbs : Nat) : Int) = -x := by omega
    have e2 : ((y.natAbs : Nat) : Int) = y := by omega
    rw [Int.natCast_mul, e1, e2, Int.neg_mul, Int.neg_neg]
  · have e1 : ((x.natAbs : Nat) : Int) = x := by omega
    have e2 : ((y.natAbs : Nat) : Int) = -y := by omega
    rw [Int.natCast_mul, e1, e2, Int.mul_neg, Int.neg_neg]
theorem mulN_bnd {x y : Int} (hx : -9223372036854775808 ≤ x ∧ x ≤ 9223372036854775807) (hy : -9223372036854775808 ≤ y ∧ y ≤ 9223372036854775807) : x.natAbs * y.natAbs < 340282366920938463463374607431768211456 := by
  have h1 : x.natAbs * y.natAbs ≤ 9223372036854775808 * 9223372036854775808 := Nat.mul_le_mul (by omega) (by omega)
  omega
def BigS (S : Int) : Prop := -(3138550867693340381917894711603833208051177722232017256448) ≤ S ∧ S < 3138550867693340381917894711603833208051177722232017256448
/-- A sum's words and its number. -/
theorem tot_pos {S a b c : Int} (hS : BigS S) (h : (sumM S : Int) = a + 18446744073709551616 * b + 340282366920938463463374607431768211456 * c) (ha : 0 ≤ a ∧ a < 9223372036854775808) (hb : 0 ≤ b ∧ b < 18446744073709551616) (hc : 0 ≤ c ∧ c < 18446744073709551616) :
    totS S = if b = 0 ∧ c = 0 then (a, true) else (0, false) := by
  unfold BigS at hS
  unfold sumM at h
  unfold totS
  by_cases h2 : b = 0 ∧ c = 0
  · have : S = a := by omega
    rw [if_pos h2, if_pos (by omega), this]
  · rw [if_neg h2, if_neg]
    intro h3
    omega
theorem tot_neg {S a b c : Int} (hS : BigS S) (h : (sumM S : Int) = a + 18446744073709551616 * b + 340282366920938463463374607431768211456 * c) (ha : 9223372036854775808 ≤ a ∧ a < 18446744073709551616) (hb : 0 ≤ b ∧ b < 18446744073709551616) (hc : 0 ≤ c ∧ c < 18446744073709551616) :
    totS S = if b = 18446744073709551615 ∧ c = 18446744073709551615 then (a - 18446744073709551616, true) else (0, false) := by
  unfold BigS at hS
  unfold sumM at h
  unfold totS
  by_cases h2 : b = 18446744073709551615 ∧ c = 18446744073709551615
  · have : S = a - 18446744073709551616 := by omega
    rw [if_pos h2, if_pos (by omega), this]
  · rw [if_neg h2, if_neg]
    intro h3
    omega
end Go.Eng

/-
  Plain laws of layer 28: volumes.
-/
namespace Go.Eng
open Go

/-- A pair: nine numbers: kind, account, order, symbol, side, quantity, price, code, need. -/
def pg (p : List Int) (i : Nat) : Int := p.getD i 0
def isO (p : List Int) (o : Int) : Bool := decide (pg p 0 = 4 ∧ pg p 7 = 0 ∧ pg p 2 = o)
/-- The symbol of the last order of that number. -/
def ordS (L : List (List Int)) (o : Int) : Option Int := (L.reverse.find? fun p => isO p o).map fun p => pg p 3
/-- What a pair counts: symbol, quantity, price. -/
def cntAt (L : List (List Int)) (i : Nat) : Option (Int × Int × Int) := match L[i]? with
  | some p => if pg p 0 = 5 ∧ pg p 7 = 0 then (ordS (L.take i) (pg p 2)).map fun s => (s, pg p 5, pg p 6) else none
  | none => none
def cn (L : List (List Int)) (n : Nat) : List (Int × Int × Int) := (List.range n).filterMap (cntAt L)
theorem cn_succ (L : List (List Int)) (n : Nat) : cn L (n + 1) = cn L n ++ (cntAt L n).toList := by
  unfold cn; rw [List.range_succ, List.filterMap_append]
  congr 1
theorem cn_len (L : List (List Int)) (n : Nat) : (cn L n).length ≤ n := by
  have := List.length_filterMap_le (cntAt L) (List.range n)
  simpa [cn] using this
def sq (l : List (Int × Int × Int)) (s : Int) : Int := ((l.filter fun c => decide (c.1 = s)).map fun c => c.2.1).sum
def sa (l : List (Int × Int × Int)) (s : Int) : Int := ((l.filter fun c => decide (c.1 = s)).map fun c => c.2.1 * c.2.2).sum
theorem sq_snoc (l : List (Int × Int × Int)) (c : Int × Int × Int) (s : Int) : sq (l ++ [c]) s = sq l s + (if c.1 = s then c.2.1 else 0) := by
  unfold sq; rw [List.filter_append]
  by_cases h : c.1 = s <;> simp [h]
theorem sa_snoc (l : List (Int × Int × Int)) (c : Int × Int × Int) (s : Int) : sa (l ++ [c]) s = sa l s + (if c.1 = s then c.2.1 * c.2.2 else 0) := by
  unfold sa; rw [List.filter_append]
  by_cases h : c.1 = s <;> simp [h]
theorem sq_none {l : List (Int × Int × Int)} {s : Int} (h : s ∉ l.map (·.1)) : sq l s = 0 ∧ sa l s = 0 := by
  have : l.filter (fun c => decide (c.1 = s)) = [] := by
    rw [List.filter_eq_nil_iff]; intro c hc e
    exact h (by rw [← of_decide_eq_true e]; exact List.mem_map_of_mem hc)
  unfold sq sa; rw [this]; exact ⟨rfl, rfl⟩
/-- A volume: symbol, both sums, whether they fit. -/
def volR (l : List (Int × Int × Int)) (s : Int) : Int × Int × Int × Bool :=
  if (totS (sq l s)).2 = true ∧ (totS (sa l s)).2 = true then (s, (totS (sq l s)).1, (totS (sa l s)).1, true) else (s, 0, 0, false)
def vC (v : Int × Int × Int × Bool) : List Value := [.int .i64 v.1, .int .i64 v.2.1, .int .i64 v.2.2.1, .bool v.2.2.2]
theorem cn_in {L : List (List Int)} (hL : ∀ p, p ∈ L → ∀ x, x ∈ p → inK .i64 x) {n : Nat} {c : Int × Int × Int} (hc : c ∈ cn L n) : inK .i64 c.2.1 ∧ inK .i64 c.2.2 := by
  obtain ⟨i, -, hi⟩ := List.mem_filterMap.1 hc
  unfold cntAt at hi
  split at hi
  · rename_i p hp
    split at hi
    · obtain ⟨s, -, rfl⟩ := Option.map_eq_some_iff.1 hi
      have hm := List.mem_of_getElem? hp
      have h0 : ∀ k, inK .i64 (pg p k) := fun k => by
        unfold pg; rw [List.getD_eq_getElem?_getD]
        cases hx : p[k]? with
        | none => simp [inK]
        | some x => exact hL p hm x (List.mem_of_getElem? hx)
      exact ⟨h0 5, h0 6⟩
    · cases hi
  · cases hi
theorem sums_bnd {s : Int} : ∀ {l : List (Int × Int × Int)}, (∀ c, c ∈ l → inK .i64 c.2.1 ∧ inK .i64 c.2.2) →
    (-(9223372036854775808 * (l.length : Int)) ≤ sq l s ∧ sq l s ≤ 9223372036854775808 * (l.length : Int)) ∧ (-(85070591730234615865843651857942052864 * (l.length : Int)) ≤ sa l s ∧ sa l s ≤ 85070591730234615865843651857942052864 * (l.length : Int)) := by
  intro l
  induction l with
  | nil => intro _; simp [sq, sa]
  | cons c l ih =>
    intro h
    obtain ⟨h1, h2⟩ := ih fun x hx => h x (by simp [hx])
    obtain ⟨c1, c2⟩ := h c (by simp)
    have hm := mul_bnd c1 c2
    simp only [inK] at c1
    have e1 : sq (c :: l) s = (if c.1 = s then c.2.1 else 0) + sq l s := by unfold sq; by_cases h : c.1 = s <;> simp [h]
    have e2 : sa (c :: l) s = (if c.1 = s then c.2.1 * c.2.2 else 0) + sa l s := by unfold sa; by_cases h : c.1 = s <;> simp [h]
    rw [e1, e2, List.length_cons]
    constructor <;> constructor <;> split <;> push_cast <;> omega
theorem sums_big {L : List (List Int)} (hL : ∀ p, p ∈ L → ∀ x, x ∈ p → inK .i64 x) {n : Nat} (hn : n ≤ 1000000) (s : Int) : BigS (sq (cn L n) s) ∧ BigS (sa (cn L n) s) := by
  have h := sums_bnd (s := s) fun c hc => cn_in hL (n := n) hc
  have hl := cn_len L n
  have hl2 : ((cn L n).length : Int) ≤ 1000000 := by omega
  unfold BigS
  omega
theorem strictEq : ∀ {l1 l2 : List Int}, l1.Pairwise (· < ·) → l2.Pairwise (· < ·) → (∀ x, x ∈ l1 ↔ x ∈ l2) → l1 = l2
  | [], [], _, _, _ => rfl
  | [], y :: l2, _, _, h => by have := (h y).2 (by simp); simp at this
  | x :: l1, [], _, _, h => by have := (h x).1 (by simp); simp at this
  | x :: l1, y :: l2, h1, h2, h => by
    rw [List.pairwise_cons] at h1 h2
    have hxy : x = y := by
      have a := (h x).1 (by simp)
      have b := (h y).2 (by simp)
      rcases List.mem_cons.1 a with rfl | a
      · rfl
      · rcases List.mem_cons.1 b with rfl | b
        · rfl
        · have := h1.1 _ b; have := h2.1 _ a; omega
    subst hxy
    congr 1
    refine strictEq h1.2 h2.2 fun z => ⟨fun hz => ?_, fun hz => ?_⟩
    · rcases List.mem_cons.1 ((h z).1 (by simp [hz])) with rfl | r
      · have := h1.1 _ hz; omega
      · exact r
    · rcases List.mem_cons.1 ((h z).2 (by simp [hz])) with rfl | r
      · have := h2.1 _ hz; omega
      · exact r
end Go.Eng

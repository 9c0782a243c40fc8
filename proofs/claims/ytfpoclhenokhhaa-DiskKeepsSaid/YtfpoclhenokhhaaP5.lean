/-
  Plain laws of layers 1 and 11: numbers read again, columns read again.
-/
import Derived.Test.YtfpoclhenokhhaaP4
namespace Go.Eng

theorem u8_id (c : UInt8) : UInt8.ofNat c.toNat = c := by simp
theorem u8_of {c : UInt8} {n : Nat} (h : c.toNat = n) : UInt8.ofNat n = c := by subst h; simp

/-- A number's bytes are read as it. -/
theorem digP_put : ∀ (n k acc : Nat) (rest : List UInt8), n * 128 ^ k < 18446744073709551616 → k ≤ 9 → (0 < k → 0 < n) → digP (numL n ++ rest) k acc = (acc + n * 128 ^ k, k + (numL n).length, 0) := by
  intro n
  induction n using Nat.strongRecOn with
  | _ n ih =>
  intro k acc rest hb h9 h0
  by_cases h : n < 128
  · rw [numL_small h]
    have e : (UInt8.ofNat n).toNat = n := by simp; omega
    simp only [List.cons_append, List.nil_append, digP, e, List.length_singleton]
    rw [if_neg, if_pos h, if_neg]
    · omega
    · intro hh; rw [hh.1] at hb; have : (128 : Nat) ^ 9 = 9223372036854775808 := by decide
      omega
  · rw [numL_big (by omega)]
    have e : (UInt8.ofNat (n % 128 + 128)).toNat = n % 128 + 128 := by simp; omega
    have hk : k < 9 := by
      rcases Nat.lt_or_ge k 9 with h | h
      · exact h
      · have : k = 9 := by omega
        subst this
        have : (128 : Nat) ^ 9 = 9223372036854775808 := by decide
        omega
    have hdm : n / 128 * 128 + n % 128 = n := by omega
    have hle : n / 128 * 128 ^ (k + 1) ≤ n * 128 ^ k := by
      rw [Nat.pow_succ, Nat.mul_comm (128 ^ k) 128, ← Nat.mul_assoc]
      exact Nat.mul_le_mul_right _ (by omega)
    simp only [List.cons_append, digP, e]
    rw [if_neg (by omega), if_neg (by omega), ih (n / 128) (by omega) (k + 1) _ rest (by omega) (by omega) (fun _ => by omega)]
    simp only [List.length_cons]
    refine Prod.ext ?_ (Prod.ext ?_ rfl)
    · simp only
      rw [show (n % 128 + 128) % 128 = n % 128 by omega]
      conv => rhs; rw [← hdm]
      rw [Nat.pow_succ, Nat.add_mul, Nat.mul_comm (128 ^ k) 128, ← Nat.mul_assoc]; omega
    · simp only; omega
theorem digP_put0 {n : Nat} (h : n < 18446744073709551616) (rest : List UInt8) : digP (numL n ++ rest) 0 0 = (n, (numL n).length, 0) := by
  rw [digP_put n 0 0 rest (by simpa using h) (by omega) (by omega)]; simp

/-- What is read is a number's bytes. -/
theorem digP_get : ∀ (l : List UInt8) (k acc x j : Nat), digP l k acc = (x, j, 0) → ∃ n, x = acc + n * 128 ^ k ∧ l.take (j - k) = numL n ∧ (numL n).length = j - k ∧ (0 < k → 0 < n)
  | [], k, acc, x, j, h => by simp [digP] at h
  | c :: l, k, acc, x, j, h => by
    simp only [digP] at h
    split at h
    · simp at h
    · split at h
      · rename_i h1 h2
        split at h
        · simp at h
        · rename_i h3
          simp only [Prod.mk.injEq, and_true] at h
          obtain ⟨rfl, rfl⟩ := h
          refine ⟨c.toNat, rfl, ?_, ?_, by omega⟩
          · rw [show k + 1 - k = 1 by omega, numL_small h2, u8_id]; rfl
          · rw [numL_small h2]; simp
      · rename_i h1 h2
        have hj := digP_k' l (k + 1) (acc + (c.toNat % 128) * 128 ^ k)
        rw [h] at hj
        simp only at hj
        obtain ⟨n, hx, ht, hl, hn⟩ := digP_get l (k + 1) _ x j h
        have hn := hn (by omega)
        have hc := c.toNat_lt
        have e : numL (c.toNat % 128 + 128 * n) = c :: numL n := by
          rw [numL_big (by omega), show (c.toNat % 128 + 128 * n) % 128 + 128 = c.toNat by omega, u8_id, show (c.toNat % 128 + 128 * n) / 128 = n by omega]
        refine ⟨c.toNat % 128 + 128 * n, ?_, ?_, ?_, fun _ => by omega⟩
        · rw [hx, Nat.pow_succ, Nat.add_mul, Nat.mul_comm (128 ^ k) 128, Nat.mul_comm 128 n, ← Nat.mul_assoc n 128 (128 ^ k)]; omega
        · rw [e, show j - k = (j - (k + 1)) + 1 by omega, List.take_succ_cons, ht]
        · rw [e, List.length_cons, hl]; omega
where
  digP_k' : ∀ (l : List UInt8) (k acc : Nat), k ≤ (digP l k acc).2.1
  | [], k, acc => by simp [digP]
  | c :: l, k, acc => by
    have ih := digP_k' l (k + 1) (acc + (c.toNat % 128) * 128 ^ k)
    simp only [digP]
    split
    · simp
    · split
      · split <;> simp
      · omega
theorem digP_get0 {l : List UInt8} {x j : Nat} (h : digP l 0 0 = (x, j, 0)) : l.take j = numL x ∧ (numL x).length = j := by
  obtain ⟨n, h1, h2, h3, _⟩ := digP_get l 0 0 x j h
  simp at h1; subst h1
  exact ⟨h2, h3⟩

/-- A number's fault: what its digits say, or too many. -/
def numE (l : List UInt8) (most : Nat) : Nat := if (digP l 0 0).2.2 = 0 ∧ most < (digP l 0 0).1 then 4 else (digP l 0 0).2.2
/-- The reader's numbers: what is read, the place, the fault. -/
def rdN (l : List UInt8) (a : Nat) (f : Int) (most : Nat) : Nat × Nat × Int :=
  if f ≠ 0 then (0, a, f) else if numE (l.drop a) most = 0 then ((digP (l.drop a) 0 0).1, a + (digP (l.drop a) 0 0).2.1, 0) else (0, a, numE (l.drop a) most)
def rdI (l : List UInt8) (a : Nat) (f : Int) : Int × Nat × Int :=
  if f ≠ 0 then (0, a, f) else if (digP (l.drop a) 0 0).2.2 = 0 then (zag (digP (l.drop a) 0 0).1, a + (digP (l.drop a) 0 0).2.1, 0) else (0, a, (digP (l.drop a) 0 0).2.2)

theorem digP_k : ∀ (l : List UInt8) (k acc : Nat), k ≤ (digP l k acc).2.1 ∧ (digP l k acc).2.1 ≤ k + l.length
  | [], k, acc => by simp [digP]
  | c :: l, k, acc => by
    have ih := digP_k l (k + 1) (acc + (c.toNat % 128) * 128 ^ k)
    simp only [digP]
    split
    · simp
    · split
      · split <;> simp
      · simp only [List.length_cons]; omega
theorem digP_lt : ∀ (l : List UInt8) (k acc : Nat), k ≤ 9 → acc < 128 ^ k → (digP l k acc).1 < 18446744073709551616
  | [], k, acc, _, _ => by simp [digP]
  | c :: l, k, acc, h9, ha => by
    have hc := c.toNat_lt
    have hp9 : (128 : Nat) ^ k ≤ 128 ^ 9 := Nat.pow_le_pow_right (by decide) h9
    simp only [digP]
    split
    · simp
    · split
      · split
        · simp
        · rename_i h1 h2 h3
          simp only
          by_cases h8 : k = 9
          · subst h8
            have : c.toNat ≤ 1 := by omega
            have : c.toNat * 128 ^ 9 ≤ 1 * 128 ^ 9 := Nat.mul_le_mul_right _ this
            omega
          · have h3 : c.toNat * 128 ^ k ≤ 127 * 128 ^ k := Nat.mul_le_mul_right _ (by omega)
            have h4 : (128 : Nat) ^ k ≤ 128 ^ 8 := Nat.pow_le_pow_right (by decide) (by omega)
            omega
      · rename_i h1 h2
        by_cases h8 : k = 9
        · omega
        · refine digP_lt l (k + 1) _ (by omega) ?_
          have h3 : c.toNat % 128 * 128 ^ k ≤ 127 * 128 ^ k := Nat.mul_le_mul_right _ (by omega)
          rw [Nat.pow_succ]; omega
theorem digP_e : ∀ (l : List UInt8) (k acc : Nat), (digP l k acc).2.2 ≤ 3
  | [], k, acc => by simp [digP]
  | c :: l, k, acc => by
    have ih := digP_e l (k + 1) (acc + (c.toNat % 128) * 128 ^ k)
    simp only [digP]
    split
    · simp
    · split
      · split <;> simp
      · exact ih
theorem rdN_a {l : List UInt8} {a : Nat} {f : Int} {most : Nat} (h : a ≤ l.length) : a ≤ (rdN l a f most).2.1 ∧ (rdN l a f most).2.1 ≤ l.length := by
  have := digP_k (l.drop a) 0 0
  rw [List.length_drop] at this
  unfold rdN; split; simp [h]; split <;> simp <;> omega
theorem rdI_a {l : List UInt8} {a : Nat} {f : Int} (h : a ≤ l.length) : a ≤ (rdI l a f).2.1 ∧ (rdI l a f).2.1 ≤ l.length := by
  have := digP_k (l.drop a) 0 0
  rw [List.length_drop] at this
  unfold rdI; split; simp [h]; split <;> simp <;> omega
theorem rdN_lt (l : List UInt8) (a : Nat) (f : Int) (most : Nat) : (rdN l a f most).1 ≤ most ∧ (rdN l a f most).1 < 18446744073709551616 := by
  have := digP_lt (l.drop a) 0 0 (by omega) (by simp)
  unfold rdN; split; simp; split
  · rename_i h
    unfold numE at h
    split at h
    · omega
    · simp only; omega
  · simp
theorem rdI_in (l : List UInt8) (a : Nat) (f : Int) : inK .i64 (rdI l a f).1 := by
  have := digP_lt (l.drop a) 0 0 (by omega) (by simp)
  unfold rdI; split
  · simp only [inK]; omega
  · split
    · exact zag_in this
    · simp only [inK]; omega
theorem numE_le (l : List UInt8) (most : Nat) : numE l most ≤ 4 := by
  have := digP_e l 0 0
  unfold numE; split <;> omega
theorem rdN_e (l : List UInt8) (a : Nat) (f : Int) (most : Nat) (h : 0 ≤ f ∧ f ≤ 4) : 0 ≤ (rdN l a f most).2.2 ∧ (rdN l a f most).2.2 ≤ 4 := by
  have := numE_le (l.drop a) most
  unfold rdN; split; exact h; split <;> simp; omega

theorem rdI_e (l : List UInt8) (a : Nat) (f : Int) (h : 0 ≤ f ∧ f ≤ 4) : 0 ≤ (rdI l a f).2.2 ∧ (rdI l a f).2.2 ≤ 4 := by
  have := digP_e (l.drop a) 0 0
  unfold rdI; split; exact h; split <;> simp; omega
theorem rdN_k0 {l : List UInt8} {a : Nat} {f : Int} {most : Nat} (h : (rdN l a f most).2.2 ≠ 0) : (rdN l a f most).1 = 0 := by
  unfold rdN at h ⊢
  split
  · rfl
  · rename_i h1
    split
    · rename_i h2; rw [if_neg h1, if_pos h2] at h; simp at h
    · rfl

/-- k steps on. -/
def stepsL (last d : Int) : Nat → List Int
  | 0 => []
  | k + 1 => IntKind.i64.wrap (last + d) :: stepsL (IntKind.i64.wrap (last + d)) d k
def stepsE (last d : Int) : Nat → Int
  | 0 => last
  | k + 1 => stepsE (IntKind.i64.wrap (last + d)) d k
theorem stepsL_len (last d : Int) : ∀ k, (stepsL last d k).length = k := by
  intro k
  induction k generalizing last with
  | zero => rfl
  | succ k ih => simp [stepsL, ih]
theorem stepsL_snoc (last d : Int) : ∀ k, stepsL last d (k + 1) = stepsL last d k ++ [IntKind.i64.wrap (stepsE last d k + d)] := by
  intro k
  induction k generalizing last with
  | zero => rfl
  | succ k ih => rw [stepsL, ih, stepsL]; rfl
theorem stepsE_snoc (last d : Int) : ∀ k, stepsE last d (k + 1) = IntKind.i64.wrap (stepsE last d k + d) := by
  intro k
  induction k generalizing last with
  | zero => rfl
  | succ k ih => rw [stepsE, ih, stepsE]
theorem stepsE_in {last d : Int} (h : inK .i64 last) : ∀ k, inK .i64 (stepsE last d k)
  | 0 => h
  | k + 1 => by rw [stepsE_snoc]; exact wrap64_in _

/-- A column read from a place on, with so many to come, the last difference, the last number, and those so far. -/
def colLoop (l : List UInt8) : Nat → Nat → Nat → Option Int → Int → List Int → List Int × Nat × Int
  | 0, a, _, _, _, out => (out, a, 0)
  | fuel + 1, a, lack, was, last, out =>
    if lack = 0 then (out, a, 0) else
    if (rdN l (rdI l a 0).2.1 (rdI l a 0).2.2 lack).2.2 ≠ 0 then ([], 0, (rdN l (rdI l a 0).2.1 (rdI l a 0).2.2 lack).2.2)
    else if (rdN l (rdI l a 0).2.1 (rdI l a 0).2.2 lack).1 = 0 ∨ was = some (rdI l a 0).1 then ([], 0, 3)
    else colLoop l fuel (rdN l (rdI l a 0).2.1 (rdI l a 0).2.2 lack).2.1 (lack - (rdN l (rdI l a 0).2.1 (rdI l a 0).2.2 lack).1) (some (rdI l a 0).1)
      (stepsE last (rdI l a 0).1 (rdN l (rdI l a 0).2.1 (rdI l a 0).2.2 lack).1) (out ++ stepsL last (rdI l a 0).1 (rdN l (rdI l a 0).2.1 (rdI l a 0).2.2 lack).1)
/-- A column's numbers, its bytes' number, the fault. -/
def colG (l : List UInt8) (most : Nat) : List Int × Nat × Int :=
  if (rdN l 0 0 most).2.2 ≠ 0 then ([], 0, (rdN l 0 0 most).2.2) else colLoop l (rdN l 0 0 most).1 (rdN l 0 0 most).2.1 (rdN l 0 0 most).1 none 0 []

theorem colLoop_zero (l : List UInt8) (fuel a : Nat) (was : Option Int) (last : Int) (out : List Int) : colLoop l fuel a 0 was last out = (out, a, 0) := by
  cases fuel <;> simp [colLoop]

/-- Runs as a column has them. -/
def VR : Option Int → List (Int × Nat) → Prop
  | _, [] => True
  | was, (d, k) :: rs => 1 ≤ k ∧ was ≠ some d ∧ inK .i64 d ∧ VR (some d) rs
def expR (last : Int) : List (Int × Nat) → List Int
  | [] => []
  | (d, k) :: rs => stepsL last d k ++ expR (stepsE last d k) rs
def repR (rs : List (Int × Nat)) : List Int := rs.flatMap fun x => List.replicate x.2 x.1
def cntR (rs : List (Int × Nat)) : Nat := (rs.map (·.2)).sum
theorem expR_len : ∀ (rs : List (Int × Nat)) (last : Int), (expR last rs).length = cntR rs
  | [], last => rfl
  | (d, k) :: rs, last => by simp [expR, stepsL_len, expR_len rs, cntR]
theorem wrap_back {last d : Int} (hd : inK .i64 d) : IntKind.i64.wrap (IntKind.i64.wrap (last + d) - last) = d := by
  simp only [inK] at hd; rw [wrap_i64, wrap_i64]; omega
theorem diffs_steps {d : Int} (hd : inK .i64 d) (rest : List Int) : ∀ (k : Nat) (last : Int), diffs last (stepsL last d k ++ rest) = List.replicate k d ++ diffs (stepsE last d k) rest
  | 0, last => rfl
  | k + 1, last => by
    simp only [stepsL, List.cons_append, diffs, wrap_back hd, List.replicate_succ, stepsE]
    rw [diffs_steps hd rest k]
theorem diffs_exp : ∀ (rs : List (Int × Nat)) (was : Option Int) (last : Int), VR was rs → diffs last (expR last rs) = repR rs
  | [], _, last, _ => rfl
  | (d, k) :: rs, was, last, h => by
    obtain ⟨_, _, hd, hr⟩ := h
    rw [expR, diffs_steps hd, diffs_exp rs _ _ hr]; rfl
theorem rle_rep2 : ∀ (rs : List (Int × Nat)) (was : Option Int), VR was rs → rle (repR rs) = rs
  | [], _, _ => rfl
  | (d, k) :: rs, was, h => by
    obtain ⟨hk, _, hd, hr⟩ := h
    have ih := rle_rep2 rs (some d) hr
    obtain ⟨k', rfl⟩ : ∃ k', k = k' + 1 := ⟨k - 1, by omega⟩
    have := rle_run d (repR rs) (fun e l he => ?_) k'
    · rw [ih] at this; exact this
    · cases rs with
      | nil => simp [repR] at he
      | cons x rs =>
        obtain ⟨d2, k2⟩ := x
        obtain ⟨hk2, hne, _, _⟩ := hr
        obtain ⟨k3, rfl⟩ : ∃ k3, k2 = k3 + 1 := ⟨k2 - 1, by omega⟩
        simp only [repR, List.flatMap_cons, List.replicate_succ, List.cons_append, List.cons.injEq] at he
        rw [← he.1]; intro e; exact hne (by rw [e])

theorem take_add_drop {α : Type} (l : List α) (a b : Nat) : l.take (a + b) = l.take a ++ (l.drop a).take b := List.take_add
theorem rdI_get {l : List UInt8} {a : Nat} (h : (rdI l a 0).2.2 = 0) : l.take (rdI l a 0).2.1 = l.take a ++ numL (zig (rdI l a 0).1) ∧ (rdI l a 0).2.1 = a + (numL (zig (rdI l a 0).1)).length := by
  unfold rdI at h ⊢
  simp only [ne_eq, not_true_eq_false, if_false] at h ⊢
  split
  · rename_i he
    obtain ⟨x, j, hD⟩ : ∃ x j, digP (l.drop a) 0 0 = (x, j, 0) := ⟨_, _, Prod.ext rfl (Prod.ext rfl he)⟩
    obtain ⟨h1, h2⟩ := digP_get0 hD
    simp only [hD, zig_zag]
    rw [take_add_drop, h1, h2]; exact ⟨rfl, rfl⟩
  · rename_i he; rw [if_neg he] at h; simp at h; omega
theorem rdN_get {l : List UInt8} {a most : Nat} (h : (rdN l a 0 most).2.2 = 0) : l.take (rdN l a 0 most).2.1 = l.take a ++ numL (rdN l a 0 most).1 ∧ (rdN l a 0 most).2.1 = a + (numL (rdN l a 0 most).1).length := by
  unfold rdN at h ⊢
  simp only [ne_eq, not_true_eq_false, if_false] at h ⊢
  split
  · rename_i he
    have he2 : (digP (l.drop a) 0 0).2.2 = 0 := by
      unfold numE at he; split at he <;> omega
    obtain ⟨x, j, hD⟩ : ∃ x j, digP (l.drop a) 0 0 = (x, j, 0) := ⟨_, _, Prod.ext rfl (Prod.ext rfl he2)⟩
    obtain ⟨h1, h2⟩ := digP_get0 hD
    simp only [hD]
    rw [take_add_drop, h1, h2]; exact ⟨rfl, rfl⟩
  · rename_i he; rw [if_neg he] at h; simp at h; omega
theorem rdN_f {l : List UInt8} {a : Nat} {f : Int} {most : Nat} (h : (rdN l a f most).2.2 = 0) : f = 0 := by
  unfold rdN at h
  split at h
  · simp only at h; omega
  · rename_i hf; simpa using hf

/-- What is read as a column is one. -/
theorem colLoop_get (l : List UInt8) : ∀ (fuel a lack : Nat) (was : Option Int) (last : Int) (out xs : List Int) (n : Nat), lack ≤ fuel → colLoop l fuel a lack was last out = (xs, n, 0) →
    ∃ rs, VR was rs ∧ xs = out ++ expR last rs ∧ cntR rs = lack ∧ l.take n = l.take a ++ rs.flatMap runB ∧ n = a + (rs.flatMap runB).length
  | 0, a, lack, was, last, out, xs, n, hl, h => by
    simp only [colLoop, Prod.mk.injEq, and_true] at h
    obtain ⟨rfl, rfl⟩ := h
    exact ⟨[], trivial, by simp [expR], by simp [cntR]; omega, by simp, by simp⟩
  | fuel + 1, a, lack, was, last, out, xs, n, hl, h => by
    rw [colLoop] at h
    split at h
    · rename_i h0
      simp only [Prod.mk.injEq, and_true] at h
      obtain ⟨rfl, rfl⟩ := h
      exact ⟨[], trivial, by simp [expR], by simp [cntR]; omega, by simp, by simp⟩
    · split at h
      · rename_i h1 h2
        simp only [Prod.mk.injEq] at h; exact (h2 h.2.2).elim
      · rename_i h1 h2
        have h2 : (rdN l (rdI l a 0).2.1 (rdI l a 0).2.2 lack).2.2 = 0 := by simpa using h2
        have hf := rdN_f h2
        have g1 := rdI_get hf
        have hd := rdI_in l a 0
        have g2 := rdN_lt l (rdI l a 0).2.1 (rdI l a 0).2.2 lack
        rw [hf] at h h2 g2
        have g3 := rdN_get h2
        split at h
        · simp only [Prod.mk.injEq] at h; omega
        · rename_i h3
          generalize (rdI l a 0).1 = d at *
          generalize (rdI l a 0).2.1 = a1 at *
          generalize (rdN l a1 0 lack).1 = k at *
          generalize (rdN l a1 0 lack).2.1 = a2 at *
          obtain ⟨rs, hv, hx, hc, ht, hn⟩ := colLoop_get l fuel _ _ _ _ _ xs n (by omega) h
          refine ⟨(d, k) :: rs, ⟨by omega, fun e => h3 (.inr e), hd, hv⟩, by rw [hx]; simp [expR], by simp only [cntR, List.map_cons, List.sum_cons] at hc ⊢; omega, ?_, ?_⟩
          · rw [ht, g3.1, g1.1]; simp [runB]
          · rw [hn, g3.2, g1.2]; simp [runB]; omega
theorem colG_get {l : List UInt8} {most : Nat} {xs : List Int} {n : Nat} (h : colG l most = (xs, n, 0)) : l.take n = colL xs ∧ n = (colL xs).length ∧ xs.length ≤ most := by
  unfold colG at h
  split at h
  · rename_i h1; simp only [Prod.mk.injEq] at h; omega
  · rename_i h1
    have h1 : (rdN l 0 0 most).2.2 = 0 := by simpa using h1
    have g := rdN_get h1
    have g2 := rdN_lt l 0 0 most
    obtain ⟨rs, hv, hx, hc, ht, hn⟩ := colLoop_get l _ _ _ _ _ _ xs n (Nat.le_refl _) h
    have hl : xs.length = (rdN l 0 0 most).1 := by rw [hx]; simp [expR_len, hc]
    have hr : rle (diffs 0 xs) = rs := by rw [hx, List.nil_append, diffs_exp rs _ 0 hv, rle_rep2 rs _ hv]
    have e : colL xs = numL (rdN l 0 0 most).1 ++ rs.flatMap runB := by rw [colL, hr, hl]
    rw [e]
    refine ⟨?_, ?_, by omega⟩
    · rw [ht, g.1]; simp
    · rw [hn, g.2]; simp

theorem colLoop_len (l : List UInt8) : ∀ (fuel a lack : Nat) (was : Option Int) (last : Int) (out : List Int), (colLoop l fuel a lack was last out).1.length ≤ out.length + lack
  | 0, a, lack, was, last, out => by simp [colLoop]
  | fuel + 1, a, lack, was, last, out => by
    have := rdN_lt l (rdI l a 0).2.1 (rdI l a 0).2.2 lack
    rw [colLoop]
    split
    · simp
    · split
      · simp
      · split
        · simp
        · refine Nat.le_trans (colLoop_len l fuel _ _ _ _ _) ?_
          rw [List.length_append, stepsL_len]; omega
theorem colG_len (l : List UInt8) (most : Nat) : (colG l most).1.length ≤ most := by
  have := rdN_lt l 0 0 most
  unfold colG
  split
  · simp
  · refine Nat.le_trans (colLoop_len l _ _ _ _ _ _) ?_
    simp; omega

/-- A column that was put is read. -/
theorem rdI_put {l : List UInt8} {a : Nat} {d : Int} {rest : List UInt8} (hd : inK .i64 d) (h : l.drop a = numL (zig d) ++ rest) : rdI l a 0 = (d, a + (numL (zig d)).length, 0) := by
  unfold rdI
  rw [h, digP_put0 (zig_lt hd)]
  simp [zag_zig]
theorem rdN_put {l : List UInt8} {a n most : Nat} {rest : List UInt8} (hn : n < 18446744073709551616) (hm : n ≤ most) (h : l.drop a = numL n ++ rest) : rdN l a 0 most = (n, a + (numL n).length, 0) := by
  unfold rdN numE
  rw [h, digP_put0 hn]
  have : ¬ most < n := by omega
  simp [this]
theorem drop_app {α : Type} {l x r : List α} {a : Nat} (h : l.drop a = x ++ r) : l.drop (a + x.length) = r := by
  rw [← List.drop_drop, h, List.drop_left]
theorem colLoop_put (l rest : List UInt8) : ∀ (rs : List (Int × Nat)) (fuel a lack : Nat) (was : Option Int) (last : Int) (out : List Int), VR was rs → cntR rs = lack → lack ≤ fuel → lack < 18446744073709551616 → l.drop a = rs.flatMap runB ++ rest →
    colLoop l fuel a lack was last out = (out ++ expR last rs, a + (rs.flatMap runB).length, 0)
  | [], fuel, a, lack, was, last, out, _, hc, _, _, _ => by
    simp [cntR] at hc; subst hc
    rw [colLoop_zero]; simp [expR]
  | (d, k) :: rs, fuel, a, lack, was, last, out, hv, hc, hf, h64, h => by
    obtain ⟨hk, hne, hd, hv⟩ := hv
    simp only [cntR, List.map_cons, List.sum_cons] at hc
    obtain ⟨fuel, rfl⟩ : ∃ g, fuel = g + 1 := ⟨fuel - 1, by omega⟩
    simp only [List.flatMap_cons, runB, List.append_assoc] at h
    have e1 := rdI_put hd h
    have h2 := drop_app h
    have e2 := rdN_put (most := lack) (by omega) (by omega) h2
    have h3 := drop_app h2
    rw [colLoop, if_neg (by omega)]
    simp only [e1, e2]
    rw [if_neg (by simp), if_neg (by intro e; rcases e with e | e; omega; exact hne e)]
    rw [colLoop_put l rest rs fuel _ (lack - k) (some d) _ _ hv (by simp only [cntR]; omega) (by omega) (by omega) h3]
    simp [expR, runB, Nat.add_assoc]

theorem diffs_inj : ∀ (xs ys : List Int) (a : Int), (∀ x, x ∈ xs → inK .i64 x) → (∀ x, x ∈ ys → inK .i64 x) → diffs a xs = diffs a ys → xs = ys
  | [], [], _, _, _, _ => rfl
  | [], y :: ys, a, _, _, h => by simp [diffs] at h
  | x :: xs, [], a, _, _, h => by simp [diffs] at h
  | x :: xs, y :: ys, a, hx, hy, h => by
    simp only [diffs, List.cons.injEq] at h
    have h1 := hx x (by simp)
    have h2 := hy y (by simp)
    have e : x = y := by
      have := h.1
      simp only [inK] at h1 h2
      rw [wrap_i64, wrap_i64] at this; omega
    subst e
    rw [diffs_inj xs ys x (fun z hz => hx z (by simp [hz])) (fun z hz => hy z (by simp [hz])) h.2]
theorem rle_flat : ∀ l : List Int, repR (rle l) = l
  | [] => rfl
  | d :: l => by
    have ih := rle_flat l
    rw [rle]
    split
    · rename_i h
      rw [h] at ih; simp [repR] at ih; subst ih; rfl
    · rename_i e n r h
      rw [h] at ih
      split
      · rename_i he
        subst he
        simp only [repR, List.flatMap_cons, List.replicate_succ, List.cons_append] at ih ⊢
        rw [ih]
      · simp only [repR, List.flatMap_cons, List.replicate_one, List.cons_append, List.nil_append] at ih ⊢
        rw [ih]
theorem rle_VR : ∀ (l : List Int) (was : Option Int), (∀ x, x ∈ l → inK .i64 x) → (∀ d n r, rle l = (d, n) :: r → was ≠ some d) → VR was (rle l)
  | [], _, _, _ => trivial
  | d :: l, was, hin, hne => by
    have hd := hin d (by simp)
    have hw : was ≠ some d := by
      obtain ⟨n, r, h⟩ := rle_head d l
      exact hne d n r h
    have ih := fun was => rle_VR l was (fun x hx => hin x (by simp [hx]))
    rw [rle]
    split
    · exact ⟨Nat.le_refl _, hw, hd, trivial⟩
    · rename_i e n r h
      by_cases he : e = d
      · rw [if_pos he]
        have := ih none (fun _ _ _ _ => by simp)
        rw [h] at this
        obtain ⟨h1, h2, h3, h4⟩ := this
        exact ⟨by omega, hw, hd, by rw [← he]; exact h4⟩
      · rw [if_neg he]
        have := ih (some d) (fun e' n' r' h' => by rw [h] at h'; cases h'; intro e2; cases e2; exact he rfl)
        rw [h] at this
        exact ⟨Nat.le_refl _, hw, hd, this⟩
theorem stepsL_in (last d : Int) : ∀ (k : Nat) (x : Int), x ∈ stepsL last d k → inK .i64 x := by
  intro k
  induction k generalizing last with
  | zero => intro x h; simp [stepsL] at h
  | succ k ih =>
    intro x h
    simp only [stepsL, List.mem_cons] at h
    rcases h with rfl | h
    · exact wrap64_in _
    · exact ih _ x h
theorem expR_in : ∀ (rs : List (Int × Nat)) (last : Int) (x : Int), x ∈ expR last rs → inK .i64 x
  | [], last, x, h => by simp [expR] at h
  | (d, k) :: rs, last, x, h => by
    simp only [expR, List.mem_append] at h
    rcases h with h | h
    · exact stepsL_in _ _ _ _ h
    · exact expR_in rs _ x h
theorem exp_rle {xs : List Int} (h : ∀ x, x ∈ xs → inK .i64 x) : VR none (rle (diffs 0 xs)) ∧ expR 0 (rle (diffs 0 xs)) = xs := by
  have hv : VR none (rle (diffs 0 xs)) := rle_VR _ _ (fun x hx => diffs_in _ _ _ hx) (by simp)
  refine ⟨hv, diffs_inj _ _ 0 (fun x hx => expR_in _ _ _ hx) h ?_⟩
  rw [diffs_exp _ _ 0 hv, rle_flat]
theorem colG_put {xs : List Int} (h : ∀ x, x ∈ xs → inK .i64 x) (rest : List UInt8) {most : Nat} (hm : xs.length ≤ most) (h64 : xs.length < 18446744073709551616) : colG (colL xs ++ rest) most = (xs, (colL xs).length, 0) := by
  obtain ⟨hv, he⟩ := exp_rle h
  have hl : cntR (rle (diffs 0 xs)) = xs.length := by rw [← expR_len _ 0, he]
  have e : (colL xs ++ rest).drop 0 = numL xs.length ++ ((rle (diffs 0 xs)).flatMap runB ++ rest) := by simp [colL]
  have e1 := rdN_put (most := most) h64 hm e
  unfold colG
  simp only [e1]
  rw [if_neg (by simp), colLoop_put _ rest _ _ _ _ none 0 [] hv hl (Nat.le_refl _) h64 (drop_app e), he]
  simp [colL]

/-- Runs, made number by number. -/
def addR (rs : List (Int × Nat)) (d : Int) : List (Int × Nat) := match rs.getLast? with
  | some (e, n) => if e = d then rs.dropLast ++ [(d, n + 1)] else rs ++ [(d, 1)]
  | none => [(d, 1)]
theorem rle_snoc : ∀ (l : List Int) (d : Int), rle (l ++ [d]) = addR (rle l) d
  | [], d => rfl
  | x :: l, d => by
    have ih := rle_snoc l d
    rw [List.cons_append, rle, ih]
    cases hr : rle l with
    | nil =>
      have hl : l = [] := by
        cases l with
        | nil => rfl
        | cons y l => obtain ⟨n, r, h⟩ := rle_head y l; rw [h] at hr; cases hr
      subst hl
      simp only [addR, List.getLast?_nil, rle, List.getLast?_singleton, List.dropLast_singleton, List.nil_append, List.cons_append]
      by_cases h : d = x
      · subst h; simp
      · rw [if_neg h, if_neg (fun e => h e.symm)]
    | cons y r =>
      obtain ⟨e, n⟩ := y
      rw [rle, hr]
      cases r with
      | nil =>
        simp only [addR, List.getLast?_singleton, List.dropLast_singleton, List.nil_append, List.cons_append]
        by_cases h1 : e = d <;> by_cases h2 : e = x <;> simp_all
      | cons z r =>
        have hg : ∀ (a : Int × Nat), (a :: z :: r).getLast? = (z :: r).getLast? := fun a => by simp [List.getLast?_cons_cons]
        have hd : ∀ (a : Int × Nat), (a :: z :: r).dropLast = a :: (z :: r).dropLast := fun a => rfl
        obtain ⟨q, hq⟩ : ∃ q, (z :: r).getLast? = some q := ⟨_, List.getLast?_eq_some_getLast (by simp)⟩
        obtain ⟨f, m⟩ := q
        have a1 : addR ((e, n) :: z :: r) d = (e, n) :: (if f = d then (z :: r).dropLast ++ [(d, m + 1)] else (z :: r) ++ [(d, 1)]) := by
          unfold addR; rw [hg, hq]; simp only [hd]; split <;> rfl
        rw [a1]
        simp only
        split
        · rename_i he
          subst he
          unfold addR
          rw [hg, hq]; simp only [hd]; split <;> rfl
        · unfold addR
          rw [show ((x, 1) :: (e, n) :: z :: r).getLast? = some (f, m) by rw [List.getLast?_cons_cons, hg, hq]]
          simp only [List.dropLast_cons_cons, hd]
          split <;> rfl
end Go.Eng

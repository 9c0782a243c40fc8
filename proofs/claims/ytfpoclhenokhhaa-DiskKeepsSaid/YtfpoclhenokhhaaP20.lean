/-
  Plain laws of layer 9: byte strings in order; lists of files.
-/
import Derived.Test.YtfpoclhenokhhaaE25
namespace Go.Eng
open Go

theorem putL_gen {α : Type} : ∀ (ys l : List α) (i : Nat), i + ys.length ≤ l.length → putL l i ys = l.take i ++ ys ++ l.drop (i + ys.length)
  | [], l, i, _ => by simp [putL]
  | y :: ys, l, i, h => by
    simp only [List.length_cons] at h
    rw [putL, putL_gen ys (setL l i y) (i + 1) (by rw [setL_eq, List.length_set]; omega), setL_eq]
    have h1 : (l.set i y).take (i + 1) = l.take i ++ [y] := by
      rw [List.take_add_one, List.take_set_of_le (Nat.le_refl _), List.getElem?_set_self (by omega)]; rfl
    have h2 : (l.set i y).drop (i + 1 + ys.length) = l.drop (i + (y :: ys).length) := by
      rw [List.drop_set_of_lt (by omega)]; congr 1; simp; omega
    rw [h1, h2]; simp
theorem putL_all {α : Type} {l ys : List α} (h : l.length = ys.length) : putL l 0 ys = ys := by
  rw [putL_gen ys l 0 (by omega)]; simp [List.drop_of_length_le (Nat.le_of_eq h)]

theorem u8_lt_iff (a b : UInt8) : a < b ↔ a.toNat < b.toNat := Iff.rfl
theorem u8_ext {a b : UInt8} (h : a.toNat = b.toNat) : a = b := UInt8.toNat_inj.1 h
theorem less_irrefl : ∀ a : List UInt8, Op.bytesLess a a = false
  | [] => rfl
  | x :: a => by
    have h : ¬ x < x := by rw [u8_lt_iff]; omega
    simp [Op.bytesLess, h, less_irrefl a]
theorem less_cons {x y : UInt8} {a b : List UInt8} : Op.bytesLess (x :: a) (y :: b) = true ↔ x < y ∨ x = y ∧ Op.bytesLess a b = true := by
  simp [Op.bytesLess]
theorem less_trans : ∀ {a b c : List UInt8}, Op.bytesLess a b = true → Op.bytesLess b c = true → Op.bytesLess a c = true
  | a, b, [], _, h => by cases b <;> simp [Op.bytesLess] at h
  | a, [], c :: cs, h, _ => by cases a <;> simp [Op.bytesLess] at h
  | [], y :: b, z :: c, _, _ => rfl
  | x :: a, y :: b, z :: c, h1, h2 => by
    rw [less_cons] at h1 h2 ⊢
    rcases h1 with h1 | ⟨rfl, h1⟩
    · rcases h2 with h2 | ⟨rfl, h2⟩
      · left; rw [u8_lt_iff] at *; omega
      · exact .inl h1
    · rcases h2 with h2 | ⟨rfl, h2⟩
      · exact .inl h2
      · exact .inr ⟨rfl, less_trans h1 h2⟩
theorem less_tri : ∀ (a b : List UInt8), Op.bytesLess a b = true ∨ a = b ∨ Op.bytesLess b a = true
  | [], [] => .inr (.inl rfl)
  | [], _ :: _ => .inl rfl
  | _ :: _, [] => .inr (.inr rfl)
  | x :: a, y :: b => by
    rcases Nat.lt_trichotomy x.toNat y.toNat with h | h | h
    · exact .inl (less_cons.2 (.inl h))
    · have := u8_ext h
      subst this
      rcases less_tri a b with h | h | h
      · exact .inl (less_cons.2 (.inr ⟨rfl, h⟩))
      · exact .inr (.inl (by rw [h]))
      · exact .inr (.inr (less_cons.2 (.inr ⟨rfl, h⟩)))
    · exact .inr (.inr (less_cons.2 (.inl h)))
theorem less_asymm {a b : List UInt8} (h : Op.bytesLess a b = true) : Op.bytesLess b a = false := by
  cases hb : Op.bytesLess b a with
  | false => rfl
  | true => have := less_trans h hb; rw [less_irrefl] at this; cases this
theorem less_ne {a b : List UInt8} (h : Op.bytesLess a b = true) : a ≠ b := by
  rintro rfl; rw [less_irrefl] at h; cases h

theorem risN_mono {S : FL} (h : risN S = true) : ∀ (d i : Nat) (x y : List UInt8 × List UInt8), S[i]? = some x → S[i + 1 + d]? = some y → Op.bytesLess x.1 y.1 = true
  | 0, i, x, y, hx, hy => (risN_iff S).1 h i x y hx hy
  | d + 1, i, x, y, hx, hy => by
    obtain ⟨z, hz⟩ : ∃ z, S[i + 1]? = some z := ⟨_, List.getElem?_eq_getElem (by have := (List.getElem?_eq_some_iff.1 hy).1; omega)⟩
    have h1 := (risN_iff S).1 h i x z hx hz
    have h2 := risN_mono h d (i + 1) z y hz (by rw [← hy]; congr 1; omega)
    exact less_trans h1 h2
theorem risN_lt {S : FL} (h : risN S = true) {i k : Nat} {x y : List UInt8 × List UInt8} (hik : i < k) (hx : S[i]? = some x) (hy : S[k]? = some y) : Op.bytesLess x.1 y.1 = true :=
  risN_mono h (k - (i + 1)) i x y hx (by rw [show i + 1 + (k - (i + 1)) = k by omega]; exact hy)
theorem risN_tail {p : List UInt8 × List UInt8} {S : FL} (h : risN (p :: S) = true) : risN S = true := by
  cases S with
  | nil => rfl
  | cons q S => rw [risN, Bool.and_eq_true] at h; exact h.2
theorem risN_head {p : List UInt8 × List UInt8} {S : FL} (h : risN (p :: S) = true) : ∀ q, q ∈ S → Op.bytesLess p.1 q.1 = true := by
  intro q hq
  obtain ⟨i, hi⟩ := List.mem_iff_getElem?.1 hq
  exact risN_lt h (i := 0) (k := i + 1) (by omega) rfl (by simpa using hi)
theorem risN_cons {p : List UInt8 × List UInt8} {S : FL} (h : risN S = true) (hp : ∀ q, q ∈ S → Op.bytesLess p.1 q.1 = true) : risN (p :: S) = true := by
  cases S with
  | nil => rfl
  | cons q S => rw [risN, Bool.and_eq_true]; exact ⟨hp q (by simp), h⟩
theorem risN_nodup : ∀ {S : FL}, risN S = true → (S.map (·.1)).Nodup
  | [], _ => by simp
  | p :: S, h => by
    rw [List.map_cons, List.nodup_cons]
    refine ⟨fun hm => ?_, risN_nodup (risN_tail h)⟩
    obtain ⟨q, hq, he⟩ := List.mem_map.1 hm
    exact less_ne (risN_head h q hq) he.symm

/-- How many bytes files have. -/
def sumB (S : FL) : Nat := (S.map fun p => p.2.length).sum
theorem sumB_perm {S R : FL} (h : S.Perm R) : sumB S = sumB R := (h.map _).sum_nat
theorem sumB_snoc (S : FL) (p : List UInt8 × List UInt8) : sumB (S ++ [p]) = sumB S + p.2.length := by simp [sumB]
theorem sumB_take {S : FL} {i : Nat} : sumB (S.take i) ≤ sumB S := by
  have : S = S.take i ++ S.drop i := (List.take_append_drop i S).symm
  conv => rhs; rw [this]
  simp only [sumB, List.map_append, List.sum_append]; omega
theorem sumB_mem {S : FL} {p : List UInt8 × List UInt8} (h : p ∈ S) : p.2.length ≤ sumB S := by
  induction S with
  | nil => cases h
  | cons q S ih =>
    simp only [sumB, List.map_cons, List.sum_cons]
    rcases List.mem_cons.1 h with rfl | h
    · omega
    · have := ih h; simp only [sumB] at this; omega
end Go.Eng

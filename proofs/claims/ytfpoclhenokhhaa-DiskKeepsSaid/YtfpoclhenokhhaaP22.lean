/-
  Plain laws of layer 9: files in order of their names.
-/
import Derived.Test.YtfpoclhenokhhaaP21
namespace Go.Eng
open Go

theorem less_iff : ∀ a b : List UInt8, Op.bytesLess a b = true ↔ a < b
  | a, [] => by
    constructor
    · intro h; cases a <;> simp [Op.bytesLess] at h
    · intro h; exact absurd h (List.not_lt_nil a)
  | [], b :: l => by simp [Op.bytesLess]
  | x :: a, y :: b => by rw [less_cons, List.cons_lt_cons_iff, less_iff a b]
def leN (x y : List UInt8) : Bool := decide (x ≤ y)
theorem leN_iff {a b : List UInt8} : leN a b = true ↔ Op.bytesLess b a = false := by
  unfold leN
  rw [decide_eq_true_iff, ← List.not_lt, ← less_iff]
  simp
/-- The names in order. -/
def sortN (ns : List (List UInt8)) : List (List UInt8) := ns.mergeSort leN
theorem sortN_perm (ns : List (List UInt8)) : (sortN ns).Perm ns := List.mergeSort_perm ns leN
theorem sortN_pair (ns : List (List UInt8)) : (sortN ns).Pairwise fun a b => leN a b = true := by
  refine List.pairwise_mergeSort (fun a b c h1 h2 => ?_) (fun a b => ?_) ns
  · rw [leN_iff] at *
    rcases less_tri c a with h | h | h
    · rcases less_tri b c with h3 | h3 | h3
      · rw [less_trans h3 h] at h1; cases h1
      · subst h3; rw [h] at h1; cases h1
      · rw [h3] at h2; cases h2
    · subst h; exact less_irrefl c
    · exact less_asymm h
  · rw [Bool.or_eq_true, leN_iff, leN_iff]
    rcases less_tri a b with h | h | h
    · exact .inl (less_asymm h)
    · subst h; exact .inl (less_irrefl a)
    · exact .inr (less_asymm h)
/-- The files of some names. -/
def pickN (S : FL) (ns : List (List UInt8)) : FL := ns.map fun n => (n, readN S n)
theorem readN_at {S : FL} (hn : (S.map (·.1)).Nodup) {p : List UInt8 × List UInt8} (hp : p ∈ S) : readN S p.1 = p.2 := by
  unfold readN
  cases h : S.find? (fun x => decide (x.1 = p.1)) with
  | none =>
    have := List.find?_eq_none.1 h p hp
    simp at this
  | some q =>
    have h1 := List.mem_of_find?_eq_some h
    have h2 : q.1 = p.1 := by simpa using List.find?_some h
    obtain ⟨i, hi⟩ := List.mem_iff_getElem?.1 h1
    obtain ⟨k, hk⟩ := List.mem_iff_getElem?.1 hp
    have a1 : (S.map (·.1))[i]? = some p.1 := by rw [List.getElem?_map, hi]; simp [h2]
    have a2 : (S.map (·.1))[k]? = some p.1 := by rw [List.getElem?_map, hk]; rfl
    have := (List.getElem?_inj (List.getElem?_eq_some_iff.1 a1).1 hn).1 (a1.trans a2.symm)
    subst this
    rw [hi] at hk; cases hk; rfl
theorem pickN_all {S : FL} (hn : (S.map (·.1)).Nodup) : pickN S (S.map (·.1)) = S := by
  unfold pickN
  rw [List.map_map]
  conv => rhs; rw [← List.map_id S]
  apply List.map_congr_left
  intro p hp
  show (p.1, readN S p.1) = p
  rw [readN_at hn hp]
/-- Files in order of their names. -/
def ordN (S : FL) : FL := pickN S (sortN (S.map (·.1)))
theorem ordN_perm {S : FL} (hn : (S.map (·.1)).Nodup) : (ordN S).Perm S := by
  have := (sortN_perm (S.map (·.1))).map fun n => (n, readN S n)
  have h2 := pickN_all hn
  unfold pickN at h2
  rw [h2] at this
  exact this
theorem pair_ris : ∀ {R : FL}, (R.map (·.1)).Nodup → (R.map (·.1)).Pairwise (fun a b => leN a b = true) → risN R = true
  | [], _, _ => rfl
  | p :: R, hn, hp => by
    rw [List.map_cons, List.nodup_cons] at hn
    rw [List.map_cons, List.pairwise_cons] at hp
    refine risN_cons (pair_ris hn.2 hp.2) (fun q hq => ?_)
    have h1 := hp.1 q.1 (List.mem_map_of_mem hq)
    rw [leN_iff] at h1
    rcases less_tri p.1 q.1 with h | h | h
    · exact h
    · exact (hn.1 (by rw [h]; exact List.mem_map_of_mem hq)).elim
    · rw [h] at h1; cases h1
theorem ordN_ris {S : FL} (hn : (S.map (·.1)).Nodup) : risN (ordN S) = true := by
  have e : (ordN S).map (·.1) = sortN (S.map (·.1)) := by
    unfold ordN pickN
    rw [List.map_map]
    conv => rhs; rw [← List.map_id (sortN (S.map (·.1)))]
    rfl
  refine pair_ris ?_ ?_
  · rw [e]; exact (sortN_perm _).nodup_iff.2 hn
  · rw [e]; exact sortN_pair _
theorem ris_unique {R S : FL} (hR : risN R = true) (hS : risN S = true) (hp : R.Perm S) : R = S := by
  refine hp.eq_of_pairwise (le := fun p q => Op.bytesLess p.1 q.1 = true) (fun a b _ _ h1 h2 => ?_) ?_ ?_
  · rw [less_asymm h1] at h2; cases h2
  · have : ∀ {R : FL}, risN R = true → R.Pairwise fun p q => Op.bytesLess p.1 q.1 = true := by
      intro R
      induction R with
      | nil => intro _; exact List.Pairwise.nil
      | cons p R ih => intro h; exact List.pairwise_cons.2 ⟨fun q hq => risN_head h q hq, ih (risN_tail h)⟩
    exact this hR
  · have : ∀ {R : FL}, risN R = true → R.Pairwise fun p q => Op.bytesLess p.1 q.1 = true := by
      intro R
      induction R with
      | nil => intro _; exact List.Pairwise.nil
      | cons p R ih => intro h; exact List.pairwise_cons.2 ⟨fun q hq => risN_head h q hq, ih (risN_tail h)⟩
    exact this hS
theorem ordN_of_perm {S R : FL} (hR : risN R = true) (hp : S.Perm R) : ordN S = R := by
  have hn : (S.map (·.1)).Nodup := (hp.map (·.1)).nodup_iff.2 (risN_nodup hR)
  exact ris_unique (ordN_ris hn) hR ((ordN_perm hn).trans hp)
theorem readN_perm {S R : FL} (hn : (S.map (·.1)).Nodup) (hp : S.Perm R) (n : List UInt8) : readN S n = readN R n := by
  have hn2 : (R.map (·.1)).Nodup := (hp.map (·.1)).nodup_iff.1 hn
  rcases @readN_mem S n with h1 | h1
  · rcases @readN_mem R n with h2 | h2
    · rw [h1, h2]
    · have h3 := readN_at hn (hp.mem_iff.2 h2)
      exact h3
  · have h3 := readN_at hn2 (hp.mem_iff.1 h1)
    exact h3.symm
end Go.Eng

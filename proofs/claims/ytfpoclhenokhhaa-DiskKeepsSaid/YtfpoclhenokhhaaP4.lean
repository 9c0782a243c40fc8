/-
  Plain laws of layer 11: columns.
-/
import Derived.Test.YtfpoclhenokhhaaP1
namespace Go.Eng

/-- Differences. -/
def diffs : Int → List Int → List Int
  | _, [] => []
  | a, x :: l => IntKind.i64.wrap (x - a) :: diffs x l

/-- Runs of what is alike. -/
def rle : List Int → List (Int × Nat)
  | [] => []
  | d :: l => match rle l with
    | [] => [(d, 1)]
    | (e, n) :: r => if e = d then (d, n + 1) :: r else (d, 1) :: (e, n) :: r

theorem rle_head : ∀ (d : Int) (l : List Int), ∃ n r, rle (d :: l) = (d, n) :: r
  | d, l => by
    simp only [rle]
    split
    · exact ⟨_, _, rfl⟩
    · split
      · exact ⟨_, _, rfl⟩
      · exact ⟨_, _, rfl⟩

theorem rle_same {d : Int} {n : Nat} {r : List (Int × Nat)} {l : List Int} (h : rle l = (d, n) :: r) : rle (d :: l) = (d, n + 1) :: r := by
  rw [rle, h]; simp
theorem rle_diff {d e : Int} {n : Nat} {r : List (Int × Nat)} {l : List Int} (h : rle l = (e, n) :: r) (hne : e ≠ d) : rle (d :: l) = (d, 1) :: (e, n) :: r := by
  rw [rle, h]; simp [hne]

/-- k times d, and what follows is not d. -/
theorem rle_run (d : Int) (rest : List Int) (hr : ∀ e l, rest = e :: l → e ≠ d) : ∀ k, rle (List.replicate (k + 1) d ++ rest) = (d, k + 1) :: rle rest
  | 0 => by
    cases rest with
    | nil => rfl
    | cons e l =>
      obtain ⟨n, r, h⟩ := rle_head e l
      have := hr e l rfl
      simp only [Nat.zero_add, List.replicate_one, List.singleton_append]
      rw [rle_diff h this, h]
  | k + 1 => by
    rw [List.replicate_succ, List.cons_append, rle_same (rle_run d rest hr k)]

theorem rle_len : ∀ l : List Int, (rle l).length ≤ l.length
  | [] => by simp [rle]
  | d :: l => by
    have ih := rle_len l
    rw [rle]
    split
    · simp
    · rename_i e n r h
      rw [h] at ih
      split
      · simp at ih ⊢; omega
      · simp at ih ⊢; omega

theorem diffs_len : ∀ (a : Int) (l : List Int), (diffs a l).length = l.length
  | _, [] => rfl
  | a, x :: l => by simp [diffs, diffs_len x l]

theorem rle_mem : ∀ (l : List Int) (x : Int × Nat), x ∈ rle l → x.1 ∈ l ∧ 1 ≤ x.2 ∧ x.2 ≤ l.length
  | [], x, h => by simp [rle] at h
  | d :: l, x, h => by
    have ih := rle_mem l
    rw [rle] at h
    split at h
    · simp only [List.mem_singleton] at h; subst h; simp
    · rename_i e n r hr
      rw [hr] at ih
      split at h
      · rename_i hed
        rcases List.mem_cons.1 h with rfl | h
        · have := ih (e, n) (List.mem_cons_self ..)
          simp at this ⊢; omega
        · have := ih x (List.mem_cons_of_mem _ h)
          simp at this ⊢; exact ⟨.inr this.1, this.2.1, by omega⟩
      · rcases List.mem_cons.1 h with rfl | h
        · simp
        · have := ih x h
          simp at this ⊢; exact ⟨.inr this.1, this.2.1, by omega⟩

theorem wrap64_in (x : Int) : inK .i64 (IntKind.i64.wrap x) := by rw [wrap_i64]; simp only [inK]; omega

theorem diffs_in : ∀ (l : List Int) (a d : Int), d ∈ diffs a l → inK .i64 d
  | [], a, d, h => by simp [diffs] at h
  | x :: l, a, d, h => by
    simp only [diffs, List.mem_cons] at h
    rcases h with rfl | h
    · exact wrap64_in _
    · exact diffs_in l x d h

/-- A run's bytes. -/
def runB (x : Int × Nat) : List UInt8 := numL (zig x.1) ++ numL x.2
/-- A column's bytes. -/
def colL (xs : List Int) : List UInt8 := numL xs.length ++ (rle (diffs 0 xs)).flatMap runB

theorem runB_len {x : Int × Nat} (h1 : inK .i64 x.1) (h2 : x.2 < 18446744073709551616) : (runB x).length ≤ 20 := by
  have := numL_len10 _ (zig_lt h1)
  have := numL_len10 _ h2
  simp only [runB, List.length_append]; omega
theorem runs_len : ∀ l : List (Int × Nat), (∀ x, x ∈ l → (runB x).length ≤ 20) → (l.flatMap runB).length ≤ 20 * l.length
  | [], _ => by simp
  | x :: l, h => by
    have := runs_len l (fun y hy => h y (List.mem_cons_of_mem _ hy))
    have := h x (List.mem_cons_self ..)
    simp only [List.flatMap_cons, List.length_append, List.length_cons]; omega
theorem colL_alive : colL [5, 6, 7, 7] = [4, 10, 1, 2, 2, 0, 1] := by
  have h : rle (diffs 0 [5, 6, 7, 7]) = [(5, 1), (1, 2), (0, 1)] := by decide
  rw [colL, h]
  simp [runB, zig, numL_small]

/-- Stairs. -/
def stairAt (fr by_ : Int) : Nat → Int
  | 0 => fr
  | i + 1 => IntKind.i64.wrap (stairAt fr by_ i + by_)
def stairs (fr by_ : Int) : Nat → List Int
  | 0 => []
  | i + 1 => stairs fr by_ i ++ [stairAt fr by_ i]
theorem stairs_len (fr by_ : Int) : ∀ i, (stairs fr by_ i).length = i
  | 0 => rfl
  | i + 1 => by simp [stairs, stairs_len fr by_ i]

def stairsF (by_ : Int) : Int → Nat → List Int
  | _, 0 => []
  | x, i + 1 => x :: stairsF by_ (IntKind.i64.wrap (x + by_)) i
theorem stairsF_snoc (by_ : Int) : ∀ (i : Nat) (x : Int), stairsF by_ x (i + 1) = stairsF by_ x i ++ [stairAt x by_ i]
  | 0, x => rfl
  | i + 1, x => by
    rw [stairsF, stairsF_snoc by_ i, stairsF, List.cons_append]
    congr 2
    have : ∀ i x, stairAt (IntKind.i64.wrap (x + by_)) by_ i = stairAt x by_ (i + 1) := by
      intro i; induction i with
      | zero => intro x; rfl
      | succ i ih => intro x; show IntKind.i64.wrap (stairAt (IntKind.i64.wrap (x + by_)) by_ i + by_) = _; rw [ih]; rfl
    rw [this]
theorem stairs_eq (fr by_ : Int) : ∀ i, stairs fr by_ i = stairsF by_ fr i
  | 0 => rfl
  | i + 1 => by rw [stairs, stairs_eq fr by_ i, stairsF_snoc]
theorem wrap_in64 {x : Int} (h : inK .i64 x) : IntKind.i64.wrap x = x := by simp only [inK] at h; rw [wrap_i64]; omega
theorem diffs_stairs {by_ : Int} (h2 : inK .i64 by_) : ∀ (i : Nat) (x : Int), diffs x (stairsF by_ (IntKind.i64.wrap (x + by_)) i) = List.replicate i by_
  | 0, _ => rfl
  | i + 1, x => by
    rw [stairsF, diffs, diffs_stairs h2 i, List.replicate_succ]
    congr 1
    simp only [inK] at h2
    rw [wrap_i64, wrap_i64]; omega
theorem diffs_stairs0 {fr by_ : Int} (h1 : inK .i64 fr) (h2 : inK .i64 by_) (i : Nat) : diffs 0 (stairs fr by_ (i + 1)) = fr :: List.replicate i by_ := by
  rw [stairs_eq, stairsF, diffs, diffs_stairs h2, Int.sub_zero, wrap_in64 h1]
theorem rle_rep (d : Int) (i : Nat) : rle (List.replicate (i + 1) d) = [(d, i + 1)] := by
  have := rle_run d [] (by simp) i
  simpa [rle] using this
theorem rle_stairs {fr by_ : Int} (h1 : inK .i64 fr) (h2 : inK .i64 by_) (i : Nat) : rle (diffs 0 (stairs fr by_ i)) =
    if i = 0 then [] else if fr = by_ then [(by_, i)] else if i = 1 then [(fr, 1)] else [(fr, 1), (by_, i - 1)] := by
  cases i with
  | zero => rfl
  | succ i =>
    rw [diffs_stairs0 h1 h2, if_neg (by omega)]
    by_cases he : fr = by_
    · rw [if_pos he, he, ← List.replicate_succ, rle_rep]
    · rw [if_neg he]
      cases i with
      | zero => rfl
      | succ i => rw [if_neg (by omega), rle_diff (rle_rep by_ i) (Ne.symm he)]; rfl
theorem colL_stairs {fr by_ : Int} {i : Nat} (h1 : inK .i64 fr) (h2 : inK .i64 by_) (hi : i < 1000) : (colL (stairs fr by_ i)).length ≤ 30 := by
  have hs : ∀ n, n < 1000 → (numL n).length ≤ 2 := fun n hn => numL_len 1 n (by omega)
  have a1 := numL_len10 _ (zig_lt h1)
  have a2 := numL_len10 _ (zig_lt h2)
  have a3 := hs i hi
  have a4 := hs (i - 1) (by omega)
  have a5 := hs 1 (by omega)
  rw [colL, rle_stairs h1 h2, stairs_len]
  split
  · simp; omega
  · split
    · simp [runB]; omega
    · split
      · simp [runB]; omega
      · simp [runB]; omega
end Go.Eng

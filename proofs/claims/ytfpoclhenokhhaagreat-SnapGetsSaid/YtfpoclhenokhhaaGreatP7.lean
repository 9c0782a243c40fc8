/-
  Plain laws of layer 13: books as bytes.
-/
import Derived.Test.YtfpoclhenokhhaaGreatP6
import Derived.Test.YtfpoclhenokhhaaGreatP5
namespace Go.Eng
open Go

/-- A column of a list of things. -/
def colOf (l : List (List Int)) (i : Nat) : List Int := l.map fun x => nthI x i
/-- A list's bytes, column by column. -/
def putB (sz : Nat) (l : List (List Int)) : List UInt8 := (List.range sz).flatMap fun i => colL (colOf l i)
/-- A book's bytes. -/
def bookB (b : Bk) : List UInt8 := numL b.c.toNat ++ (putB 4 b.H ++ (putB 3 b.S ++ (putB 6 b.O ++ putB 2 b.R)))
theorem colOf_len (l : List (List Int)) (i : Nat) : (colOf l i).length = l.length := by simp [colOf]
theorem nthI_in {x : List Int} (h : ∀ y, y ∈ x → inK .i64 y) (i : Nat) : inK .i64 (nthI x i) := by
  unfold nthI
  cases hx : x[i]? with
  | none => simp only [Option.getD_none, inK]; omega
  | some y => exact h y (List.mem_of_getElem? hx)
theorem colOf_in {sz : Nat} {l : List (List Int)} (h : Recs sz l) (i : Nat) : ∀ y, y ∈ colOf l i → inK .i64 y := by
  intro y hy
  simp only [colOf, List.mem_map] at hy
  obtain ⟨x, hx, rfl⟩ := hy
  exact nthI_in (h x hx).2 i
theorem colL_len (xs : List Int) (h : ∀ x, x ∈ xs → inK .i64 x) (hl : xs.length < 18446744073709551616) : (colL xs).length ≤ 10 + 20 * xs.length := by
  have l3 := numL_len10 _ hl
  have hrl := rle_len (diffs 0 xs)
  rw [diffs_len] at hrl
  have l4 := runs_len (rle (diffs 0 xs)) (fun x hx => by
    have := rle_mem _ x hx
    rw [diffs_len] at this
    exact runB_len (diffs_in _ _ _ this.1) (by omega))
  simp only [colL, List.length_append]; omega
theorem putB_succ (sz : Nat) (l : List (List Int)) : putB (sz + 1) l = putB sz l ++ colL (colOf l sz) := by
  unfold putB
  rw [List.range_succ, List.flatMap_append]; simp
theorem putB_len {sz0 : Nat} {l : List (List Int)} (h : Recs sz0 l) (hl : l.length ≤ 65536) : ∀ sz, (putB sz l).length ≤ sz * (10 + 20 * l.length)
  | 0 => by simp [putB]
  | sz + 1 => by
    have ih := putB_len h hl sz
    have h2 := colL_len (colOf l sz) (colOf_in h sz) (by rw [colOf_len]; omega)
    rw [colOf_len] at h2
    rw [putB_succ, List.length_append, Nat.succ_mul]; omega
end Go.Eng

/-
  Plain laws of layer 21: files found, read, their numbers.
-/
import Derived.Test.YtibdpdlghibijaaGreatDoorMT23
import Derived.Test.YtibdpdlghibijaaGreatDoorMT2
import Derived.Test.YtibdpdlghibijaaGreatDoorMT12
import Derived.Lib.SlicesCompact
import Derived.Test.YtibdpdlghibijaaGreatDoorMT1
/-
  Plain laws of layer 21: files found, read, their numbers.
-/
namespace Go.Eng
open Go

def capF (S : FL) : Nat := (S.map fun p => min p.2.length 10000 + min p.1.length 100).sum
theorem readF_drop {S : FL} {n : List UInt8} : ∀ {i : Nat}, (∀ k p, k < i → S[k]? = some p → p.1 ≠ n) → readN S n = readN (S.drop i) n
  | 0, _ => by simp
  | i + 1, h => by
    rw [readF_drop (i := i) (fun k p hk hp => h k p (by omega) hp)]
    by_cases hl : i < S.length
    · have hi := List.getElem?_eq_getElem hl
      have hc : readN (S[i] :: S.drop (i + 1)) n = if S[i].1 = n then S[i].2 else readN (S.drop (i + 1)) n := by
        unfold readN
        rw [List.find?_cons]
        by_cases he : S[i].1 = n <;> simp [he]
      rw [List.drop_eq_getElem_cons hl, hc, if_neg (h i _ (by omega) hi)]
    · rw [List.drop_of_length_le (by omega), List.drop_of_length_le (by omega)]
theorem readF_none {S : FL} {n : List UInt8} (h : ∀ p, p ∈ S → p.1 ≠ n) : readN S n = [] := by
  rw [readF_drop (i := S.length) (fun k p _ hp => h p (List.mem_of_getElem? hp)), List.drop_of_length_le (Nat.le_refl _)]; rfl
theorem readF_len {S : FL} {n : List UInt8} {m : Nat} (h : ∀ p, p ∈ S → p.2.length ≤ m) : (readN S n).length ≤ m := by
  rcases readN_mem (S := S) (n := n) with h1 | h1
  · rw [h1]; exact Nat.zero_le _
  · exact h _ h1
/-- A segment's rows. -/
def segF (S : FL) (k : Int) : List (List UInt8) × Bool := if nmB 115 k = [] then ([], false) else (frowsB (readN S (nmB 115 k)), justB (readN S (nmB 115 k)))
end Go.Eng

/-
  Plain laws of layer 21: the numbers of snapshots, rising.
-/
namespace Go.Eng
open Go

end Go.Eng

/-
  Plain laws of layers 8 and 22: the chain of headers, what a verifier finds.
-/
namespace Go.Eng
open Go

/-- A row's bytes behind its length; a header's bytes; its hash. -/
def rowL (s : List UInt8) : List UInt8 := numL s.length ++ s
def putH (h : HdB) : List UInt8 := numL h.i.toNat ++ numL h.f.toNat ++ numL h.c.toNat ++ numL h.b.toNat ++ rowL h.p ++ rowL h.r
def hashH (n : Nat) (h : HdB) : List UInt8 := cutH n (putH h)
/-- Do headers chain? The last hash. -/
def chB (n : Nat) : List HdB → Int → Int → List UInt8 → List UInt8 × Bool
  | [], _, _, p => (p, true)
  | h :: t, i, f, p => if mayH h n = true ∧ h.i = i ∧ h.f = f ∧ h.p = p then chB n t (i + 1) (f + h.c) (hashH n h) else ([], false)
def chainB (n : Nat) (L : List HdB) : List UInt8 × Bool := chB n L 0 0 (cutH n [])
theorem mayH_in {h : HdB} {n : Int} (hm : mayH h n = true) : 0 ≤ h.i ∧ h.i ≤ 1099511627776 ∧ 0 ≤ h.f ∧ h.f ≤ 1099511627776 ∧ 1 ≤ h.c ∧ h.c ≤ 64 ∧ 0 ≤ h.b ∧ h.b ≤ 1099511627776 ∧ (h.p.length : Int) = n ∧ (h.r.length : Int) = n := of_decide_eq_true hm
/-- All bytes of rows. -/
def sumL (r : List (List UInt8)) : Nat := (r.map List.length).sum
theorem sumL_snoc (r : List (List UInt8)) (x : List UInt8) : sumL (r ++ [x]) = sumL r + x.length := by simp [sumL]
def hdAt (H : List HdB) (k : Nat) : HdB := H[k]?.getD hd0
/-- What is found. -/
structure FndB where
  H : List HdB
  R : List (List UInt8)
  T : List (List UInt8)
  at_ : Int
  e : Int
end Go.Eng

/-
  Plain laws of layer 9: files put, writes kept in part.
-/
import Derived.Test.YtfpoclhenokhhaaP20
namespace Go.Eng
open Go

/-- What is behind a write: noughts where the file ends ahead. -/
def wrB (old : List UInt8) (at0 : Nat) (s : List UInt8) : List UInt8 := putL (putL (List.replicate (max old.length (at0 + s.length)) 0) 0 old) at0 s
theorem wrB_len (old : List UInt8) (at0 : Nat) (s : List UInt8) : (wrB old at0 s).length = max old.length (at0 + s.length) := by
  unfold wrB; rw [putL_len, putL_len, List.length_replicate]

def readN (S : FL) (n : List UInt8) : List UInt8 := match S.find? fun p => decide (p.1 = n) with
  | some p => p.2
  | none => []
def putN (S : FL) (p : List UInt8 × List UInt8) : FL := match S.findIdx? fun x => decide (x.1 = p.1) with
  | some i => S.set i p
  | none => S ++ [p]
def nbs (F : List FileE) : FL := F.map FileE.nb
theorem readN_nbs (F : List FileE) (n : List UInt8) : readN (nbs F) n = bytesF F n := by
  unfold readN bytesF getF nbs
  rw [List.find?_map]
  show (match (F.find? (fun f => decide (f.name = n))).map FileE.nb with | some p => p.2 | none => []) = _
  cases F.find? (fun f => decide (f.name = n)) <;> rfl
theorem findIdx_map {α β : Type} (g : α → β) (p : β → Bool) : ∀ l : List α, (l.map g).findIdx? p = l.findIdx? fun x => p (g x)
  | [] => rfl
  | x :: l => by simp only [List.map_cons, List.findIdx?_cons, findIdx_map g p l]
theorem putN_nbs (F : List FileE) (f : FileE) : nbs (putF F f) = putN (nbs F) f.nb := by
  unfold putF putN nbs
  rw [findIdx_map]
  have e : (fun x : FileE => decide (x.nb.1 = f.nb.1)) = fun x : FileE => decide (x.name = f.name) := rfl
  rw [e]
  cases F.findIdx? (fun x : FileE => decide (x.name = f.name)) with
  | none => simp
  | some i => simp [List.map_set]
theorem putN_mem {S : FL} {p q : List UInt8 × List UInt8} (h : q ∈ putN S p) : q = p ∨ q ∈ S := by
  unfold putN at h
  split at h
  · rcases List.mem_or_eq_of_mem_set h with h | h
    · exact .inr h
    · exact .inl h
  · simp only [List.mem_append, List.mem_singleton] at h
    exact h.symm
/-- A write of which the first k bytes are kept. -/
def cutN (S : FL) (n : List UInt8) (at0 : Nat) (s : List UInt8) (k : Int) : FL := if 0 < k then putN S (n, wrB (readN S n) at0 (s.take k.toNat)) else S
/-- Writes, of each of which so many bytes are kept. -/
def crashN : FL → List (List UInt8 × Nat × List UInt8) → (Nat → Int) → Nat → FL
  | S, [], _, _ => S
  | S, (n, at0, s) :: W, K, i => crashN (cutN S n at0 s (min (max (K i) 0) s.length)) W K (i + 1)
/-- Files that have bytes, not too many. -/
def FOK (S : FL) : Prop := ∀ p, p ∈ S → 0 < p.2.length ∧ p.2.length ≤ 1048576
theorem readN_mem {S : FL} {n : List UInt8} : readN S n = [] ∨ (n, readN S n) ∈ S := by
  unfold readN
  cases h : S.find? (fun p => decide (p.1 = n)) with
  | none => exact .inl rfl
  | some p =>
    have h1 := List.mem_of_find?_eq_some h
    have h2 : p.1 = n := by simpa using List.find?_some h
    right
    rw [← h2]; exact h1
theorem FOK.read {S : FL} (h : FOK S) (n : List UInt8) : (readN S n).length ≤ 1048576 := by
  rcases @readN_mem S n with h1 | h1
  · rw [h1]; simp
  · exact (h _ h1).2
theorem FOK.cut {S : FL} (h : FOK S) {n : List UInt8} {at0 : Nat} {s : List UInt8} {k : Int} (hk : k ≤ s.length) (hb : at0 + s.length ≤ 1048576) : FOK (cutN S n at0 s k) := by
  unfold cutN
  split
  · intro p hp
    rcases putN_mem hp with rfl | hp
    · have h1 := h.read n
      have h2 := wrB_len (readN S n) at0 (s.take k.toNat)
      rw [List.length_take] at h2
      show 0 < (wrB (readN S n) at0 (s.take k.toNat)).length ∧ (wrB (readN S n) at0 (s.take k.toNat)).length ≤ 1048576
      omega
    · exact h p hp
  · exact h
theorem FOK.perm {S R : FL} (h : FOK S) (hp : R.Perm S) : FOK R := fun p hm => h p (hp.mem_iff.1 hm)

end Go.Eng

/-
  Walks of layer 9: files listed by their names.
-/
import Derived.Test.YtfpoclhenokhhaaW49
import Derived.Test.YtfpoclhenokhhaaE26
import Derived.Test.YtfpoclhenokhhaaShs
import Derived.Sort.OwnSorted
namespace Go.Proofs
open Go Go.Eng
set_option maxRecDepth 100000
set_option maxHeartbeats 4000000
attribute [local irreducible] Tri

def strs (ss : List (List UInt8)) : List Value := ss.map str
theorem strs_len (ss : List (List UInt8)) : (strs ss).length = ss.length := by simp [strs]
theorem encStr_eq (x : List UInt8) : encStr x = str x := rfl

theorem Try.sort_w (g n cap : Nat) (ss : List (List UInt8)) (w : World) (hown : Own [] [Seg.row (some g) 9 1 ss.length cap (strs ss)] w) (hn : ss.length = n) (hlen : ss.length ≤ 1000000) :
    Tri Try.prog 124 [sv (some g) n cap] w (kys [] [Seg.row (some g) 9 1 ss.length cap (strs ss)])
      (fun v bx hp => v = .tuple #[] ∧ bx = [] ∧ hp = [Seg.row (some g) 9 1 ss.length cap (strs (ss.mergeSort fun x y => decide (x ≤ y)))]) := by
  subst hn
  have hrow : rowOk w (some g) 9 1 ss.length cap (strs ss) := hown.hp (Seg.row (some g) 9 1 ss.length cap (strs ss)) (by simp)
  obtain ⟨cur, fr, h1, h2, h3, h4⟩ := hrow.blk g rfl
  have hle := hrow.le
  have hlt := (Array.getElem?_eq_some_iff.1 h1).1
  have hH : Sort.Holds encStr w g 0 ss.toArray := by
    intro j hj
    have hj' : j < ss.length := by simpa using hj
    have hs : (strs ss)[j]? = some (str ss[j]) := by simp [strs, hj']
    refine ⟨?_, ?_⟩
    · rw [Nat.zero_add, hrow.cell hs]
      simp [hj', getElem!_pos]
      rfl
    · rw [Nat.zero_add]
      simp only [World.frozen?, h1]
      rcases h4 with h4 | h4
      · rw [h4]; simp
      · obtain ⟨lo, hi⟩ := fr
        have : ¬ lo ≤ j := by simp only at h4; omega
        simp [this]
  refine Tri.mk ⟨_, Try.func124, rfl, by decide⟩ ?_
  refine (Try.slices_Sort_string g 0 cap ss w hH hlt (by omega)).mono ?_
  rintro e w' ⟨rfl, q, os, rfl⟩
  have hsl : (ss.mergeSort fun x y => decide (x ≤ y)).length = ss.length := List.length_mergeSort _
  have hheap : ∀ k, k < w.heap.size → k ≠ g → (Sort.grow (Sort.putRow encStr (Sort.ahead w q) g 0 (ss.mergeSort fun x y => decide (x ≤ y)).toArray) os).heap[k]? = w.heap[k]? := by
    intro k hk hne
    rw [Sort.heap_grow_old _ _ (by simpa using hk)]
    simp [Sort.putRow, Sort.mapBlock, Sort.ahead, Array.getElem?_modify, Ne.symm hne]
  have hblk : (Sort.grow (Sort.putRow encStr (Sort.ahead w q) g 0 (ss.mergeSort fun x y => decide (x ≤ y)).toArray) os).heap[g]? = some (.cells (Sort.putCells encStr 0 (ss.mergeSort fun x y => decide (x ≤ y)).toArray cur) 9 fr) := by
    rw [Sort.heap_grow_old _ _ (by simpa using hlt)]
    simp [Sort.putRow, Sort.mapBlock, Sort.ahead, Array.getElem?_modify, h1, Sort.onCells]
  have hsz : (Sort.putCells encStr 0 (ss.mergeSort fun x y => decide (x ≤ y)).toArray cur).size = cur.size := by simp [Sort.putCells]
  have htk := _root_.Go.take_putCells cur (ss.mergeSort fun x y => decide (x ≤ y)) (by omega)
  refine ⟨.tuple #[], [], _, rfl, ⟨rfl, rfl, rfl⟩, ⟨rfl, rfl, rfl, by simp, fun k hk hm => hheap k hk (by simpa [kys, Seg.row] using hm)⟩, ⟨by simp [kys, Seg.row], fun k hk => ?_, by simp, fun s hs => ?_⟩, fun k hk => .inl hk⟩
  · have : k = g := by simpa [kys, Seg.row] using hk
    subst this
    simp; omega
  · simp only [List.mem_singleton] at hs
    subst hs
    refine ⟨by rw [strs_len, hsl]; omega, hrow.le, hrow.max, by simp, fun g' hg' => ?_⟩
    cases hg'
    refine ⟨_, fr, hblk, by rw [hsz]; exact h2, ?_, by rw [hsz]; exact h4⟩
    rw [Nat.mul_one, ← hsl]
    exact htk

end Go.Proofs

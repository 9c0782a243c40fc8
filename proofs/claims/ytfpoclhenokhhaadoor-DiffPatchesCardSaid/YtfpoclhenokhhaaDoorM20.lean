/-
  Walks of layer 9: files.
-/
import Derived.Test.YtfpoclhenokhhaaDoorM12
import Derived.Test.YtfpoclhenokhhaaDoorProg
/-
  Walks of layer 9: files.
-/
namespace Go.Proofs
open Go Go.Eng
set_option maxRecDepth 100000
set_option maxHeartbeats 4000000
attribute [local irreducible] Tri

/-- How many bytes files have. -/
def usedF (F : List FileE) : Nat := (F.map fun f => f.bytes.length).sum

theorem perm_range {T : List Nat} {n : Nat} (hn : T.Nodup) (h1 : ∀ i, i ∈ T → i < n) (h2 : ∀ i, i < n → i ∈ T) : T.Perm (List.range n) := by
  rw [List.perm_ext_iff_of_nodup hn List.nodup_range]
  intro a
  rw [List.mem_range]
  exact ⟨h1 a, h2 a⟩
/-- How many places are left. -/
def leftN (n : Nat) (T : List Nat) : Nat := ((List.range n).filter fun i => !T.contains i).length
theorem leftN_snoc {n i : Nat} {T : List Nat} (hi : i < n) (hT : i ∉ T) : leftN n (T ++ [i]) < leftN n T := by
  unfold leftN
  refine filter_lt (fun i => !T.contains i) (fun j => !(T ++ [i]).contains j) ?_ i ?_ ?_ _ (List.mem_range.2 hi)
  · intro x hx
    simp only [Bool.not_eq_true', List.contains_eq_mem, decide_eq_false_iff_not, List.mem_append, not_or] at hx ⊢
    exact hx.1
  · simp [hT]
  · simp
def atF {α : Type} (F : List α) (f : α → Nat) (i : Nat) : Nat := match F[i]? with
  | some x => f x
  | none => 0
theorem sum_all {α : Type} (F : List α) (f : α → Nat) : ((List.range F.length).map (atF F f)).sum = (F.map f).sum := by
  congr 1
  apply List.ext_getElem?
  intro i
  rw [List.getElem?_map, List.getElem?_map]
  rcases Nat.lt_or_ge i F.length with h | h
  · rw [List.getElem?_range h, List.getElem?_eq_getElem h]
    simp [atF, List.getElem?_eq_getElem h]
  · rw [List.getElem?_eq_none h, List.getElem?_eq_none (by simpa using h)]; rfl
theorem sum_range {α : Type} (F : List α) (f : α → Nat) {T : List Nat} (hp : T.Perm (List.range F.length)) : (T.map (atF F f)).sum = (F.map f).sum := by
  rw [← sum_all F f]
  exact (hp.map (atF F f)).sum_nat
theorem sum_part {α : Type} (F : List α) (f : α → Nat) {T : List Nat} (hn : T.Nodup) (h1 : ∀ i, i ∈ T → i < F.length) : (T.map (atF F f)).sum ≤ (F.map f).sum := by
  have hp : (T ++ (List.range F.length).filter fun i => !T.contains i).Perm (List.range F.length) := by
    rw [List.perm_ext_iff_of_nodup _ List.nodup_range]
    · intro a
      simp only [List.mem_append, List.mem_filter, List.mem_range, Bool.not_eq_true', List.contains_eq_mem, decide_eq_false_iff_not]
      constructor
      · rintro (h | h)
        · exact h1 a h
        · exact h.1
      · intro h
        by_cases hT : a ∈ T
        · exact .inl hT
        · exact .inr ⟨h, hT⟩
    · rw [List.nodup_append]
      refine ⟨hn, List.nodup_range.sublist List.filter_sublist, fun a ha b hb e => ?_⟩
      subst e
      simp only [List.mem_filter, Bool.not_eq_true', List.contains_eq_mem, decide_eq_false_iff_not] at hb
      exact hb.2 ha
  have h2 := sum_range F f hp
  rw [List.map_append, List.sum_append] at h2
  omega
theorem nodup_snoc {T : List Nat} {i : Nat} (hn : T.Nodup) (hi : i ∉ T) : (T ++ [i]).Nodup := by
  rw [List.nodup_append]
  exact ⟨hn, by simp, fun a ha b hb e => hi (by simp only [List.mem_singleton] at hb; rw [← hb, ← e]; exact ha)⟩
theorem lt_snoc {T : List Nat} {i n : Nat} (h : ∀ k, k ∈ T → k < n) (hi : i < n) : ∀ k, k ∈ T ++ [i] → k < n := by
  intro k hk
  simp only [List.mem_append, List.mem_singleton] at hk
  rcases hk with hk | rfl
  · exact h k hk
  · exact hi
theorem sum_snoc {α : Type} {F : List α} {f : α → Nat} {T : List Nat} {i : Nat} {x : α} (h : F[i]? = some x) : ((T ++ [i]).map (atF F f)).sum = (T.map (atF F f)).sum + f x := by
  rw [List.map_append, List.sum_append]
  simp [atF, h]

theorem putF_new {F : List FileE} {f : FileE} (h : ∀ x, x ∈ F → x.name ≠ f.name) : putF F f = F ++ [f] := by
  unfold putF
  rw [List.findIdx?_eq_none_iff.2 (fun x hx => by simpa using h x hx)]

/-- The files at some places. -/
def someF (F : List FileE) (T : List Nat) : List (List UInt8 × List UInt8) := T.filterMap fun i => (F[i]?).map FileE.nb
theorem someF_snoc {F : List FileE} {T : List Nat} {i : Nat} {f : FileE} (h : F[i]? = some f) : someF F (T ++ [i]) = someF F T ++ [f.nb] := by
  simp [someF, h]
theorem someF_range (F : List FileE) : ∀ m, m ≤ F.length → someF F (List.range m) = nbs (F.take m)
  | 0, _ => by simp [someF, nbs]
  | m + 1, h => by
    have hm : m < F.length := by omega
    have hg := List.getElem?_eq_getElem hm
    rw [List.range_succ, someF_snoc hg, someF_range F m (by omega), List.take_add_one, hg]
    unfold nbs
    rw [List.map_append]
    rfl
theorem someF_all {F : List FileE} {T : List Nat} (hp : T.Perm (List.range F.length)) : (someF F T).Perm (nbs F) := by
  have h1 := hp.filterMap fun i => (F[i]?).map FileE.nb
  have h2 := someF_range F F.length (Nat.le_refl _)
  rw [List.take_length] at h2
  rw [← h2]; exact h1
theorem mem_someF {F : List FileE} {T : List Nat} {p : List UInt8 × List UInt8} (h : p ∈ someF F T) : ∃ i f, i ∈ T ∧ F[i]? = some f ∧ p = f.nb := by
  unfold someF at h
  obtain ⟨i, hi, he⟩ := List.mem_filterMap.1 h
  obtain ⟨f, hf, rfl⟩ := Option.map_eq_some_iff.1 he
  exact ⟨i, f, hi, hf, rfl⟩

end Go.Proofs

/-
  Plain laws of layer 13: a book's columns one by one.
-/
import Derived.Test.YtfpoclhenokhhaaGreatP9
namespace Go.Eng
open Go

def mosts : List Nat := [32, 32, 32, 32, 1024, 1024, 1024, 64, 64, 64, 64, 64, 64, 32, 32]
/-- Columns read, each with its most. -/
def getSeq : List Nat → List UInt8 → List (List Int) × List UInt8 × Int
  | [], s => ([], s, 0)
  | m :: ms, s => if (colG s m).2.2 ≠ 0 then ([], s, (colG s m).2.2) else ((colG s m).1 :: (getSeq ms (s.drop (colG s m).2.1)).1, (getSeq ms (s.drop (colG s m).2.1)).2)

theorem getSeq_rep (m : Nat) (ms : List Nat) : ∀ (n : Nat) (s : List UInt8), getSeq (List.replicate n m ++ ms) s =
    if (getCols m n s).2.2 ≠ 0 then getCols m n s else ((getCols m n s).1 ++ (getSeq ms (getCols m n s).2.1).1, (getSeq ms (getCols m n s).2.1).2)
  | 0, s => by simp [getCols]
  | n + 1, s => by
    rw [List.replicate_succ, List.cons_append, getSeq, getCols]
    split
    · rfl
    · rename_i he
      rw [getSeq_rep m ms n]
      simp only
      by_cases hb : (getCols m n (s.drop (colG s m).2.1)).2.2 = 0
      · rw [if_neg (by simpa using hb), if_neg (by simpa using hb)]; rfl
      · rw [if_pos hb, if_pos hb]
theorem getSeq_snoc (m : Nat) : ∀ {ms : List Nat} {s : List UInt8} {cs : List (List Int)} {r : List UInt8}, getSeq ms s = (cs, r, 0) →
    getSeq (ms ++ [m]) s = if (colG r m).2.2 ≠ 0 then (cs, r, (colG r m).2.2) else (cs ++ [(colG r m).1], r.drop (colG r m).2.1, 0)
  | [], s, cs, r, h => by
    simp only [getSeq, Prod.mk.injEq, and_true] at h
    obtain ⟨rfl, rfl⟩ := h
    simp [getSeq]
  | k :: ms, s, cs, r, h => by
    rw [getSeq] at h
    split at h
    · rename_i he
      simp only [Prod.mk.injEq] at h; exact (he h.2.2).elim
    · rename_i he
      obtain ⟨cs', r', e', hR⟩ : ∃ a b c, getSeq ms (s.drop (colG s k).2.1) = (a, b, c) := ⟨_, _, _, rfl⟩
      rw [hR] at h
      simp only [Prod.mk.injEq] at h
      obtain ⟨rfl, rfl, rfl⟩ := h
      rw [List.cons_append, getSeq, if_neg he, getSeq_snoc m hR]
      split <;> simp
theorem getSeq_bad (ms' : List Nat) : ∀ {ms : List Nat} {s : List UInt8}, (getSeq ms s).2.2 ≠ 0 → (getSeq (ms ++ ms') s).2.2 = (getSeq ms s).2.2
  | [], s, h => by simp [getSeq] at h
  | k :: ms, s, h => by
    rw [List.cons_append, getSeq, getSeq]
    rw [getSeq] at h
    split
    · rfl
    · rename_i he
      rw [if_neg he] at h
      exact getSeq_bad ms' h
theorem getSeq_in : ∀ {ms : List Nat} {s : List UInt8} {cs : List (List Int)} {r : List UInt8}, getSeq ms s = (cs, r, 0) → cs.length = ms.length ∧ r.length ≤ s.length ∧ ∀ (j : Nat) (c : List Int), cs[j]? = some c → c.length ≤ (ms[j]?).getD 0
  | [], s, cs, r, h => by
    simp only [getSeq, Prod.mk.injEq, and_true] at h
    obtain ⟨rfl, rfl⟩ := h
    simp
  | k :: ms, s, cs, r, h => by
    rw [getSeq] at h
    split at h
    · rename_i he
      simp only [Prod.mk.injEq] at h; exact (he h.2.2).elim
    · rename_i he
      obtain ⟨cs', r', e', hR⟩ : ∃ a b c, getSeq ms (s.drop (colG s k).2.1) = (a, b, c) := ⟨_, _, _, rfl⟩
      rw [hR] at h
      simp only [Prod.mk.injEq] at h
      obtain ⟨rfl, rfl, rfl⟩ := h
      obtain ⟨h1, h2, h3⟩ := getSeq_in hR
      refine ⟨by simp [h1], by rw [List.length_drop] at h2; omega, fun j c hj => ?_⟩
      cases j with
      | zero => simp only [List.getElem?_cons_zero, Option.some.injEq] at hj; subst hj; simpa using colG_len s k
      | succ j => simpa using h3 j c (by simpa using hj)

/-- A book's columns, all read. -/
theorem getBk_seq {s : List UInt8} {n a : Nat} (hN : rdN s 0 0 1099511627776 = (n, a, 0)) {cs : List (List Int)} {r : List UInt8} {e : Int} (h : getSeq mosts (s.drop a) = (cs, r, e)) :
    (e ≠ 0 → getBk s = (zeroBk, e)) ∧ (e = 0 → ∃ x0 x1 x2 x3 y0 y1 y2 z0 z1 z2 z3 z4 z5 v0 v1 : List Int, cs = [x0, x1, x2, x3, y0, y1, y2, z0, z1, z2, z3, z4, z5, v0, v1] ∧
      (∀ c, c ∈ cs → ∀ x, x ∈ c → inK .i64 x) ∧
      getBk s = if r = [] ∧ evenB [x0, x1, x2, x3] = true ∧ evenB [y0, y1, y2] = true ∧ evenB [z0, z1, z2, z3, z4, z5] = true ∧ evenB [v0, v1] = true ∧ mayB ⟨listT 4 [x0, x1, x2, x3], listT 3 [y0, y1, y2], listT 6 [z0, z1, z2, z3, z4, z5], listT 2 [v0, v1], n⟩ = true
        then (⟨listT 4 [x0, x1, x2, x3], listT 3 [y0, y1, y2], listT 6 [z0, z1, z2, z3, z4, z5], listT 2 [v0, v1], n⟩, 0) else (zeroBk, 3)) := by
  have hm : mosts = List.replicate 4 32 ++ (List.replicate 3 1024 ++ (List.replicate 6 64 ++ (List.replicate 2 32 ++ []))) := rfl
  rw [hm, getSeq_rep] at h
  obtain ⟨c1, r1, e1, hR1⟩ : ∃ x y z, getCols 32 4 (s.drop a) = (x, y, z) := ⟨_, _, _, rfl⟩
  obtain ⟨c2, r2, e2, hR2⟩ : ∃ x y z, getCols 1024 3 r1 = (x, y, z) := ⟨_, _, _, rfl⟩
  obtain ⟨c3, r3, e3, hR3⟩ : ∃ x y z, getCols 64 6 r2 = (x, y, z) := ⟨_, _, _, rfl⟩
  obtain ⟨c4, r4, e4, hR4⟩ : ∃ x y z, getCols 32 2 r3 = (x, y, z) := ⟨_, _, _, rfl⟩
  have hB : getBk s = if e1 ≠ 0 then (zeroBk, e1) else if e2 ≠ 0 then (zeroBk, e2) else if e3 ≠ 0 then (zeroBk, e3) else if e4 ≠ 0 then (zeroBk, e4) else
      if r4 = [] ∧ evenB c1 = true ∧ evenB c2 = true ∧ evenB c3 = true ∧ evenB c4 = true ∧ mayB ⟨listT 4 c1, listT 3 c2, listT 6 c3, listT 2 c4, n⟩ = true then (⟨listT 4 c1, listT 3 c2, listT 6 c3, listT 2 c4, n⟩, 0) else (zeroBk, 3) := by
    unfold getBk
    rw [hN]
    simp only
    rw [if_neg (by simp), hR1]
    simp only
    rw [hR2]
    simp only
    rw [hR3]
    simp only
    rw [hR4]
  rw [hR1] at h
  simp only at h
  by_cases z1 : e1 = 0
  · subst z1
    rw [if_neg (by simp), getSeq_rep, hR2] at h
    rw [if_neg (by simp)] at hB
    simp only at h
    by_cases z2 : e2 = 0
    · subst z2
      rw [if_neg (by simp), getSeq_rep, hR3] at h
      rw [if_neg (by simp)] at hB
      simp only at h
      by_cases z3 : e3 = 0
      · subst z3
        rw [if_neg (by simp), getSeq_rep, hR4] at h
        rw [if_neg (by simp)] at hB
        simp only at h
        by_cases z4 : e4 = 0
        · subst z4
          rw [if_neg (by simp)] at h hB
          simp only [getSeq, List.append_nil, Prod.mk.injEq] at h
          obtain ⟨rfl, rfl, rfl⟩ := h
          refine ⟨fun h => absurd rfl h, fun _ => ?_⟩
          obtain ⟨-, l1, -, i1⟩ := getCols_get hR1
          obtain ⟨-, l2, -, i2⟩ := getCols_get hR2
          obtain ⟨-, l3, -, i3⟩ := getCols_get hR3
          obtain ⟨-, l4, -, i4⟩ := getCols_get hR4
          match c1, l1, c2, l2, c3, l3, c4, l4 with
          | [x0, x1, x2, x3], _, [y0, y1, y2], _, [z0, z1, z2, z3, z4, z5], _, [v0, v1], _ =>
            refine ⟨x0, x1, x2, x3, y0, y1, y2, z0, z1, z2, z3, z4, z5, v0, v1, rfl, fun c hc => ?_, hB⟩
            simp only [List.mem_append] at hc
            rcases hc with hc | hc | hc | hc
            · exact i1 c hc
            · exact i2 c hc
            · exact i3 c hc
            · exact i4 c hc
        · rw [if_pos z4] at h hB
          simp only [Prod.mk.injEq] at h
          obtain ⟨-, -, rfl⟩ := h
          exact ⟨fun _ => hB, fun h => absurd h z4⟩
      · rw [if_pos z3] at h hB
        simp only [Prod.mk.injEq] at h
        obtain ⟨-, -, rfl⟩ := h
        exact ⟨fun _ => hB, fun h => absurd h z3⟩
    · rw [if_pos z2] at h hB
      simp only [Prod.mk.injEq] at h
      obtain ⟨-, -, rfl⟩ := h
      exact ⟨fun _ => hB, fun h => absurd h z2⟩
  · rw [if_pos z1] at h hB
    simp only [Prod.mk.injEq] at h
    obtain ⟨-, -, rfl⟩ := h
    exact ⟨fun _ => hB, fun h => absurd h z1⟩

/-- The group's first column. -/
def grp (k : Nat) : Nat := if k < 4 then 0 else if k < 7 then 4 else if k < 13 then 7 else 13
def lenK (cs : List (List Int)) (k : Nat) : Nat := ((cs[k]?).getD []).length
def cellG (cs : List (List Int)) (g : Nat → Option Nat) (c : Nat → Nat) (i : Nat) : List Value := (List.range 15).map fun k => if k < i then sv (g k) (lenK cs k) (c k) else sv none 0 0
theorem cellG_len (cs : List (List Int)) (g : Nat → Option Nat) (c : Nat → Nat) (i : Nat) : (cellG cs g c i).length = 15 := by simp [cellG]
theorem cellG_get {cs : List (List Int)} {g : Nat → Option Nat} {c : Nat → Nat} {i k : Nat} (hk : k < i) (hi : i ≤ 15) : (cellG cs g c i)[k]? = some (sv (g k) (lenK cs k) (c k)) := by
  simp [cellG, show k < 15 by omega, hk]
theorem cellG_set {cs : List (List Int)} {x : List Int} {g : Nat → Option Nat} {c : Nat → Nat} {i : Nat} (hl : cs.length = i) (hi : i < 15) (g' : Option Nat) (c' : Nat) :
    putL (cellG cs g c i) i [sv g' x.length c'] = cellG (cs ++ [x]) (fun k => if k = i then g' else g k) (fun k => if k = i then c' else c k) (i + 1) := by
  rw [putL_one]
  apply List.ext_getElem?
  intro k
  rw [List.getElem?_set]
  by_cases hk : k < 15
  · by_cases hki : i = k
    · subst hki
      rw [if_pos rfl, if_pos (by rw [cellG_len]; omega), cellG_get (by omega) (by omega)]
      simp [lenK, snoc_get, hl]
    · rw [if_neg hki]
      by_cases hlt : k < i
      · rw [cellG_get hlt (by omega), cellG_get (by omega) (by omega)]
        simp [lenK, snoc_get, hl, Ne.symm hki]
      · simp [cellG, hk, hlt, show ¬ k < i + 1 by omega]
  · rw [if_neg (by omega), List.getElem?_eq_none (by rw [cellG_len]; omega), List.getElem?_eq_none (by rw [cellG_len]; omega)]
def rowsG (t : Nat) (cs : List (List Int)) (g : Nat → Option Nat) (c : Nat → Nat) : Nat → List Seg
  | 0 => []
  | i + 1 => Seg.row (g i) t 1 (lenK cs i) (c i) (i64s ((cs[i]?).getD [])) :: rowsG t cs g c i
theorem rowsG_congr {t : Nat} {cs cs' : List (List Int)} {g g' : Nat → Option Nat} {c c' : Nat → Nat} : ∀ {i : Nat}, (∀ k, k < i → cs[k]? = cs'[k]? ∧ g k = g' k ∧ c k = c' k) → rowsG t cs g c i = rowsG t cs' g' c' i
  | 0, _ => rfl
  | i + 1, h => by
    obtain ⟨h1, h2, h3⟩ := h i (by omega)
    rw [rowsG, rowsG, rowsG_congr (fun k hk => h k (by omega)), lenK, lenK, h1, h2, h3]
theorem rowsG_snoc {t : Nat} {cs : List (List Int)} {x : List Int} {g : Nat → Option Nat} {c : Nat → Nat} {i : Nat} (hl : cs.length = i) (g' : Option Nat) (c' : Nat) :
    Seg.row g' t 1 x.length c' (i64s x) :: rowsG t cs g c i = rowsG t (cs ++ [x]) (fun k => if k = i then g' else g k) (fun k => if k = i then c' else c k) (i + 1) := by
  rw [rowsG]
  have e1 : (cs ++ [x])[i]? = some x := by rw [snoc_get, if_pos hl.symm]
  rw [lenK, e1]
  simp only [Option.getD_some, if_true]
  rw [rowsG_congr (cs' := cs ++ [x]) (g' := fun k => if k = i then g' else g k) (c' := fun k => if k = i then c' else c k)]
  intro k hk
  rw [snoc_get, if_neg (by omega)]
  simp [show k ≠ i by omega]
theorem mosts_get {i : Nat} (hi : i < 15) : mosts[i]? = some (if 4 ≤ i ∧ i < 7 then 1024 else if 7 ≤ i ∧ i < 13 then 64 else 32) := by
  match i, hi with
  | 0, _ | 1, _ | 2, _ | 3, _ | 4, _ | 5, _ | 6, _ | 7, _ | 8, _ | 9, _ | 10, _ | 11, _ | 12, _ | 13, _ | 14, _ => rfl
theorem mosts_take {i m : Nat} (h : mosts[i]? = some m) : mosts.take (i + 1) = mosts.take i ++ [m] := by rw [List.take_add_one, h]; rfl
end Go.Eng

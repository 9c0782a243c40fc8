/-
  Plain laws of layer 21: files found, read, their numbers.
-/
import Derived.Test.YtacpcbobkeedbaaGreatDoorM23
import Derived.Test.YtacpcbobkeedbaaGreatDoorM2
import Derived.Test.YtacpcbobkeedbaaGreatDoorM12
import Derived.Lib.SlicesCompact
import Derived.Test.YtacpcbobkeedbaaGreatDoorM1
/-
  Plain laws of layer 21: files found, read, their numbers.
-/
namespace Go.Eng
open Go

theorem readF_drop {S : FL} {n : List UInt8} : ∀ {i : Nat}, (∀ k p, k < i → S[k]? = some p → p.1 ≠ n) → readN S n = readN (S.drop i) n
  | 0, _ => by simp
  | i + 1, h => by
    rw [readF_drop (i := i) (fun k p hk hp => h k p (by omega) hp)]
    by_cases hl : i < S.length
    · have hi := List.getElem?_eq_getElem hl
      have hc : readN (S[i] :: S.drop (i + 1)) n = if S[i].1 = n then S[i].2 else readN (S.drop (i + 1)) n := by
        unfold readN
        rw [List.find?_cons]
        by_cases he : S[i].1 = n <;> simp [he]
      rw [List.drop_eq_getElem_cons hl, hc, if_neg (h i _ (by omega) hi)]
    · rw [List.drop_of_length_le (by omega), List.drop_of_length_le (by omega)]
theorem readF_hit {S : FL} {n : List UInt8} {i : Nat} {p : List UInt8 × List UInt8} (h : ∀ k p, k < i → S[k]? = some p → p.1 ≠ n) (hp : S[i]? = some p) (hn : p.1 = n) : readN S n = p.2 := by
  have hl := (List.getElem?_eq_some_iff.1 hp).1
  rw [readF_drop h, List.drop_eq_getElem_cons hl]
  rw [List.getElem?_eq_getElem hl] at hp
  rw [Option.some.inj hp]
  unfold readN
  rw [List.find?_cons]; simp [hn]
theorem readF_none {S : FL} {n : List UInt8} (h : ∀ p, p ∈ S → p.1 ≠ n) : readN S n = [] := by
  rw [readF_drop (i := S.length) (fun k p _ hp => h p (List.mem_of_getElem? hp)), List.drop_of_length_le (Nat.le_refl _)]; rfl
theorem readF_len {S : FL} {n : List UInt8} {m : Nat} (h : ∀ p, p ∈ S → p.2.length ≤ m) : (readN S n).length ≤ m := by
  rcases readN_mem (S := S) (n := n) with h1 | h1
  · rw [h1]; exact Nat.zero_le _
  · exact h _ h1
/-- The first place where it holds. -/
def idxF (p : List UInt8 × List UInt8 → Bool) (S : FL) : Int := match S.findIdx? p with
  | some i => (i : Int)
  | none => -1
theorem idxF_no {p : List UInt8 × List UInt8 → Bool} {S : FL} (h : ∀ j q, j < S.length → S[j]? = some q → p q = false) : idxF p S = -1 := by
  unfold idxF
  rw [List.findIdx?_eq_none_iff.2 fun x hx => by
    obtain ⟨j, hj⟩ := List.getElem?_of_mem hx
    exact h j x (List.getElem?_eq_some_iff.1 hj).1 hj]
theorem idxF_hit {p : List UInt8 × List UInt8 → Bool} {S : FL} {i : Nat} {q : List UInt8 × List UInt8} (h : ∀ j q, j < i → S[j]? = some q → p q = false) (hx : S[i]? = some q) (hp : p q = true) : idxF p S = i := by
  unfold idxF
  obtain ⟨hl, he⟩ := List.getElem?_eq_some_iff.1 hx
  rw [List.findIdx?_eq_some_iff_getElem.2 ⟨hl, by rw [he]; exact hp, fun j hj => by rw [h j _ hj (List.getElem?_eq_getElem (by omega))]; exact Bool.false_ne_true⟩]
theorem idxF_cases (p : List UInt8 × List UInt8 → Bool) (S : FL) : (idxF p S = -1 ∧ ∀ q, q ∈ S → p q = false) ∨ ∃ (i : Nat) (q : List UInt8 × List UInt8), idxF p S = i ∧ S[i]? = some q ∧ p q = true ∧ ∀ j r, j < i → S[j]? = some r → p r = false := by
  unfold idxF
  cases h : S.findIdx? p with
  | none => exact .inl ⟨rfl, List.findIdx?_eq_none_iff.1 h⟩
  | some i =>
    obtain ⟨hl, h1, h2⟩ := List.findIdx?_eq_some_iff_getElem.1 h
    refine .inr ⟨i, S[i], rfl, List.getElem?_eq_getElem hl, h1, fun j r hj hr => ?_⟩
    have := h2 j hj
    rw [List.getElem?_eq_getElem (by omega)] at hr
    cases hr
    simpa using this
theorem idxF_step {p : List UInt8 × List UInt8 → Bool} {S : FL} {i : Nat} {x : List UInt8 × List UInt8} (h : ∀ j q, j < i → S[j]? = some q → p q = false) (hx : S[i]? = some x) (hp : p x = false) : ∀ j q, j < i + 1 → S[j]? = some q → p q = false := by
  intro j q hj hq
  by_cases hji : j = i
  · subst hji; rw [hx] at hq; cases hq; exact hp
  · exact h j q (by omega) hq
theorem readF_step {n : List UInt8} {S : FL} {i : Nat} {x : List UInt8 × List UInt8} (h : ∀ j q, j < i → S[j]? = some q → q.1 ≠ n) (hx : S[i]? = some x) (hp : ¬ x.1 = n) : ∀ j q, j < i + 1 → S[j]? = some q → q.1 ≠ n := by
  intro j q hj hq
  by_cases hji : j = i
  · subst hji; rw [hx] at hq; cases hq; exact hp
  · exact h j q (by omega) hq
/-- The headers of files. -/
def headsF (S : FL) (n : Int) : List HdB × Bool := if 1 ≤ n ∧ n ≤ 32 then ((hsB n (frowsB (readN S headsB))).1, (hsB n (frowsB (readN S headsB))).2 && justB (readN S headsB)) else ([], false)
/-- A segment's rows. -/
def segF (S : FL) (k : Int) : List (List UInt8) × Bool := if nmB 115 k = [] then ([], false) else (frowsB (readN S (nmB 115 k)), justB (readN S (nmB 115 k)))
/-- The numbers of a kind's files. -/
def kindsF (k : Int) (S : FL) : List Int := S.filterMap fun p => if (kindB p.1).1 = k then some (kindB p.1).2.1 else none
theorem kindsF_snoc (k : Int) (S : FL) (p : List UInt8 × List UInt8) : kindsF k (S ++ [p]) = kindsF k S ++ if (kindB p.1).1 = k then [(kindB p.1).2.1] else [] := by
  unfold kindsF
  rw [List.filterMap_append]
  by_cases h : (kindB p.1).1 = k <;> simp [h]
theorem kindsF_len (k : Int) (S : FL) : (kindsF k S).length ≤ S.length := List.length_filterMap_le _ _
theorem kindB_in (s : List UInt8) : 0 ≤ (kindB s).1 ∧ (kindB s).1 ≤ 3 ∧ 0 ≤ (kindB s).2.1 ∧ (kindB s).2.1 ≤ 1099511627776 := by
  unfold kindB
  split
  · exact ⟨by simp, by simp, by simp, by simp⟩
  · split
    · exact ⟨by simp, by simp, by simp, by simp⟩
    · split
      · rename_i u hu
        have := (numS_some hu).2.1
        split
        · exact ⟨by simp, by simp, by simp only; omega, by simp only; omega⟩
        · split
          · exact ⟨by simp, by simp, by simp only; omega, by simp only; omega⟩
          · exact ⟨by simp, by simp, by simp, by simp⟩
      · exact ⟨by simp, by simp, by simp, by simp⟩
theorem kindsF_in {k : Int} {S : FL} {x : Int} (h : x ∈ kindsF k S) : 0 ≤ x ∧ x ≤ 1099511627776 := by
  unfold kindsF at h
  obtain ⟨p, -, hp⟩ := List.mem_filterMap.1 h
  split at hp
  · cases hp; exact (kindB_in p.1).2.2
  · cases hp
/-- Numbers, sorted, each one once. -/
def numsF (k : Int) (S : FL) : List Int := Lib.compact ((kindsF k S).mergeSort fun x y => decide (x ≤ y))
/-- The last segment's number. -/
def lastF (S : FL) : Int := (numsF 1 S).getLast?.getD (-1)
/-- The greatest number, or -1. -/
def maxL (a : Int) (l : List Int) : Int := l.foldl (fun a n => if a < n then n else a) a
theorem maxL_cons (a y : Int) (l : List Int) : maxL a (y :: l) = maxL (if a < y then y else a) l := rfl
theorem maxL_ge : ∀ (l : List Int) (a : Int), a ≤ maxL a l ∧ ∀ x, x ∈ l → x ≤ maxL a l
  | [], a => ⟨Int.le_refl _, fun x hx => by cases hx⟩
  | y :: l, a => by
    rw [maxL_cons]
    by_cases hay : a < y
    · rw [if_pos hay]
      have h := maxL_ge l y
      refine ⟨by omega, fun x hx => ?_⟩
      rcases List.mem_cons.1 hx with rfl | hx
      · exact h.1
      · exact h.2 x hx
    · rw [if_neg hay]
      have h := maxL_ge l a
      refine ⟨h.1, fun x hx => ?_⟩
      rcases List.mem_cons.1 hx with rfl | hx
      · have := h.1; omega
      · exact h.2 x hx
theorem maxL_mem : ∀ (l : List Int) (a : Int), maxL a l = a ∨ maxL a l ∈ l
  | [], a => .inl rfl
  | y :: l, a => by
    rw [maxL_cons]
    by_cases hay : a < y
    · rw [if_pos hay]
      rcases maxL_mem l y with h | h
      · rw [h]; exact .inr (by simp)
      · exact .inr (List.mem_cons_of_mem _ h)
    · rw [if_neg hay]
      rcases maxL_mem l a with h | h
      · exact .inl h
      · exact .inr (List.mem_cons_of_mem _ h)
theorem compact_last (l : List Int) : (Lib.compact l).getLast? = l.getLast? := by
  unfold Lib.compact
  have h : ∀ m, m < l.length → (Lib.compactUpTo l.toArray (m + 1)).getLast? = l[m]? := by
    intro m
    induction m with
    | zero =>
      intro h
      rw [Lib.compactUpTo_succ, if_pos (Lib.keeps_lt_one _ 0 (by omega)), List.getLast?_concat]
      simp [h]
    | succ m ih =>
      intro h
      rw [Lib.compactUpTo_succ]
      by_cases hk : Lib.keeps l.toArray (m + 1) = true
      · rw [if_pos hk, List.getLast?_concat]; simp [h]
      · rw [if_neg hk, List.append_nil, ih (by omega)]
        have he : l.toArray[m + 1]! = l.toArray[m + 1 - 1]! := Classical.byContradiction fun hc => hk (Lib.keeps_pos hc)
        rw [Nat.add_sub_cancel] at he
        simp [h, show m < l.length by omega] at he
        simp [h, show m < l.length by omega, he]
  cases l with
  | nil => rfl
  | cons x l =>
    have := h l.length (by simp)
    rw [show (x :: l).length = l.length + 1 from rfl, this, List.getLast?_eq_getElem?]
    rfl
theorem compact_len (l : List Int) : (Lib.compact l).length ≤ l.length := by
  unfold Lib.compact Lib.compactUpTo
  rw [List.length_map]
  have := List.length_filter_le (Lib.keeps l.toArray) (List.range l.length)
  rwa [List.length_range] at this
theorem numsF_len (k : Int) (S : FL) : (numsF k S).length ≤ S.length := by
  have h1 := compact_len ((kindsF k S).mergeSort fun x y => decide (x ≤ y))
  rw [List.length_mergeSort] at h1
  have h2 := kindsF_len k S
  unfold numsF; omega
theorem lastF_max (S : FL) : lastF S = maxL (-1) (kindsF 1 S) := by
  unfold lastF numsF
  rw [compact_last]
  have hs : (List.mergeSort (kindsF 1 S) fun x y => decide (x ≤ y)).Pairwise fun a b => decide (a ≤ b) = true := List.pairwise_mergeSort (fun a b c h1 h2 => by simp at *; omega) (fun a b => by simp; omega) _
  have hm : ∀ x, x ∈ (List.mergeSort (kindsF 1 S) fun x y => decide (x ≤ y)) ↔ x ∈ kindsF 1 S := fun x => List.mem_mergeSort
  have hg := maxL_ge (kindsF 1 S) (-1)
  have hx := maxL_mem (kindsF 1 S) (-1)
  generalize List.mergeSort (kindsF 1 S) (fun x y => decide (x ≤ y)) = L at hs hm
  by_cases hL : L = []
  · subst hL
    rcases hx with h | h
    · rw [h]; rfl
    · exact absurd ((hm _).2 h) (by simp)
  · obtain ⟨xs, z, rfl⟩ : ∃ xs z, L = xs ++ [z] := ⟨L.dropLast, L.getLast hL, (List.dropLast_concat_getLast hL).symm⟩
    rw [List.getLast?_concat]
    show z = _
    have hz := (hm z).1 (by simp)
    have h1 := hg.2 z hz
    have h0 := (kindsF_in hz).1
    rcases hx with h | h
    · omega
    · have h2 := (hm _).2 h
      rcases List.mem_append.1 h2 with h2 | h2
      · have := (List.pairwise_append.1 hs).2.2 _ h2 z (by simp)
        have := of_decide_eq_true this
        omega
      · rw [List.mem_singleton] at h2; exact h2.symm
end Go.Eng

/-
  Plain laws of layer 21: the numbers of snapshots, rising.
-/
namespace Go.Eng
open Go

/-- The least number above another one so far. -/
def nxtS (last b n : Int) : Int := if last < n ∧ (b < 0 ∨ n < b) then n else b
def nxtL (last : Int) (l : List Int) : Int := l.foldl (nxtS last) (-1)
theorem nxt_fold (last : Int) : ∀ (l : List Int) (b : Int), (∀ x, x ∈ l → 0 ≤ x) →
    (l.foldl (nxtS last) b = b ∨ (l.foldl (nxtS last) b ∈ l ∧ last < l.foldl (nxtS last) b)) ∧ (∀ x, x ∈ l → last < x → 0 ≤ l.foldl (nxtS last) b ∧ l.foldl (nxtS last) b ≤ x) ∧ (0 ≤ b → 0 ≤ l.foldl (nxtS last) b ∧ l.foldl (nxtS last) b ≤ b)
  | [], b, _ => ⟨.inl rfl, ⟨fun x hx => absurd hx (by simp), fun h => ⟨h, Int.le_refl _⟩⟩⟩
  | y :: l, b, h => by
    rw [List.foldl_cons]
    obtain ⟨h1, h2, h3⟩ := nxt_fold last l (nxtS last b y) fun x hx => h x (List.mem_cons_of_mem _ hx)
    have hy := h y (by simp)
    by_cases c : last < y ∧ (b < 0 ∨ y < b)
    · have e : nxtS last b y = y := if_pos c
      rw [e] at h1 h2 h3 ⊢
      have h4 := h3 hy
      refine ⟨?_, fun x hx hl => ?_, fun hb => ⟨h4.1, by omega⟩⟩
      · rcases h1 with h1 | h1
        · rw [h1]; exact .inr ⟨by simp, c.1⟩
        · exact .inr ⟨List.mem_cons_of_mem _ h1.1, h1.2⟩
      · rcases List.mem_cons.1 hx with rfl | hx
        · exact h4
        · exact h2 x hx hl
    · have e : nxtS last b y = b := if_neg c
      rw [e] at h1 h2 h3 ⊢
      refine ⟨?_, fun x hx hl => ?_, h3⟩
      · rcases h1 with h1 | h1
        · exact .inl h1
        · exact .inr ⟨List.mem_cons_of_mem _ h1.1, h1.2⟩
      · rcases List.mem_cons.1 hx with rfl | hx
        · have := h3 (by omega); omega
        · exact h2 x hx hl
end Go.Eng

/-
  Plain laws of layers 8 and 22: the chain of headers, what a verifier finds.
-/
namespace Go.Eng
open Go

/-- A row's bytes behind its length; a header's bytes; its hash. -/
def rowL (s : List UInt8) : List UInt8 := numL s.length ++ s
def putH (h : HdB) : List UInt8 := numL h.i.toNat ++ numL h.f.toNat ++ numL h.c.toNat ++ numL h.b.toNat ++ rowL h.p ++ rowL h.r
def hashH (n : Nat) (h : HdB) : List UInt8 := cutH n (putH h)
/-- Do headers chain? The last hash. -/
def chB (n : Nat) : List HdB → Int → Int → List UInt8 → List UInt8 × Bool
  | [], _, _, p => (p, true)
  | h :: t, i, f, p => if mayH h n = true ∧ h.i = i ∧ h.f = f ∧ h.p = p then chB n t (i + 1) (f + h.c) (hashH n h) else ([], false)
def chainB (n : Nat) (L : List HdB) : List UInt8 × Bool := chB n L 0 0 (cutH n [])
theorem chB_may {n : Nat} : ∀ {L : List HdB} {i f : Int} {p : List UInt8}, (chB n L i f p).2 = true → ∀ h, h ∈ L → mayH h n = true
  | [], _, _, _, _, h, hm => by simp at hm
  | x :: t, i, f, p, hc, h, hm => by
    unfold chB at hc
    split at hc
    · rename_i hx
      rcases List.mem_cons.1 hm with rfl | hm
      · exact hx.1
      · exact chB_may hc h hm
    · simp at hc
theorem chB_ok {n : Nat} {h : HdB} {t : List HdB} {i f : Int} {p : List UInt8} (hc : mayH h n = true ∧ h.i = i ∧ h.f = f ∧ h.p = p) : chB n (h :: t) i f p = chB n t (i + 1) (f + h.c) (hashH n h) := by rw [chB, if_pos hc]
theorem chB_no {n : Nat} {h : HdB} {t : List HdB} {i f : Int} {p : List UInt8} (hc : ¬ (mayH h n = true ∧ h.i = i ∧ h.f = f ∧ h.p = p)) : chB n (h :: t) i f p = ([], false) := by rw [chB, if_neg hc]
theorem mayH_in {h : HdB} {n : Int} (hm : mayH h n = true) : 0 ≤ h.i ∧ h.i ≤ 1099511627776 ∧ 0 ≤ h.f ∧ h.f ≤ 1099511627776 ∧ 1 ≤ h.c ∧ h.c ≤ 64 ∧ 0 ≤ h.b ∧ h.b ≤ 1099511627776 ∧ (h.p.length : Int) = n ∧ (h.r.length : Int) = n := of_decide_eq_true hm
/-- All bytes of rows. -/
def sumL (r : List (List UInt8)) : Nat := (r.map List.length).sum
theorem sumL_snoc (r : List (List UInt8)) (x : List UInt8) : sumL (r ++ [x]) = sumL r + x.length := by simp [sumL]
def hdAt (H : List HdB) (k : Nat) : HdB := H[k]?.getD hd0
theorem hdAt_get {H : List HdB} {k : Nat} (h : k < H.length) : H[k]? = some (hdAt H k) := by unfold hdAt; rw [List.getElem?_eq_getElem h]; rfl
/-- The error of a sealed segment. -/
def segE (S : FL) (per : Int) (n : Nat) (H : List HdB) (k : Nat) : Int :=
  if (chainB n (H.take (k + 1))).2 = false then 10 else
  if (hdAt H k).c ≠ per then 11 else
  if (segF S k).2 = false then 3 else
  if ((segF S k).1.length : Int) ≠ (hdAt H k).c then 11 else
  if (sumL (segF S k).1 : Int) ≠ (hdAt H k).b then 9 else
  if rootB n (segF S k).1 ≠ (hdAt H k).r then 9 else 0
theorem seg_few {_S : FL} {n : Nat} {H : List HdB} {k : Nat} (hk : k < H.length) (h1 : (chainB n (H.take (k + 1))).2 = true) : 1 ≤ (hdAt H k).c ∧ (hdAt H k).c ≤ 64 := by
  have := mayH_in (chB_may h1 (hdAt H k) (List.mem_of_getElem? (i := k) (by rw [List.getElem?_take_of_lt (by omega), hdAt_get hk])))
  omega
/-- The first of some numbers that is not 0. -/
def fstE (g : Nat → Int) : Nat → Nat → Option Nat
  | 0, _ => none
  | m + 1, k => if g k ≠ 0 then some k else fstE g m (k + 1)
theorem fstE_hit {g : Nat → Int} {m k : Nat} (h : k < m) (he : g k ≠ 0) : fstE g (m - k) k = some k := by
  obtain ⟨j, hj⟩ : ∃ j, m - k = j + 1 := ⟨m - k - 1, by omega⟩
  rw [hj, fstE, if_pos he]
theorem fstE_step {g : Nat → Int} {m k : Nat} (h : k < m) (he : g k = 0) : fstE g (m - k) k = fstE g (m - (k + 1)) (k + 1) := by
  obtain ⟨j, hj⟩ : ∃ j, m - k = j + 1 := ⟨m - k - 1, by omega⟩
  rw [hj, fstE, if_neg (by simpa using he), show m - (k + 1) = j by omega]
theorem fstE_end (g : Nat → Int) (m : Nat) : fstE g (m - m) m = none := by rw [Nat.sub_self]; rfl
theorem fstE_some {g : Nat → Int} : ∀ {m k j : Nat}, fstE g m k = some j → k ≤ j ∧ j < k + m ∧ g j ≠ 0
  | 0, _, _, h => by simp [fstE] at h
  | m + 1, k, j, h => by
    unfold fstE at h
    split at h
    · rename_i hk
      have : k = j := Option.some.inj h
      subst this
      exact ⟨Nat.le_refl _, by omega, hk⟩
    · have := fstE_some h
      exact ⟨by omega, by omega, this.2.2⟩
/-- The rows of the first segments. -/
def rowsK (S : FL) (k : Nat) : List (List UInt8) := (List.range k).flatMap fun j : Nat => (segF S (j : Int)).1
theorem rowsK_succ (S : FL) (k : Nat) : rowsK S (k + 1) = rowsK S k ++ (segF S k).1 := by unfold rowsK; rw [List.range_succ, List.flatMap_append]; simp
/-- What is found. -/
structure FndB where
  H : List HdB
  R : List (List UInt8)
  T : List (List UInt8)
  at_ : Int
  e : Int
def verF (S : FL) (per : Int) (n : Nat) : FndB :=
  match fstE (segE S per n (headsF S n).1) (headsF S n).1.length 0 with
  | some k => ⟨[], [], [], k, segE S per n (headsF S n).1 k⟩
  | none =>
    if (headsF S n).2 = false ∨ (segF S (headsF S n).1.length).2 = false then ⟨[], [], [], (headsF S n).1.length, 3⟩ else
    if per ≤ (segF S (headsF S n).1.length).1.length then ⟨[], [], [], (headsF S n).1.length, 11⟩ else
    if 0 ≤ nxtL (headsF S n).1.length (kindsF 1 S) then ⟨[], [], [], nxtL (headsF S n).1.length (kindsF 1 S), 4⟩ else
    ⟨(headsF S n).1, rowsK S (headsF S n).1.length, (segF S (headsF S n).1.length).1, -1, 0⟩
/-- The least number above one, from the greatest one down. -/
def minK (k : Int) (a : Int) (l : List Int) : Int := l.foldl (fun a n => if k < n then min a n else a) a
theorem minK_snoc (k a : Int) (l : List Int) (x : Int) : minK k a (l ++ [x]) = if k < x then min (minK k a l) x else minK k a l := by unfold minK; rw [List.foldl_append]; rfl
theorem minK_in (k : Int) : ∀ (l : List Int) (a : Int), (minK k a l = a ∨ (minK k a l ∈ l ∧ k < minK k a l)) ∧ minK k a l ≤ a ∧ ∀ x, x ∈ l → k < x → minK k a l ≤ x
  | [], a => ⟨.inl rfl, Int.le_refl _, fun x hx => absurd hx (by simp)⟩
  | y :: l, a => by
    have e : minK k a (y :: l) = minK k (if k < y then min a y else a) l := rfl
    rw [e]
    obtain ⟨h1, h2, h3⟩ := minK_in k l (if k < y then min a y else a)
    by_cases c : k < y
    · rw [if_pos c] at h1 h2 h3 ⊢
      refine ⟨?_, by omega, fun x hx hk => ?_⟩
      · rcases h1 with h1 | h1
        · by_cases d : a ≤ y
          · left; omega
          · right; exact ⟨by rw [h1, Int.min_eq_right (by omega)]; simp, by omega⟩
        · exact .inr ⟨List.mem_cons_of_mem _ h1.1, h1.2⟩
      · rcases List.mem_cons.1 hx with rfl | hx
        · omega
        · exact h3 x hx hk
    · rw [if_neg c] at h1 h2 h3 ⊢
      refine ⟨?_, h2, fun x hx hk => ?_⟩
      · rcases h1 with h1 | h1
        · exact .inl h1
        · exact .inr ⟨List.mem_cons_of_mem _ h1.1, h1.2⟩
      · rcases List.mem_cons.1 hx with rfl | hx
        · omega
        · exact h3 x hx hk
theorem minK_nxt {k : Int} {l : List Int} (h0 : ∀ x, x ∈ l → 0 ≤ x) (hk : k < maxL (-1) l) (hk0 : 0 ≤ k) : minK k (maxL (-1) l) l = nxtL k l ∧ 0 ≤ nxtL k l := by
  have hm : maxL (-1) l ∈ l := by
    rcases maxL_mem l (-1) with h | h
    · omega
    · exact h
  obtain ⟨h1, h2, -⟩ := nxt_fold k l (-1) h0
  have hR : l.foldl (nxtS k) (-1) = nxtL k l := rfl
  rw [hR] at h1 h2
  obtain ⟨g1, g2, g3⟩ := minK_in k l (maxL (-1) l)
  have h3 := h2 _ hm hk
  rcases h1 with h1 | ⟨h1, h4⟩
  · omega
  have g4 := g3 _ h1 h4
  have g5 : nxtL k l ≤ minK k (maxL (-1) l) l := by
    rcases g1 with g1 | ⟨g1, g6⟩
    · rw [g1]; exact h3.2
    · exact (h2 _ g1 g6).2
  omega
theorem nxt_none {k : Int} {l : List Int} (h0 : ∀ x, x ∈ l → 0 ≤ x) (hk : maxL (-1) l ≤ k) : nxtL k l = -1 := by
  obtain ⟨h1, -, -⟩ := nxt_fold k l (-1) h0
  rcases h1 with h1 | ⟨h1, h4⟩
  · exact h1
  · have := (maxL_ge l (-1)).2 _ h1
    have e : nxtL k l = l.foldl (nxtS k) (-1) := rfl
    omega
end Go.Eng

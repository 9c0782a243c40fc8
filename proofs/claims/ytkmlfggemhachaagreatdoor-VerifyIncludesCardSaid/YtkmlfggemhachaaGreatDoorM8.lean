/-
  Plain laws of layer 12: books.
-/
import Derived.Test.YtkmlfggemhachaaGreatDoorM2
import Derived.Test.YtkmlfggemhachaaGreatDoorM5
import Derived.Test.YtkmlfggemhachaaGreatDoorM7
/-
  Plain laws of layer 12: books.
-/
namespace Go.Eng
open Go

/-- Things of so many 64-bit numbers each. -/
def Recs (sz : Nat) (l : List (List Int)) : Prop := ∀ x, x ∈ l → x.length = sz ∧ ∀ y, y ∈ x → inK .i64 y
theorem flat_rec_len {sz : Nat} : ∀ {l : List (List Int)}, (∀ x, x ∈ l → x.length = sz) → (l.flatMap i64s).length = l.length * sz
  | [], _ => by simp
  | x :: l, h => by
    rw [List.flatMap_cons, List.length_append, i64s_len, h x (by simp), flat_rec_len (fun y hy => h y (by simp [hy])), List.length_cons, Nat.succ_mul, Nat.add_comm]
theorem flat_rec {sz : Nat} : ∀ {l : List (List Int)} {i : Nat} {x : List Int}, (∀ x, x ∈ l → x.length = sz) → l[i]? = some x → ∀ (j : Nat) (u : Value), (i64s x)[j]? = some u → (l.flatMap i64s)[i * sz + j]? = some u
  | [], i, x, _, h, _, _, _ => by simp at h
  | y :: l, 0, x, hl, h, j, u, hu => by
    simp only [List.getElem?_cons_zero, Option.some.injEq] at h; subst h
    rw [List.flatMap_cons, Nat.zero_mul, Nat.zero_add, List.getElem?_append_left]
    · exact hu
    · exact (List.getElem?_eq_some_iff.1 hu).1
  | y :: l, i + 1, x, hl, h, j, u, hu => by
    have hy := hl y (by simp)
    rw [List.flatMap_cons, List.getElem?_append_right (by rw [i64s_len, hy, Nat.succ_mul]; omega), i64s_len, hy, show (i + 1) * sz + j - sz = i * sz + j by rw [Nat.succ_mul]; omega]
    exact flat_rec (fun z hz => hl z (by simp [hz])) (by simpa using h) j u hu
theorem Recs.len {sz : Nat} {l : List (List Int)} (h : Recs sz l) : ∀ x, x ∈ l → x.length = sz := fun x hx => (h x hx).1
/-- What a load of the i-th thing finds. -/
theorem RdW.rec {S : Base} {bx : Bx} {hp : List Seg} {g o off sz i : Nat} {l : List (List Int)} {x : List Int} (hl : ∀ x, x ∈ l → x.length = sz) (hc : ∀ j u, (l.flatMap i64s)[j]? = some u → S.w0.cell? ⟨g, o + j, none⟩ = some u) (hm : g ∉ S.mods)
    (hx : l[i]? = some x) (hoff : off = o + i * sz) : RdW S bx hp g off (i64s x) := RdW.sl hc hm (i * sz) hoff (flat_rec hl hx)
theorem RdW.recRow {S : Base} {bx : Bx} {hp : List Seg} {g t n cap off sz i : Nat} {l : List (List Int)} {x : List Int} (j : Nat) (hl : ∀ x, x ∈ l → x.length = sz) (hj : nth hp j = some (Seg.row (some g) t sz n cap (l.flatMap i64s))) (hx : l[i]? = some x) (hoff : off = i * sz) :
    RdW S bx hp g off (i64s x) := RdW.row hj (fun k u hu => by rw [hoff]; exact flat_rec hl hx k u hu)
theorem len1 {x : List Int} (h : x.length = 1) : ∃ a, x = [a] := by
  match x, h with
  | [a], _ => exact ⟨a, rfl⟩
theorem len2 {x : List Int} (h : x.length = 2) : ∃ a b, x = [a, b] := by
  match x, h with
  | [a, b], _ => exact ⟨a, b, rfl⟩
theorem len3 {x : List Int} (h : x.length = 3) : ∃ a b c, x = [a, b, c] := by
  match x, h with
  | [a, b, c], _ => exact ⟨a, b, c, rfl⟩
theorem len4 {x : List Int} (h : x.length = 4) : ∃ a b c d, x = [a, b, c, d] := by
  match x, h with
  | [a, b, c, d], _ => exact ⟨a, b, c, d, rfl⟩
theorem len6 {x : List Int} (h : x.length = 6) : ∃ a b c d e f, x = [a, b, c, d, e, f] := by
  match x, h with
  | [a, b, c, d, e, f], _ => exact ⟨a, b, c, d, e, f, rfl⟩

/-- Two numbers compared. -/
def cmpI (a b : Int) : Int := if a < b then -1 else if b < a then 1 else 0
theorem cmpI_lt {a b : Int} : cmpI a b < 0 ↔ a < b := by unfold cmpI; split <;> (try split) <;> omega
theorem cmpI_eq {a b : Int} : cmpI a b = 0 ↔ a = b := by unfold cmpI; split <;> (try split) <;> omega
theorem cmpI_in (a b : Int) : -1 ≤ cmpI a b ∧ cmpI a b ≤ 1 := by unfold cmpI; split <;> (try split) <;> omega
/-- A thing's first number, and its second one. -/
def k0 (x : List Int) : Int := x.headD 0
def k1 (x : List Int) : Int := x.tail.headD 0
/-- A thing held against a key. -/
def cmp1 (x : List Int) (k : Int) : Int := cmpI (k0 x) k
def cmp2 (x : List Int) (k l : Int) : Int := if cmpI (k0 x) k = 0 then cmpI (k1 x) l else cmpI (k0 x) k
theorem cmp2_lt {x : List Int} {k l : Int} : cmp2 x k l < 0 ↔ k0 x < k ∨ k0 x = k ∧ k1 x < l := by
  have h1 := @cmpI_lt (k0 x) k
  have h2 := @cmpI_lt (k1 x) l
  have h3 := @cmpI_eq (k0 x) k
  unfold cmp2; split <;> omega

/-- Do they rise, by this order? -/
def ris (lt : List Int → List Int → Bool) : List (List Int) → Bool
  | x :: y :: l => lt x y && ris lt (y :: l)
  | _ => true
def lt1 (x y : List Int) : Bool := decide (k0 x < k0 y)
def lt2 (x y : List Int) : Bool := decide (k0 x < k0 y ∨ k0 x = k0 y ∧ k1 x < k1 y)
theorem ris_iff {lt : List Int → List Int → Bool} : ∀ l : List (List Int), ris lt l = true ↔ ∀ i x y, l[i]? = some x → l[i + 1]? = some y → lt x y = true
  | [] => by simp [ris]
  | [x] => by simp [ris]
  | x :: y :: l => by
    have ih := ris_iff (lt := lt) (y :: l)
    rw [ris, Bool.and_eq_true, ih]
    constructor
    · rintro ⟨h1, h2⟩ i a b ha hb
      cases i with
      | zero => simp at ha hb; subst ha; subst hb; exact h1
      | succ i => exact h2 i a b (by simpa using ha) (by simpa using hb)
    · intro h
      exact ⟨h 0 x y rfl rfl, fun i a b ha hb => h (i + 1) a b (by simpa using ha) (by simpa using hb)⟩
theorem ris_false {lt : List Int → List Int → Bool} {l : List (List Int)} {i : Nat} {x y : List Int} (hx : l[i]? = some x) (hy : l[i + 1]? = some y) (h : lt x y = false) : ris lt l = false := by
  cases hr : ris lt l with
  | false => rfl
  | true => have := (ris_iff l).1 hr i x y hx hy; rw [h] at this; cases this
/-- The keys of things that rise. -/
theorem ris_mono {l : List (List Int)} (h : ris lt1 l = true) : ∀ (d i : Nat) (x y : List Int), l[i]? = some x → l[i + 1 + d]? = some y → k0 x < k0 y
  | 0, i, x, y, hx, hy => by
    have := (ris_iff l).1 h i x y hx hy
    simpa [lt1] using this
  | d + 1, i, x, y, hx, hy => by
    obtain ⟨z, hz⟩ : ∃ z, l[i + 1]? = some z := ⟨_, List.getElem?_eq_getElem (by have := (List.getElem?_eq_some_iff.1 hy).1; omega)⟩
    have h1 := (ris_iff l).1 h i x z hx hz
    have h2 := ris_mono h d (i + 1) z y hz (by rw [← hy]; congr 1; omega)
    simp [lt1] at h1; omega

/-- A thing found by its key. -/
def fnd (l : List (List Int)) (k : Int) : Option (List Int) := l.find? fun x => decide (k0 x = k)
/-- The place that halving finds: all ahead of it are less, none behind it is. -/
theorem fnd_at {l : List (List Int)} {i : Nat} {x : List Int} {k : Int} (h : ris lt1 l = true) (hx : l[i]? = some x) (hk : k0 x = k) : fnd l k = some x := by
  unfold fnd
  rw [List.find?_eq_some_iff_append]
  refine ⟨by simpa using hk, l.take i, l.drop (i + 1), ?_, ?_⟩
  · have hlt := (List.getElem?_eq_some_iff.1 hx)
    obtain ⟨hlt, he⟩ := hlt
    conv => lhs; rw [← List.take_append_drop i l, List.drop_eq_getElem_cons hlt, he]
  · intro y hy
    obtain ⟨j, hj, rfl⟩ := List.mem_take_iff_getElem.1 hy
    have := ris_mono h (i - (j + 1)) j l[j] x (List.getElem?_eq_getElem _) (by rw [show j + 1 + (i - (j + 1)) = i by omega]; exact hx)
    simp; omega
theorem fnd_no {l : List (List Int)} {i : Nat} {k : Int} (h1 : ∀ j x, j < i → l[j]? = some x → k0 x < k) (h2 : ∀ x, l[i]? = some x → k < k0 x) (h : ris lt1 l = true) : fnd l k = none := by
  unfold fnd
  rw [List.find?_eq_none]
  intro x hx
  obtain ⟨j, hj, rfl⟩ := List.mem_iff_getElem.1 hx
  have hje : l[j]? = some l[j] := List.getElem?_eq_getElem hj
  rcases Nat.lt_trichotomy j i with hji | hji | hji
  · have := h1 j _ hji hje; simp; omega
  · subst hji; have := h2 _ hje; simp; omega
  · obtain ⟨z, hz⟩ : ∃ z, l[i]? = some z := ⟨_, List.getElem?_eq_getElem (by omega)⟩
    have h3 := h2 z hz
    have := ris_mono h (j - (i + 1)) i z l[j] hz (by rw [show i + 1 + (j - (i + 1)) = j by omega]; exact hje)
    simp; omega

/-- Where halving comes to, and whether the key is there. -/
def bsI (l : List (List Int)) (k : Int) : Nat := l.findIdx fun x => decide (k ≤ k0 x)
def bsF (l : List (List Int)) (k : Int) : Bool := match l[bsI l k]? with
  | some x => decide (k0 x = k)
  | none => false
theorem bsI_eq {l : List (List Int)} {k : Int} {i : Nat} (h1 : ∀ j x, j < i → l[j]? = some x → k0 x < k) (h2 : ∀ x, l[i]? = some x → k ≤ k0 x) (hi : i ≤ l.length) : bsI l k = i := by
  unfold bsI
  rcases Nat.lt_or_ge i l.length with h | h
  · rw [List.findIdx_eq h]
    refine ⟨decide_eq_true (h2 _ (List.getElem?_eq_getElem h)), fun j hj => ?_⟩
    have := h1 j _ hj (List.getElem?_eq_getElem (by omega))
    exact decide_eq_false (by omega)
  · have : i = l.length := by omega
    subst this
    apply List.findIdx_eq_length_of_false
    intro x hx
    obtain ⟨j, hj, rfl⟩ := List.mem_iff_getElem.1 hx
    have := h1 j _ hj (List.getElem?_eq_getElem hj)
    exact decide_eq_false (by omega)
theorem bsI_lt {l : List (List Int)} {k : Int} {j : Nat} {x : List Int} (hj : j < bsI l k) (hx : l[j]? = some x) : k0 x < k := by
  have h := List.not_of_lt_findIdx hj
  obtain ⟨hjl, he⟩ := List.getElem?_eq_some_iff.1 hx
  rw [he] at h
  simp at h; omega
theorem bsI_ge {l : List (List Int)} {k : Int} {x : List Int} (hx : l[bsI l k]? = some x) : k ≤ k0 x := by
  obtain ⟨hjl, he⟩ := List.getElem?_eq_some_iff.1 hx
  have h := @List.findIdx_getElem _ (fun x => decide (k ≤ k0 x)) l hjl
  simp at h
  rw [← he]; exact h
theorem fnd_bs {l : List (List Int)} {k : Int} (h : ris lt1 l = true) : fnd l k = if bsF l k then l[bsI l k]? else none := by
  unfold bsF
  cases hx : l[bsI l k]? with
  | none =>
    simp only [Bool.false_eq_true, if_false]
    exact fnd_no (i := bsI l k) (fun j x hj hx => bsI_lt hj hx) (fun x hx' => by rw [hx] at hx'; cases hx') h
  | some x =>
    by_cases hk : k0 x = k
    · simp only [hk, decide_true, if_true]
      exact fnd_at h hx hk
    · simp only [hk, decide_false, Bool.false_eq_true, if_false]
      exact fnd_no (i := bsI l k) (fun j x hj hx => bsI_lt hj hx) (fun x' hx' => by
        rw [hx] at hx'; cases hx'
        have := bsI_ge hx; omega) h

/-- A book. -/
structure Bk where
  H : List (List Int)
  S : List (List Int)
  O : List (List Int)
  R : List (List Int)
  c : Int
/-- Where its lists lie. -/
structure BkA where
  a1 : Option Addr
  a2 : Option Addr
  a3 : Option Addr
  a4 : Option Addr
  c1 : Nat
  c2 : Nat
  c3 : Nat
  c4 : Nat
def bkV (b : Bk) (A : BkA) : List Value := [.slice A.a1 b.H.length A.c1, .slice A.a2 b.S.length A.c2, .slice A.a3 b.O.length A.c3, .slice A.a4 b.R.length A.c4, .int .i64 b.c]
structure BkOk (w : World) (b : Bk) (A : BkA) : Prop where
  h1 : SlOk w A.a1 (b.H.flatMap i64s)
  h2 : SlOk w A.a2 (b.S.flatMap i64s)
  h3 : SlOk w A.a3 (b.O.flatMap i64s)
  h4 : SlOk w A.a4 (b.R.flatMap i64s)
structure BkIn (b : Bk) : Prop where
  r1 : Recs 4 b.H
  r2 : Recs 3 b.S
  r3 : Recs 6 b.O
  r4 : Recs 2 b.R
  l1 : b.H.length ≤ 1048576
  l2 : b.S.length ≤ 1048576
  l3 : b.O.length ≤ 1048576
  l4 : b.R.length ≤ 1048576
  cc : inK .i64 b.c
theorem BkOk.ext {m : List Nat} {w w' : World} {b : Bk} {A : BkA} (h : BkOk w b A) (he : Ext m w w') (hm : m = []) : BkOk w' b A := by
  subst hm
  exact ⟨h.h1.ext he (by simp), h.h2.ext he (by simp), h.h3.ext he (by simp), h.h4.ext he (by simp)⟩

/-- Are the account and the symbol there? -/
def thereB (b : Bk) (acc sym : Int) : Bool := (fnd b.H acc).isSome && (fnd b.R sym).isSome
def nthI (x : List Int) (i : Nat) : Int := (x[i]?).getD 0
def badH (x : List Int) : Bool := decide (nthI x 2 < 0) || decide (nthI x 3 < 0)
def badR (x : List Int) : Bool := decide (nthI x 1 < 1)
def badS (b : Bk) (x : List Int) : Bool := decide (nthI x 2 = 0) || !thereB b (nthI x 0) (nthI x 1)
def badO (b : Bk) (x : List Int) : Bool := decide (nthI x 4 < 1) || (decide (nthI x 5 < 1) || (decide (nthI x 3 < 0) || (decide (1 < nthI x 3) || !thereB b (nthI x 1) (nthI x 2))))
def listsB (b : Bk) : Bool := decide (b.H.length ≤ 32) && (decide (b.O.length ≤ 64) && (decide (b.R.length ≤ 32) && (ris lt1 b.H && (ris lt1 b.O && (ris lt1 b.R && ris lt2 b.S)))))
/-- May a book be? -/
def mayB (b : Bk) : Bool := listsB b && (decide (0 ≤ b.c ∧ b.c ≤ 1099511627776) && (!b.H.any badH && (!b.R.any badR && (!b.S.any (badS b) && !b.O.any (badO b)))))
end Go.Eng

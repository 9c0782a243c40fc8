/-
  Plain laws of layer 12: books.
-/
import Derived.Test.YthmoeebmeifleaaGreatDoorM2
import Derived.Test.YthmoeebmeifleaaGreatDoorM5
import Derived.Test.YthmoeebmeifleaaGreatDoorM7
/-
  Plain laws of layer 12: books.
-/
namespace Go.Eng
open Go

/-- Things of so many 64-bit numbers each. -/
def Recs (sz : Nat) (l : List (List Int)) : Prop := ∀ x, x ∈ l → x.length = sz ∧ ∀ y, y ∈ x → inK .i64 y
theorem flat_rec_len {sz : Nat} : ∀ {l : List (List Int)}, (∀ x, x ∈ l → x.length = sz) → (l.flatMap i64s).length = l.length * sz
  | [], _ => by simp
  | x :: l, h => by
    rw [List.flatMap_cons, List.length_append, i64s_len, h x (by simp), flat_rec_len (fun y hy => h y (by simp [hy])), List.length_cons, Nat.succ_mul, Nat.add_comm]
theorem flat_rec {sz : Nat} : ∀ {l : List (List Int)} {i : Nat} {x : List Int}, (∀ x, x ∈ l → x.length = sz) → l[i]? = some x → ∀ (j : Nat) (u : Value), (i64s x)[j]? = some u → (l.flatMap i64s)[i * sz + j]? = some u
  | [], i, x, _, h, _, _, _ => by simp at h
  | y :: l, 0, x, hl, h, j, u, hu => by
    simp only [List.getElem?_cons_zero, Option.some.injEq] at h; subst h
    rw [List.flatMap_cons, Nat.zero_mul, Nat.zero_add, List.getElem?_append_left]
    · exact hu
    · exact (List.getElem?_eq_some_iff.1 hu).1
  | y :: l, i + 1, x, hl, h, j, u, hu => by
    have hy := hl y (by simp)
    rw [List.flatMap_cons, List.getElem?_append_right (by rw [i64s_len, hy, Nat.succ_mul]; omega), i64s_len, hy, show (i + 1) * sz + j - sz = i * sz + j by rw [Nat.succ_mul]; omega]
    exact flat_rec (fun z hz => hl z (by simp [hz])) (by simpa using h) j u hu
theorem Recs.len {sz : Nat} {l : List (List Int)} (h : Recs sz l) : ∀ x, x ∈ l → x.length = sz := fun x hx => (h x hx).1
/-- What a load of the i-th thing finds. -/
theorem RdW.rec {S : Base} {bx : Bx} {hp : List Seg} {g o off sz i : Nat} {l : List (List Int)} {x : List Int} (hl : ∀ x, x ∈ l → x.length = sz) (hc : ∀ j u, (l.flatMap i64s)[j]? = some u → S.w0.cell? ⟨g, o + j, none⟩ = some u) (hm : g ∉ S.mods)
    (hx : l[i]? = some x) (hoff : off = o + i * sz) : RdW S bx hp g off (i64s x) := RdW.sl hc hm (i * sz) hoff (flat_rec hl hx)
theorem RdW.recRow {S : Base} {bx : Bx} {hp : List Seg} {g t n cap off sz i : Nat} {l : List (List Int)} {x : List Int} (j : Nat) (hl : ∀ x, x ∈ l → x.length = sz) (hj : nth hp j = some (Seg.row (some g) t sz n cap (l.flatMap i64s))) (hx : l[i]? = some x) (hoff : off = i * sz) :
    RdW S bx hp g off (i64s x) := RdW.row hj (fun k u hu => by rw [hoff]; exact flat_rec hl hx k u hu)
theorem len1 {x : List Int} (h : x.length = 1) : ∃ a, x = [a] := by
  match x, h with
  | [a], _ => exact ⟨a, rfl⟩
theorem len2 {x : List Int} (h : x.length = 2) : ∃ a b, x = [a, b] := by
  match x, h with
  | [a, b], _ => exact ⟨a, b, rfl⟩
theorem len3 {x : List Int} (h : x.length = 3) : ∃ a b c, x = [a, b, c] := by
  match x, h with
  | [a, b, c], _ => exact ⟨a, b, c, rfl⟩
theorem len4 {x : List Int} (h : x.length = 4) : ∃ a b c d, x = [a, b, c, d] := by
  match x, h with
  | [a, b, c, d], _ => exact ⟨a, b, c, d, rfl⟩
theorem len6 {x : List Int} (h : x.length = 6) : ∃ a b c d e f, x = [a, b, c, d, e, f] := by
  match x, h with
  | [a, b, c, d, e, f], _ => exact ⟨a, b, c, d, e, f, rfl⟩

/-- Two numbers compared. -/
def cmpI (a b : Int) : Int := if a < b then -1 else if b < a then 1 else 0
theorem cmpI_lt {a b : Int} : cmpI a b < 0 ↔ a < b := by unfold cmpI; split <;> (try split) <;> omega
theorem cmpI_eq {a b : Int} : cmpI a b = 0 ↔ a = b := by unfold cmpI; split <;> (try split) <;> omega
theorem cmpI_in (a b : Int) : -1 ≤ cmpI a b ∧ cmpI a b ≤ 1 := by unfold cmpI; split <;> (try split) <;> omega
/-- A thing's first number, and its second one. -/
def k0 (x : List Int) : Int := x.headD 0
def k1 (x : List Int) : Int := x.tail.headD 0
/-- A thing held against a key. -/
def cmp1 (x : List Int) (k : Int) : Int := cmpI (k0 x) k
def cmp2 (x : List Int) (k l : Int) : Int := if cmpI (k0 x) k = 0 then cmpI (k1 x) l else cmpI (k0 x) k
theorem cmp2_lt {x : List Int} {k l : Int} : cmp2 x k l < 0 ↔ k0 x < k ∨ k0 x = k ∧ k1 x < l := by
  have h1 := @cmpI_lt (k0 x) k
  have h2 := @cmpI_lt (k1 x) l
  have h3 := @cmpI_eq (k0 x) k
  unfold cmp2; split <;> omega

/-- Do they rise, by this order? -/
def ris (lt : List Int → List Int → Bool) : List (List Int) → Bool
  | x :: y :: l => lt x y && ris lt (y :: l)
  | _ => true
def lt1 (x y : List Int) : Bool := decide (k0 x < k0 y)
def lt2 (x y : List Int) : Bool := decide (k0 x < k0 y ∨ k0 x = k0 y ∧ k1 x < k1 y)
theorem ris_iff {lt : List Int → List Int → Bool} : ∀ l : List (List Int), ris lt l = true ↔ ∀ i x y, l[i]? = some x → l[i + 1]? = some y → lt x y = true
  | [] => by simp [ris]
  | [x] => by simp [ris]
  | x :: y :: l => by
    have ih := ris_iff (lt := lt) (y :: l)
    rw [ris, Bool.and_eq_true, ih]
    constructor
    · rintro ⟨h1, h2⟩ i a b ha hb
      cases i with
      | zero => simp at ha hb; subst ha; subst hb; exact h1
      | succ i => exact h2 i a b (by simpa using ha) (by simpa using hb)
    · intro h
      exact ⟨h 0 x y rfl rfl, fun i a b ha hb => h (i + 1) a b (by simpa using ha) (by simpa using hb)⟩
theorem ris_false {lt : List Int → List Int → Bool} {l : List (List Int)} {i : Nat} {x y : List Int} (hx : l[i]? = some x) (hy : l[i + 1]? = some y) (h : lt x y = false) : ris lt l = false := by
  cases hr : ris lt l with
  | false => rfl
  | true => have := (ris_iff l).1 hr i x y hx hy; rw [h] at this; cases this
/-- The keys of things that rise. -/
theorem ris_mono {l : List (List Int)} (h : ris lt1 l = true) : ∀ (d i : Nat) (x y : List Int), l[i]? = some x → l[i + 1 + d]? = some y → k0 x < k0 y
  | 0, i, x, y, hx, hy => by
    have := (ris_iff l).1 h i x y hx hy
    simpa [lt1] using this
  | d + 1, i, x, y, hx, hy => by
    obtain ⟨z, hz⟩ : ∃ z, l[i + 1]? = some z := ⟨_, List.getElem?_eq_getElem (by have := (List.getElem?_eq_some_iff.1 hy).1; omega)⟩
    have h1 := (ris_iff l).1 h i x z hx hz
    have h2 := ris_mono h d (i + 1) z y hz (by rw [← hy]; congr 1; omega)
    simp [lt1] at h1; omega

/-- A thing found by its key. -/
def fnd (l : List (List Int)) (k : Int) : Option (List Int) := l.find? fun x => decide (k0 x = k)
/-- The place that halving finds: all ahead of it are less, none behind it is. -/
theorem fnd_at {l : List (List Int)} {i : Nat} {x : List Int} {k : Int} (h : ris lt1 l = true) (hx : l[i]? = some x) (hk : k0 x = k) : fnd l k = some x := by
  unfold fnd
  rw [List.find?_eq_some_iff_append]
  refine ⟨by simpa using hk, l.take i, l.drop (i + 1), ?_, ?_⟩
  · have hlt := (List.getElem?_eq_some_iff.1 hx)
    obtain ⟨hlt, he⟩ := hlt
    conv => lhs; rw [← List.take_append_drop i l, List.drop_eq_getElem_cons hlt, he]
  · intro y hy
    obtain ⟨j, hj, rfl⟩ := List.mem_take_iff_getElem.1 hy
    have := ris_mono h (i - (j + 1)) j l[j] x (List.getElem?_eq_getElem _) (by rw [show j + 1 + (i - (j + 1)) = i by omega]; exact hx)
    simp; omega
theorem fnd_no {l : List (List Int)} {i : Nat} {k : Int} (h1 : ∀ j x, j < i → l[j]? = some x → k0 x < k) (h2 : ∀ x, l[i]? = some x → k < k0 x) (h : ris lt1 l = true) : fnd l k = none := by
  unfold fnd
  rw [List.find?_eq_none]
  intro x hx
  obtain ⟨j, hj, rfl⟩ := List.mem_iff_getElem.1 hx
  have hje : l[j]? = some l[j] := List.getElem?_eq_getElem hj
  rcases Nat.lt_trichotomy j i with hji | hji | hji
  · have := h1 j _ hji hje; simp; omega
  · subst hji; have := h2 _ hje; simp; omega
  · obtain ⟨z, hz⟩ : ∃ z, l[i]? = some z := ⟨_, List.getElem?_eq_getElem (by omega)⟩
    have h3 := h2 z hz
    have := ris_mono h (j - (i + 1)) i z l[j] hz (by rw [show i + 1 + (j - (i + 1)) = j by omega]; exact hje)
    simp; omega

/-- Where halving comes to, and whether the key is there. -/
def bsI (l : List (List Int)) (k : Int) : Nat := l.findIdx fun x => decide (k ≤ k0 x)
def bsF (l : List (List Int)) (k : Int) : Bool := match l[bsI l k]? with
  | some x => decide (k0 x = k)
  | none => false
theorem bsI_eq {l : List (List Int)} {k : Int} {i : Nat} (h1 : ∀ j x, j < i → l[j]? = some x → k0 x < k) (h2 : ∀ x, l[i]? = some x → k ≤ k0 x) (hi : i ≤ l.length) : bsI l k = i := by
  unfold bsI
  rcases Nat.lt_or_ge i l.length with h | h
  · rw [List.findIdx_eq h]
    refine ⟨decide_eq_true (h2 _ (List.getElem?_eq_getElem h)), fun j hj => ?_⟩
    have := h1 j _ hj (List.getElem?_eq_getElem (by omega))
    exact decide_eq_false (by omega)
  · have : i = l.length := by omega
    subst this
    apply List.findIdx_eq_length_of_false
    intro x hx
    obtain ⟨j, hj, rfl⟩ := List.mem_iff_getElem.1 hx
    have := h1 j _ hj (List.getElem?_eq_getElem hj)
    exact decide_eq_false (by omega)
theorem bsI_lt {l : List (List Int)} {k : Int} {j : Nat} {x : List Int} (hj : j < bsI l k) (hx : l[j]? = some x) : k0 x < k := by
  have h := List.not_of_lt_findIdx hj
  obtain ⟨hjl, he⟩ := List.getElem?_eq_some_iff.1 hx
  rw [he] at h
  simp at h; omega
theorem bsI_ge {l : List (List Int)} {k : Int} {x : List Int} (hx : l[bsI l k]? = some x) : k ≤ k0 x := by
  obtain ⟨hjl, he⟩ := List.getElem?_eq_some_iff.1 hx
  have h := @List.findIdx_getElem _ (fun x => decide (k ≤ k0 x)) l hjl
  simp at h
  rw [← he]; exact h
theorem fnd_bs {l : List (List Int)} {k : Int} (h : ris lt1 l = true) : fnd l k = if bsF l k then l[bsI l k]? else none := by
  unfold bsF
  cases hx : l[bsI l k]? with
  | none =>
    simp only [Bool.false_eq_true, if_false]
    exact fnd_no (i := bsI l k) (fun j x hj hx => bsI_lt hj hx) (fun x hx' => by rw [hx] at hx'; cases hx') h
  | some x =>
    by_cases hk : k0 x = k
    · simp only [hk, decide_true, if_true]
      exact fnd_at h hx hk
    · simp only [hk, decide_false, Bool.false_eq_true, if_false]
      exact fnd_no (i := bsI l k) (fun j x hj hx => bsI_lt hj hx) (fun x' hx' => by
        rw [hx] at hx'; cases hx'
        have := bsI_ge hx; omega) h

/-- A book. -/
structure Bk where
  H : List (List Int)
  S : List (List Int)
  O : List (List Int)
  R : List (List Int)
  c : Int
/-- Where its lists lie. -/
structure BkA where
  a1 : Option Addr
  a2 : Option Addr
  a3 : Option Addr
  a4 : Option Addr
  c1 : Nat
  c2 : Nat
  c3 : Nat
  c4 : Nat
def bkV (b : Bk) (A : BkA) : List Value := [.slice A.a1 b.H.length A.c1, .slice A.a2 b.S.length A.c2, .slice A.a3 b.O.length A.c3, .slice A.a4 b.R.length A.c4, .int .i64 b.c]
structure BkOk (w : World) (b : Bk) (A : BkA) : Prop where
  h1 : SlOk w A.a1 (b.H.flatMap i64s)
  h2 : SlOk w A.a2 (b.S.flatMap i64s)
  h3 : SlOk w A.a3 (b.O.flatMap i64s)
  h4 : SlOk w A.a4 (b.R.flatMap i64s)
structure BkIn (b : Bk) : Prop where
  r1 : Recs 4 b.H
  r2 : Recs 3 b.S
  r3 : Recs 6 b.O
  r4 : Recs 2 b.R
  l1 : b.H.length ≤ 1048576
  l2 : b.S.length ≤ 1048576
  l3 : b.O.length ≤ 1048576
  l4 : b.R.length ≤ 1048576
  cc : inK .i64 b.c
theorem BkOk.ext {m : List Nat} {w w' : World} {b : Bk} {A : BkA} (h : BkOk w b A) (he : Ext m w w') (hm : m = []) : BkOk w' b A := by
  subst hm
  exact ⟨h.h1.ext he (by simp), h.h2.ext he (by simp), h.h3.ext he (by simp), h.h4.ext he (by simp)⟩

/-- Are the account and the symbol there? -/
def thereB (b : Bk) (acc sym : Int) : Bool := (fnd b.H acc).isSome && (fnd b.R sym).isSome
def nthI (x : List Int) (i : Nat) : Int := (x[i]?).getD 0
def badH (x : List Int) : Bool := decide (nthI x 2 < 0) || decide (nthI x 3 < 0)
def badR (x : List Int) : Bool := decide (nthI x 1 < 1)
def badS (b : Bk) (x : List Int) : Bool := decide (nthI x 2 = 0) || !thereB b (nthI x 0) (nthI x 1)
def badO (b : Bk) (x : List Int) : Bool := decide (nthI x 4 < 1) || (decide (nthI x 5 < 1) || (decide (nthI x 3 < 0) || (decide (1 < nthI x 3) || !thereB b (nthI x 1) (nthI x 2))))
def listsB (b : Bk) : Bool := decide (b.H.length ≤ 32) && (decide (b.O.length ≤ 64) && (decide (b.R.length ≤ 32) && (ris lt1 b.H && (ris lt1 b.O && (ris lt1 b.R && ris lt2 b.S)))))
/-- May a book be? -/
def mayB (b : Bk) : Bool := listsB b && (decide (0 ≤ b.c ∧ b.c ≤ 1099511627776) && (!b.H.any badH && (!b.R.any badR && (!b.S.any (badS b) && !b.O.any (badO b)))))
end Go.Eng

/-
  Plain laws of layer 13: books as bytes.
-/
namespace Go.Eng
open Go

/-- A column of a list of things. -/
def colOf (l : List (List Int)) (i : Nat) : List Int := l.map fun x => nthI x i
/-- A list's bytes, column by column. -/
def putB (sz : Nat) (l : List (List Int)) : List UInt8 := (List.range sz).flatMap fun i => colL (colOf l i)
/-- A book's bytes. -/
def bookB (b : Bk) : List UInt8 := numL b.c.toNat ++ (putB 4 b.H ++ (putB 3 b.S ++ (putB 6 b.O ++ putB 2 b.R)))
theorem colOf_len (l : List (List Int)) (i : Nat) : (colOf l i).length = l.length := by simp [colOf]
theorem nthI_in {x : List Int} (h : ∀ y, y ∈ x → inK .i64 y) (i : Nat) : inK .i64 (nthI x i) := by
  unfold nthI
  cases hx : x[i]? with
  | none => simp only [Option.getD_none, inK]; omega
  | some y => exact h y (List.mem_of_getElem? hx)
theorem colOf_in {sz : Nat} {l : List (List Int)} (h : Recs sz l) (i : Nat) : ∀ y, y ∈ colOf l i → inK .i64 y := by
  intro y hy
  simp only [colOf, List.mem_map] at hy
  obtain ⟨x, hx, rfl⟩ := hy
  exact nthI_in (h x hx).2 i
theorem colL_len (xs : List Int) (_h : ∀ x, x ∈ xs → inK .i64 x) (hl : xs.length < 18446744073709551616) : (colL xs).length ≤ 10 + 20 * xs.length := by
  have l3 := numL_len10 _ hl
  have hrl := rle_len (diffs 0 xs)
  rw [diffs_len] at hrl
  have l4 := runs_len (rle (diffs 0 xs)) (fun x hx => by
    have := rle_mem _ x hx
    rw [diffs_len] at this
    exact runB_len (diffs_in _ _ _ this.1) (by omega))
  simp only [colL, List.length_append]; omega
theorem putB_succ (sz : Nat) (l : List (List Int)) : putB (sz + 1) l = putB sz l ++ colL (colOf l sz) := by
  unfold putB
  rw [List.range_succ, List.flatMap_append]; simp
theorem putB_len {sz0 : Nat} {l : List (List Int)} (h : Recs sz0 l) (hl : l.length ≤ 65536) : ∀ sz, (putB sz l).length ≤ sz * (10 + 20 * l.length)
  | 0 => by simp [putB]
  | sz + 1 => by
    have ih := putB_len h hl sz
    have h2 := colL_len (colOf l sz) (colOf_in h sz) (by rw [colOf_len]; omega)
    rw [colOf_len] at h2
    rw [putB_succ, List.length_append, Nat.succ_mul]; omega
end Go.Eng

/-
  Plain laws of layer 13: books read again.
-/
namespace Go.Eng
open Go

/-- So many columns read: they, the rest, the fault. -/
def getCols (most : Nat) : Nat → List UInt8 → List (List Int) × List UInt8 × Int
  | 0, s => ([], s, 0)
  | n + 1, s => if (colG s most).2.2 ≠ 0 then ([], s, (colG s most).2.2) else ((colG s most).1 :: (getCols most n (s.drop (colG s most).2.1)).1, (getCols most n (s.drop (colG s most).2.1)).2)
/-- Have all as many numbers as the first one? -/
def evenB : List (List Int) → Bool
  | [] => true
  | c :: cs => cs.all fun d => decide (d.length = c.length)
def firstN : List (List Int) → Nat
  | [] => 0
  | c :: _ => c.length
/-- Columns as things. -/
def rowAt (sz : Nat) (cs : List (List Int)) (k : Nat) : List Int := (List.range sz).map fun j => nthI ((cs[j]?).getD []) k
def rowsT (sz n : Nat) (cs : List (List Int)) : List (List Int) := (List.range n).map (rowAt sz cs)
def listT (sz : Nat) (cs : List (List Int)) : List (List Int) := rowsT sz (firstN cs) cs

theorem rowAt_len (sz : Nat) (cs : List (List Int)) (k : Nat) : (rowAt sz cs k).length = sz := by simp [rowAt]
theorem rowsT_len (sz n : Nat) (cs : List (List Int)) : (rowsT sz n cs).length = n := by simp [rowsT]
theorem rowsT_recs {sz n : Nat} {cs : List (List Int)} (h : ∀ c, c ∈ cs → ∀ x, x ∈ c → inK .i64 x) : Recs sz (rowsT sz n cs) := by
  intro x hx
  simp only [rowsT, List.mem_map, List.mem_range] at hx
  obtain ⟨k, _, rfl⟩ := hx
  refine ⟨rowAt_len _ _ _, fun y hy => ?_⟩
  simp only [rowAt, List.mem_map, List.mem_range] at hy
  obtain ⟨j, _, rfl⟩ := hy
  apply nthI_in
  intro z hz
  cases hc : cs[j]? with
  | none => rw [hc] at hz; simp at hz
  | some c => rw [hc] at hz; exact h c (List.mem_of_getElem? hc) z hz
theorem map_nthI (c : List Int) : (List.range c.length).map (fun k => nthI c k) = c := by
  apply List.ext_getElem?
  intro k
  by_cases hk : k < c.length
  · simp [nthI, hk]
  · simp [hk]
theorem colOf_rowsT {sz n j : Nat} {cs : List (List Int)} {c : List Int} (hj : j < sz) (hc : cs[j]? = some c) (hn : c.length = n) : colOf (rowsT sz n cs) j = c := by
  unfold colOf rowsT
  rw [List.map_map]
  have : ((fun x => nthI x j) ∘ rowAt sz cs) = fun k => nthI c k := by
    funext k
    simp [rowAt, nthI, hj, hc]
  rw [this, ← hn]; exact map_nthI c
theorem rowsT_colOf {sz : Nat} {l : List (List Int)} (h : ∀ x, x ∈ l → x.length = sz) : rowsT sz l.length ((List.range sz).map (colOf l)) = l := by
  apply List.ext_getElem?
  intro k
  by_cases hk : k < l.length
  · have hx : l[k]? = some l[k] := List.getElem?_eq_getElem hk
    have hl := h l[k] (List.mem_of_getElem? hx)
    rw [hx]
    simp only [rowsT, List.getElem?_map, List.getElem?_range hk, Option.map_some, Option.some.injEq]
    unfold rowAt
    rw [← hl]
    conv => rhs; rw [← map_nthI l[k]]
    apply List.map_congr_left
    intro j hj
    have hj := List.mem_range.1 hj
    simp [colOf, nthI, hk, hl ▸ hj, hl]
  · rw [List.getElem?_eq_none (by rw [rowsT_len]; omega), List.getElem?_eq_none (by omega)]

theorem colLoop_in (l : List UInt8) : ∀ (fuel a lack : Nat) (was : Option Int) (last : Int) (out : List Int), (∀ x, x ∈ out → inK .i64 x) → ∀ x, x ∈ (colLoop l fuel a lack was last out).1 → inK .i64 x
  | 0, a, lack, was, last, out, h, x, hx => h x hx
  | fuel + 1, a, lack, was, last, out, h, x, hx => by
    rw [colLoop] at hx
    split at hx
    · exact h x hx
    · split at hx
      · simp at hx
      · split at hx
        · simp at hx
        · refine colLoop_in l fuel _ _ _ _ _ (fun y hy => ?_) x hx
          rcases List.mem_append.1 hy with hy | hy
          · exact h y hy
          · exact stepsL_in _ _ _ _ hy
theorem colG_in (l : List UInt8) (most : Nat) : ∀ x, x ∈ (colG l most).1 → inK .i64 x := by
  intro x hx
  unfold colG at hx
  split at hx
  · simp at hx
  · exact colLoop_in l _ _ _ _ _ _ (by simp) x hx

/-- What columns were read are its bytes. -/
theorem getCols_get {most : Nat} : ∀ {n : Nat} {s : List UInt8} {cs : List (List Int)} {r : List UInt8}, getCols most n s = (cs, r, 0) →
    s = cs.flatMap colL ++ r ∧ cs.length = n ∧ (∀ c, c ∈ cs → c.length ≤ most) ∧ ∀ c, c ∈ cs → ∀ x, x ∈ c → inK .i64 x
  | 0, s, cs, r, h => by
    simp only [getCols, Prod.mk.injEq, and_true] at h
    obtain ⟨rfl, rfl⟩ := h
    simp
  | n + 1, s, cs, r, h => by
    rw [getCols] at h
    split at h
    · rename_i he
      simp only [Prod.mk.injEq] at h; exact (he h.2.2).elim
    · rename_i he
      have he : (colG s most).2.2 = 0 := by simpa using he
      have hin := colG_in s most
      obtain ⟨xs, k, e, hG⟩ : ∃ xs k e, colG s most = (xs, k, e) := ⟨_, _, _, rfl⟩
      simp only [hG] at h he hin
      subst he
      obtain ⟨h1, h2, h3⟩ := colG_get hG
      obtain ⟨cs', r', e', hR⟩ : ∃ a b c, getCols most n (s.drop k) = (a, b, c) := ⟨_, _, _, rfl⟩
      rw [hR] at h
      simp only [Prod.mk.injEq] at h
      obtain ⟨rfl, rfl, rfl⟩ := h
      obtain ⟨g1, g2, g3, g4⟩ := getCols_get hR
      refine ⟨?_, by simp [g2], fun c hc => ?_, fun c hc => ?_⟩
      · rw [List.flatMap_cons, List.append_assoc, ← g1, ← h1, List.take_append_drop]
      · rcases List.mem_cons.1 hc with rfl | hc
        · exact h3
        · exact g3 c hc
      · rcases List.mem_cons.1 hc with rfl | hc
        · exact hin
        · exact g4 c hc
/-- Columns that were put are read. -/
theorem getCols_put {most : Nat} (rest : List UInt8) : ∀ (cs : List (List Int)), (∀ c, c ∈ cs → c.length ≤ most ∧ ∀ x, x ∈ c → inK .i64 x) → most < 18446744073709551616 → getCols most cs.length (cs.flatMap colL ++ rest) = (cs, rest, 0)
  | [], _, _ => rfl
  | c :: cs, h, hm => by
    have hc := h c (by simp)
    have e := colG_put hc.2 (cs.flatMap colL ++ rest) hc.1 (by omega)
    rw [List.length_cons, getCols, List.flatMap_cons, List.append_assoc, e]
    simp only [ne_eq, not_true_eq_false, if_false, List.drop_left]
    rw [getCols_put rest cs (fun d hd => h d (by simp [hd])) hm]
theorem putB_cols (sz : Nat) (l : List (List Int)) : putB sz l = ((List.range sz).map (colOf l)).flatMap colL := by
  unfold putB; rw [List.flatMap_map]
theorem getCols_putB {sz most : Nat} {l : List (List Int)} (hr : Recs sz l) (hl : l.length ≤ most) (hm : most < 18446744073709551616) (rest : List UInt8) : getCols most sz (putB sz l ++ rest) = ((List.range sz).map (colOf l), rest, 0) := by
  have := getCols_put (most := most) rest ((List.range sz).map (colOf l)) (fun c hc => by
    simp only [List.mem_map] at hc
    obtain ⟨i, _, rfl⟩ := hc
    exact ⟨by rw [colOf_len]; exact hl, colOf_in hr i⟩) hm
  rw [putB_cols]; simpa using this
theorem cols_even {sz : Nat} (l : List (List Int)) : evenB ((List.range sz).map (colOf l)) = true := by
  cases sz with
  | zero => rfl
  | succ n =>
    rw [List.range_succ_eq_map]
    simp only [List.map_cons, evenB, List.all_eq_true, decide_eq_true_eq]
    intro d hd
    simp only [List.map_map, List.mem_map] at hd
    obtain ⟨i, _, rfl⟩ := hd
    simp [colOf_len]
theorem listT_cols {sz : Nat} {l : List (List Int)} (hsz : 0 < sz) (hr : Recs sz l) : listT sz ((List.range sz).map (colOf l)) = l := by
  unfold listT
  have : firstN ((List.range sz).map (colOf l)) = l.length := by
    cases sz with
    | zero => omega
    | succ n => rw [List.range_succ_eq_map]; simp [firstN, colOf_len]
  rw [this]; exact rowsT_colOf hr.len
theorem even_get {cs : List (List Int)} (h : evenB cs = true) : ∀ c, c ∈ cs → c.length = firstN cs := by
  intro c hc
  cases cs with
  | nil => simp at hc
  | cons d ds =>
    rcases List.mem_cons.1 hc with rfl | hc
    · rfl
    · have := List.all_eq_true.1 h c hc
      exact of_decide_eq_true this
theorem putB_listT {sz : Nat} {cs : List (List Int)} (hl : cs.length = sz) (he : evenB cs = true) : putB sz (listT sz cs) = cs.flatMap colL := by
  rw [putB_cols]
  congr 1
  apply List.ext_getElem?
  intro j
  by_cases hj : j < sz
  · have hc : cs[j]? = some cs[j] := List.getElem?_eq_getElem (by omega)
    rw [hc]
    simp only [List.getElem?_map, List.getElem?_range hj, Option.map_some, Option.some.injEq]
    exact colOf_rowsT hj hc (even_get he _ (List.mem_of_getElem? hc))
  · rw [List.getElem?_eq_none (by simp; omega), List.getElem?_eq_none (by omega)]

def zeroBk : Bk := ⟨[], [], [], [], 0⟩
/-- A book read. -/
def getBk (s : List UInt8) : Bk × Int :=
  if (rdN s 0 0 1099511627776).2.2 ≠ 0 then (zeroBk, (rdN s 0 0 1099511627776).2.2) else
  let r1 := getCols 32 4 (s.drop (rdN s 0 0 1099511627776).2.1)
  if r1.2.2 ≠ 0 then (zeroBk, r1.2.2) else
  let r2 := getCols 1024 3 r1.2.1
  if r2.2.2 ≠ 0 then (zeroBk, r2.2.2) else
  let r3 := getCols 64 6 r2.2.1
  if r3.2.2 ≠ 0 then (zeroBk, r3.2.2) else
  let r4 := getCols 32 2 r3.2.1
  if r4.2.2 ≠ 0 then (zeroBk, r4.2.2) else
  let b : Bk := ⟨listT 4 r1.1, listT 3 r2.1, listT 6 r3.1, listT 2 r4.1, (rdN s 0 0 1099511627776).1⟩
  if r4.2.1 = [] ∧ evenB r1.1 = true ∧ evenB r2.1 = true ∧ evenB r3.1 = true ∧ evenB r4.1 = true ∧ mayB b = true then (b, 0) else (zeroBk, 3)

theorem firstN_le {cs : List (List Int)} {most : Nat} (h : ∀ c, c ∈ cs → c.length ≤ most) : firstN cs ≤ most := by
  cases cs with
  | nil => simp [firstN]
  | cons c cs => exact h c (by simp)

/-- What is read is the book's bytes. -/
theorem getBk_get {s : List UInt8} {b : Bk} (h : getBk s = (b, 0)) : s = bookB b ∧ mayB b = true ∧ BkIn b ∧ b.S.length ≤ 1024 := by
  unfold getBk at h
  split at h
  · rename_i h1; simp only [Prod.mk.injEq] at h; exact (h1 h.2).elim
  · rename_i h1
    have h1 : (rdN s 0 0 1099511627776).2.2 = 0 := by simpa using h1
    have g0 := rdN_get h1
    have g1 := rdN_lt s 0 0 1099511627776
    obtain ⟨n, a, f, hN⟩ : ∃ n a f, rdN s 0 0 1099511627776 = (n, a, f) := ⟨_, _, _, rfl⟩
    simp only [hN, List.take_zero, List.nil_append, Nat.zero_add] at h g0 g1
    obtain ⟨c1, r1, e1, hR1⟩ : ∃ x y z, getCols 32 4 (s.drop a) = (x, y, z) := ⟨_, _, _, rfl⟩
    simp only [hR1] at h
    split at h
    · rename_i h2; simp only [Prod.mk.injEq] at h; exact (h2 h.2).elim
    rename_i h2
    have h2 : e1 = 0 := by simpa using h2
    subst h2
    obtain ⟨c2, r2, e2, hR2⟩ : ∃ x y z, getCols 1024 3 r1 = (x, y, z) := ⟨_, _, _, rfl⟩
    simp only [hR2] at h
    split at h
    · rename_i h2; simp only [Prod.mk.injEq] at h; exact (h2 h.2).elim
    rename_i h2
    have h2 : e2 = 0 := by simpa using h2
    subst h2
    obtain ⟨c3, r3, e3, hR3⟩ : ∃ x y z, getCols 64 6 r2 = (x, y, z) := ⟨_, _, _, rfl⟩
    simp only [hR3] at h
    split at h
    · rename_i h2; simp only [Prod.mk.injEq] at h; exact (h2 h.2).elim
    rename_i h2
    have h2 : e3 = 0 := by simpa using h2
    subst h2
    obtain ⟨c4, r4, e4, hR4⟩ : ∃ x y z, getCols 32 2 r3 = (x, y, z) := ⟨_, _, _, rfl⟩
    simp only [hR4] at h
    split at h
    · rename_i h2; simp only [Prod.mk.injEq] at h; exact (h2 h.2).elim
    rename_i h2
    have h2 : e4 = 0 := by simpa using h2
    subst h2
    split at h
    · rename_i hc
      obtain ⟨hr, v1, v2, v3, v4, hm⟩ := hc
      simp only [Prod.mk.injEq, and_true] at h
      subst h
      subst hr
      obtain ⟨t1, l1, m1, i1⟩ := getCols_get hR1
      obtain ⟨t2, l2, m2, i2⟩ := getCols_get hR2
      obtain ⟨t3, l3, m3, i3⟩ := getCols_get hR3
      obtain ⟨t4, l4, m4, i4⟩ := getCols_get hR4
      have f1 := firstN_le m1
      have f2 := firstN_le m2
      have f3 := firstN_le m3
      have f4 := firstN_le m4
      refine ⟨?_, hm, ⟨rowsT_recs i1, rowsT_recs i2, rowsT_recs i3, rowsT_recs i4, ?_, ?_, ?_, ?_, ?_⟩, ?_⟩
      · unfold bookB
        simp only [Int.toNat_natCast]
        rw [putB_listT l1 v1, putB_listT l2 v2, putB_listT l3 v3, putB_listT l4 v4]
        rw [List.append_nil] at t4
        rw [← t4, ← t3, ← t2, ← t1, ← g0.1, List.take_append_drop]
      all_goals first | (simp only [listT, rowsT_len]; omega) | (simp only [inK]; omega)
    · simp only [Prod.mk.injEq] at h; omega

theorem may_lens {b : Bk} (h : mayB b = true) : b.H.length ≤ 32 ∧ b.O.length ≤ 64 ∧ b.R.length ≤ 32 ∧ 0 ≤ b.c ∧ b.c ≤ 1099511627776 := by
  simp only [mayB, listsB, Bool.and_eq_true, decide_eq_true_eq] at h
  exact ⟨h.1.1, h.1.2.1, h.1.2.2.1, h.2.1.1, h.2.1.2⟩

/-- A book that was put is read again, alone. -/
theorem getBk_put {b : Bk} (hm : mayB b = true) (hi : BkIn b) (hS : b.S.length ≤ 1024) (more : List UInt8) : getBk (bookB b ++ more) = if more = [] then (b, 0) else (zeroBk, 3) := by
  obtain ⟨l1, l3, l4, hc0, hc1⟩ := may_lens hm
  obtain ⟨n, hn⟩ : ∃ n : Nat, b.c = n := ⟨b.c.toNat, by omega⟩
  have e0 : (bookB b ++ more).drop 0 = numL n ++ (putB 4 b.H ++ (putB 3 b.S ++ (putB 6 b.O ++ (putB 2 b.R ++ more)))) := by
    simp [bookB, hn]
  have h0 := rdN_put (most := 1099511627776) (by omega : n < 18446744073709551616) (by omega) e0
  have d0 := drop_app e0
  rw [Nat.zero_add] at d0
  unfold getBk
  simp only [h0, Nat.zero_add, d0]
  rw [if_neg (by simp), getCols_putB hi.r1 l1 (by decide) _]
  simp only
  rw [if_neg (by simp), getCols_putB hi.r2 hS (by decide) _]
  simp only
  rw [if_neg (by simp), getCols_putB hi.r3 l3 (by decide) _]
  simp only
  rw [if_neg (by simp), getCols_putB hi.r4 l4 (by decide) _]
  simp only
  rw [if_neg (by simp)]
  have hb : (⟨listT 4 ((List.range 4).map (colOf b.H)), listT 3 ((List.range 3).map (colOf b.S)), listT 6 ((List.range 6).map (colOf b.O)), listT 2 ((List.range 2).map (colOf b.R)), (n : Int)⟩ : Bk) = b := by
    rw [listT_cols (by decide) hi.r1, listT_cols (by decide) hi.r2, listT_cols (by decide) hi.r3, listT_cols (by decide) hi.r4, ← hn]
  rw [hb]
  by_cases hmore : more = []
  · rw [if_pos ⟨hmore, cols_even _, cols_even _, cols_even _, cols_even _, hm⟩, if_pos hmore]
  · rw [if_neg (fun h => hmore h.1), if_neg hmore]
end Go.Eng

/-
  Plain laws of books laid out as rows: keys and values.
-/
namespace Go.Eng
open Go

abbrev K3T := Int × Int × Int
abbrev RowB := K3T × List Int
def r1 (l : Int) (x : List Int) : RowB := ((l, k0 x, 0), x.drop 1)
def r2 (x : List Int) : RowB := ((2, k0 x, k1 x), x.drop 2)
/-- A book's rows, in order. -/
def rowsB (b : Bk) : List RowB := b.H.map (r1 1) ++ (b.S.map r2 ++ (b.O.map (r1 3) ++ (b.R.map (r1 4) ++ [((5, 0, 0), [b.c])])))
theorem pfx_take {α β : Type} (A : List β) (L : List α) (r : α → β) (i : Nat) (rest : List β) : (A ++ (L.take i).map r) <+: (A ++ (L.map r ++ rest)) :=
  ⟨(L.drop i).map r ++ rest, by rw [List.append_assoc, ← List.append_assoc ((L.take i).map r), ← List.map_append, List.take_append_drop]⟩
end Go.Eng

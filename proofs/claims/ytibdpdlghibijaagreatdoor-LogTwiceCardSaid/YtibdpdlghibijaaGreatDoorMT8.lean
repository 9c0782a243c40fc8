/-
  Plain laws of layer 12: books.
-/
import Derived.Test.YtibdpdlghibijaaGreatDoorMT2
import Derived.Test.YtibdpdlghibijaaGreatDoorMT5
import Derived.Test.YtibdpdlghibijaaGreatDoorMT7
/-
  Plain laws of layer 12: books.
-/
namespace Go.Eng
open Go

/-- Things of so many 64-bit numbers each. -/
def Recs (sz : Nat) (l : List (List Int)) : Prop := ∀ x, x ∈ l → x.length = sz ∧ ∀ y, y ∈ x → inK .i64 y
theorem Recs.len {sz : Nat} {l : List (List Int)} (h : Recs sz l) : ∀ x, x ∈ l → x.length = sz := fun x hx => (h x hx).1
def k1 (x : List Int) : Int := x.tail.headD 0
/-- Do they rise, by this order? -/
def ris (lt : List Int → List Int → Bool) : List (List Int) → Bool
  | x :: y :: l => lt x y && ris lt (y :: l)
  | _ => true
/-- A book. -/
structure Bk where
  H : List (List Int)
  S : List (List Int)
  O : List (List Int)
  R : List (List Int)
  c : Int
/-- Where its lists lie. -/
structure BkA where
  a1 : Option Addr
  a2 : Option Addr
  a3 : Option Addr
  a4 : Option Addr
  c1 : Nat
  c2 : Nat
  c3 : Nat
  c4 : Nat
structure BkOk (w : World) (b : Bk) (A : BkA) : Prop where
  h1 : SlOk w A.a1 (b.H.flatMap i64s)
  h2 : SlOk w A.a2 (b.S.flatMap i64s)
  h3 : SlOk w A.a3 (b.O.flatMap i64s)
  h4 : SlOk w A.a4 (b.R.flatMap i64s)
structure BkIn (b : Bk) : Prop where
  r1 : Recs 4 b.H
  r2 : Recs 3 b.S
  r3 : Recs 6 b.O
  r4 : Recs 2 b.R
  l1 : b.H.length ≤ 1048576
  l2 : b.S.length ≤ 1048576
  l3 : b.O.length ≤ 1048576
  l4 : b.R.length ≤ 1048576
  cc : inK .i64 b.c
theorem BkOk.ext {m : List Nat} {w w' : World} {b : Bk} {A : BkA} (h : BkOk w b A) (he : Ext m w w') (hm : m = []) : BkOk w' b A := by
  subst hm
  exact ⟨h.h1.ext he (by simp), h.h2.ext he (by simp), h.h3.ext he (by simp), h.h4.ext he (by simp)⟩

end Go.Eng

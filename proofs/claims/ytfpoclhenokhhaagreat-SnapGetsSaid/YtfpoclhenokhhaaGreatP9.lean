/-
  Plain laws of layer 13: columns set into things.
-/
import Derived.Test.YtfpoclhenokhhaaGreatP8
import Derived.Test.YtfpoclhenokhhaaGreatE17
namespace Go.Eng
open Go

theorem rowsT_snoc (sz n : Nat) (cs : List (List Int)) : rowsT sz (n + 1) cs = rowsT sz n cs ++ [rowAt sz cs n] := by simp [rowsT, List.range_succ]
theorem flat_rows_len (sz n : Nat) (cs : List (List Int)) : ((rowsT sz n cs).flatMap i64s).length = n * sz := by
  induction n with
  | zero => simp [rowsT]
  | succ n ih => rw [rowsT_snoc, List.flatMap_append, List.length_append, ih]; simp [i64s, rowAt_len, Nat.succ_mul]
theorem flat_rows_get (sz : Nat) (cs : List (List Int)) : ∀ (n k f : Nat), k < n → f < sz → ((rowsT sz n cs).flatMap i64s)[k * sz + f]? = some (.int .i64 (nthI ((cs[f]?).getD []) k))
  | 0, k, f, hk, _ => by omega
  | n + 1, k, f, hk, hf => by
    rw [rowsT_snoc, List.flatMap_append]
    by_cases hkn : k < n
    · have : k * sz + f < n * sz := by
        have : (k + 1) * sz ≤ n * sz := Nat.mul_le_mul_right _ (by omega)
        rw [Nat.succ_mul] at this; omega
      rw [List.getElem?_append_left (by rw [flat_rows_len]; exact this)]
      exact flat_rows_get sz cs n k f hkn hf
    · have : k = n := by omega
      subst this
      rw [List.getElem?_append_right (by rw [flat_rows_len]; omega), flat_rows_len, Nat.add_sub_cancel_left]
      simp [i64s, rowAt, hf]
theorem putL_one {α : Type} (l : List α) (i : Nat) (y : α) : putL l i [y] = l.set i y := by simp [putL, setL_eq]
theorem putL_one_len {α : Type} (l : List α) (i : Nat) (y : α) : (putL l i [y]).length = l.length := by simp [putL_one]

theorem snoc_get {α : Type} (cs : List α) (c : α) (f : Nat) : (cs ++ [c])[f]? = if f = cs.length then some c else cs[f]? := by
  by_cases h : f = cs.length
  · subst h; simp
  · rw [if_neg h]
    by_cases h2 : f < cs.length
    · exact List.getElem?_append_left h2
    · rw [List.getElem?_append_right (by omega), List.getElem?_eq_none (by simp; omega), List.getElem?_eq_none (by omega)]

/-- One number more of a column set. -/
theorem rowsT_set {sz n j : Nat} {cs : List (List Int)} {c : List Int} {x : Int} (hi : cs.length < sz) (hj : j < n) (hx : c[j]? = some x) :
    putL ((rowsT sz n (cs ++ [c.take j])).flatMap i64s) (j * sz + cs.length) [.int .i64 x] = (rowsT sz n (cs ++ [c.take (j + 1)])).flatMap i64s := by
  rw [putL_one]
  apply List.ext_getElem?
  intro m
  by_cases hm : m < n * sz
  · have hsz : 0 < sz := by omega
    have hk : m / sz < n := Nat.div_lt_of_lt_mul (by rw [Nat.mul_comm]; exact hm)
    have hf : m % sz < sz := Nat.mod_lt _ hsz
    have hmd : m / sz * sz + m % sz = m := by rw [Nat.mul_comm]; exact Nat.div_add_mod m sz
    have h1 := flat_rows_get sz (cs ++ [c.take j]) n (m / sz) (m % sz) hk hf
    have h2 := flat_rows_get sz (cs ++ [c.take (j + 1)]) n (m / sz) (m % sz) hk hf
    rw [hmd] at h1 h2
    rw [h2, List.getElem?_set]
    have hjl : j < c.length := (List.getElem?_eq_some_iff.1 hx).1
    by_cases he : j * sz + cs.length = m
    · rw [if_pos he, if_pos (by rw [flat_rows_len]; omega)]
      have hf' : m % sz = cs.length := by rw [← he, Nat.mul_comm, Nat.mul_add_mod]; exact Nat.mod_eq_of_lt hi
      have hk' : m / sz = j := by rw [← he, Nat.mul_comm, Nat.mul_add_div hsz, Nat.div_eq_of_lt hi, Nat.add_zero]
      rw [hf', hk', snoc_get, if_pos rfl]
      simp [nthI, hx]
    · rw [if_neg he, h1, snoc_get, snoc_get]
      by_cases hf' : m % sz = cs.length
      · have hk' : m / sz ≠ j := fun h => he (by rw [← hmd, h, hf'])
        rw [if_pos hf', if_pos hf']
        simp only [Option.getD_some, nthI, List.getElem?_take, Option.some.injEq, Value.int.injEq, true_and]
        by_cases hlt : m / sz < j
        · rw [if_pos hlt, if_pos (by omega)]
        · rw [if_neg hlt, if_neg (by omega)]
      · rw [if_neg hf', if_neg hf']
  · rw [List.getElem?_eq_none (by rw [List.length_set, flat_rows_len]; omega), List.getElem?_eq_none (by rw [flat_rows_len]; omega)]
theorem rowsT_nil_snoc (sz n : Nat) (cs : List (List Int)) : rowsT sz n (cs ++ [[]]) = rowsT sz n cs := by
  unfold rowsT
  apply List.map_congr_left
  intro k _
  unfold rowAt
  apply List.map_congr_left
  intro f _
  rw [snoc_get]
  split
  · rename_i h; subst h; simp [nthI]
  · rfl
theorem rowsT_zero (sz n : Nat) : (rowsT sz n []).flatMap i64s = List.replicate (n * sz) (.int .i64 0) := by
  have h : rowsT sz n [] = List.replicate n (List.replicate sz 0) := by
    unfold rowsT
    rw [List.eq_replicate_iff]
    refine ⟨by simp, fun b hb => ?_⟩
    simp only [List.mem_map] at hb
    obtain ⟨k, _, rfl⟩ := hb
    rw [List.eq_replicate_iff]
    refine ⟨by simp [rowAt], fun b hb => ?_⟩
    simp only [rowAt, List.mem_map] at hb
    obtain ⟨f, _, rfl⟩ := hb
    simp [nthI]
  rw [h]
  induction n with
  | zero => simp
  | succ n ih =>
    have ih := ih (by rw [rowsT_snoc] at h; rw [List.replicate_succ'] at h; exact (List.append_inj' h rfl).1)
    rw [List.replicate_succ', List.flatMap_append, ih, Nat.succ_mul, ← List.replicate_append_replicate]
    simp [i64s]

theorem even_snoc (cs : List (List Int)) (c : List Int) : evenB (cs ++ [c]) = (evenB cs && (cs.isEmpty || decide (c.length = firstN cs))) := by
  cases cs with
  | nil => simp [evenB]
  | cons d ds => simp [evenB, firstN] <;> rfl
theorem firstN_snoc {cs : List (List Int)} {c : List Int} (h : cs ≠ []) : firstN (cs ++ [c]) = firstN cs := by
  cases cs with
  | nil => exact (h rfl).elim
  | cons d ds => rfl

theorem getCols_snoc {most : Nat} : ∀ {i : Nat} {s : List UInt8} {cs : List (List Int)} {r : List UInt8}, getCols most i s = (cs, r, 0) →
    getCols most (i + 1) s = if (colG r most).2.2 ≠ 0 then (cs, r, (colG r most).2.2) else (cs ++ [(colG r most).1], r.drop (colG r most).2.1, 0)
  | 0, s, cs, r, h => by
    simp only [getCols, Prod.mk.injEq, and_true] at h
    obtain ⟨rfl, rfl⟩ := h
    simp [getCols]
  | i + 1, s, cs, r, h => by
    rw [getCols] at h
    split at h
    · rename_i he
      simp only [Prod.mk.injEq] at h; exact (he h.2.2).elim
    · rename_i he
      obtain ⟨cs', r', e', hR⟩ : ∃ a b c, getCols most i (s.drop (colG s most).2.1) = (a, b, c) := ⟨_, _, _, rfl⟩
      rw [hR] at h
      simp only [Prod.mk.injEq] at h
      obtain ⟨rfl, rfl, rfl⟩ := h
      rw [getCols, if_neg he, getCols_snoc hR]
      split <;> simp
theorem getCols_bad {most : Nat} : ∀ {i n : Nat} {s : List UInt8}, (getCols most i s).2.2 ≠ 0 → i ≤ n → (getCols most n s).2.2 = (getCols most i s).2.2
  | 0, n, s, h, _ => by simp [getCols] at h
  | i + 1, 0, s, h, hn => by omega
  | i + 1, n + 1, s, h, hn => by
    rw [getCols, getCols]
    rw [getCols] at h
    split
    · rfl
    · rename_i he
      rw [if_neg he] at h
      exact getCols_bad h (by omega)
theorem colLoop_err (l : List UInt8) : ∀ (fuel a lack : Nat) (was : Option Int) (last : Int) (out : List Int), (colLoop l fuel a lack was last out).2.2 ≠ 0 → (colLoop l fuel a lack was last out).2.1 = 0
  | 0, a, lack, was, last, out, h => by simp [colLoop] at h
  | fuel + 1, a, lack, was, last, out, h => by
    rw [colLoop] at h ⊢
    split at h
    · simp at h
    · rename_i h1
      rw [if_neg h1]
      split at h
      · rename_i h2; rw [if_pos h2]
      · rename_i h2
        rw [if_neg h2]
        split at h
        · rename_i h3; rw [if_pos h3]
        · rename_i h3; rw [if_neg h3]; exact colLoop_err l _ _ _ _ _ _ h
theorem colG_err {l : List UInt8} {most : Nat} (h : (colG l most).2.2 ≠ 0) : (colG l most).2.1 ≤ l.length := by
  have : (colG l most).2.1 = 0 := by
    unfold colG at h ⊢
    split at h
    · rename_i h1; rw [if_pos h1]
    · rename_i h1; rw [if_neg h1]; exact colLoop_err _ _ _ _ _ _ _ h
  omega
theorem colG_a (l : List UInt8) (most : Nat) : (colG l most).2.1 ≤ l.length := by
  obtain ⟨xs, n, e, hG⟩ : ∃ a b c, colG l most = (a, b, c) := ⟨_, _, _, rfl⟩
  by_cases he : e = 0
  · subst he
    obtain ⟨h1, h2, _⟩ := colG_get hG
    rw [hG]
    have := congrArg List.length h1
    rw [List.length_take] at this
    show n ≤ _
    omega
  · exact colG_err (by rw [hG]; exact he)
/-- Within the reading of a list: behind i columns. -/
structure GetI (most sz : Nat) (s : List UInt8) (e : Int) (u : Bool) (i : Nat) (a : Option Nat) (m : Nat) (xs : List Value) (s' : List UInt8) (e' : Int) (u' : Bool) : Prop where
  len : xs.length = m * sz
  le : m ≤ most
  slen : s'.length ≤ s.length
  has : 0 < i → ∃ g, a = some g
  not : i = 0 → a = none ∧ m = 0 ∧ xs = []
  ok : e' = 0 → e = 0 ∧ ∃ cs, getCols most i s = (cs, s', 0) ∧ cs.length = i ∧ u' = (u || !evenB cs) ∧ (0 < i → evenB cs = true → m = firstN cs ∧ xs = (rowsT sz m cs).flatMap i64s)
  bad : e' ≠ 0 → e' = if e ≠ 0 then e else (getCols most sz s).2.2
/-- A list read. -/
structure GetR (most sz : Nat) (s : List UInt8) (e : Int) (u : Bool) (m : Nat) (xs : List Value) (s' : List UInt8) (e' : Int) (u' : Bool) : Prop where
  len : xs.length = m * sz
  le : m ≤ most
  slen : s'.length ≤ s.length
  err : e' = if e ≠ 0 then e else (getCols most sz s).2.2
  good : e' = 0 → s' = (getCols most sz s).2.1 ∧ u' = (u || !evenB (getCols most sz s).1) ∧ (evenB (getCols most sz s).1 = true → m = firstN (getCols most sz s).1 ∧ xs = (listT sz (getCols most sz s).1).flatMap i64s)
/-- The list that a column is set into. -/
def GetC (most sz i m : Nat) (cs : List (List Int)) (c : List Int) (xs : List Value) : Prop := xs.length = m * sz ∧ m ≤ most ∧ (evenB cs = true → m = (if i = 0 then c.length else firstN cs) ∧ xs = (rowsT sz m cs).flatMap i64s)

theorem GetI.zero (most sz : Nat) (s : List UInt8) (e : Int) (u : Bool) : GetI most sz s e u 0 none 0 [] s e u where
  len := by simp
  le := Nat.zero_le _
  slen := Nat.le_refl _
  has := fun h => absurd h (Nat.lt_irrefl _)
  not := fun _ => ⟨rfl, rfl, rfl⟩
  ok := fun h => ⟨h, [], rfl, rfl, by simp [evenB], fun h => absurd h (Nat.lt_irrefl _)⟩
  bad := fun h => by rw [if_pos h]
theorem GetI.stop {most sz : Nat} {s : List UInt8} {e : Int} {u : Bool} {i : Nat} {a : Option Nat} {m : Nat} {xs : List Value} {s' : List UInt8} {e' : Int} {u' : Bool} (h : GetI most sz s e u i a m xs s' e' u') (he : e' ≠ 0) :
    GetR most sz s e u 0 [] s' e' u' := ⟨by simp, Nat.zero_le _, h.slen, h.bad he, fun h0 => absurd h0 he⟩
theorem GetI.fin {most sz : Nat} {s : List UInt8} {e : Int} {u : Bool} {a : Option Nat} {m : Nat} {xs : List Value} {s' : List UInt8} {e' : Int} {u' : Bool} (h : GetI most sz s e u sz a m xs s' e' u') (hsz : 0 < sz) :
    GetR most sz s e u m xs s' e' u' := by
  refine ⟨h.len, h.le, h.slen, ?_, fun he => ?_⟩
  · by_cases he : e' = 0
    · obtain ⟨rfl, cs, hc, _⟩ := h.ok he
      rw [hc, he]; simp
    · exact h.bad he
  · obtain ⟨rfl, cs, hc, hl, hu, hx⟩ := h.ok he
    rw [hc]
    refine ⟨rfl, hu, fun hev => ?_⟩
    obtain ⟨h1, h2⟩ := hx hsz hev
    exact ⟨h1, by rw [h2, h1]; rfl⟩
theorem GetI.bad' {most sz : Nat} {s : List UInt8} {i : Nat} {s' : List UInt8} {cs : List (List Int)} {c : List Int} {k : Nat} {ee : Int} (hi : i < sz) (hc : getCols most i s = (cs, s', 0)) (hG : colG s' most = (c, k, ee)) (he : ee ≠ 0) : ee = (getCols most sz s).2.2 := by
  have h1 := getCols_snoc hc
  rw [hG] at h1
  simp only at h1
  rw [if_pos he] at h1
  have := getCols_bad (i := i + 1) (n := sz) (s := s) (most := most) (by rw [h1]; exact he) (by omega)
  rw [this, h1]
theorem GetI.ok' {most : Nat} {s : List UInt8} {i : Nat} {s' : List UInt8} {cs : List (List Int)} {c : List Int} {k : Nat} (hc : getCols most i s = (cs, s', 0)) (hG : colG s' most = (c, k, 0)) : getCols most (i + 1) s = (cs ++ [c], s'.drop k, 0) := by
  have h1 := getCols_snoc hc
  rw [hG] at h1
  simpa using h1
theorem GetI.even {most sz : Nat} {s : List UInt8} {u : Bool} {i : Nat} {a : Option Nat} {m : Nat} {xs : List Value} {s' : List UInt8} {u' : Bool} (h : GetI most sz s 0 u i a m xs s' 0 u') (hi : i < sz) {cs : List (List Int)} (hc : getCols most i s = (cs, s', 0)) {c : List Int} {k : Nat} {ee : Int}
    (hG : colG s' most = (c, k, ee)) {m' : Nat} {xs1 xs' : List Value} (hC : GetC most sz i m' cs c xs1) (hm : c.length = m') (hl : xs'.length = m' * sz) (hx : evenB cs = true → xs' = (rowsT sz m' (cs ++ [c])).flatMap i64s) (g : Nat) :
    GetI most sz s 0 u (i + 1) (some g) m' xs' (s'.drop k) ee u' := by
  obtain ⟨h1, h2, h3⟩ := hC
  obtain ⟨-, cs0, hc0, hcl, hu, -⟩ := h.ok rfl
  rw [hc] at hc0
  simp only [Prod.mk.injEq, and_true] at hc0
  obtain rfl := hc0
  have hev : evenB (cs ++ [c]) = evenB cs := by
    rw [even_snoc]
    cases hE : evenB cs with
    | false => rfl
    | true =>
      obtain ⟨h4, -⟩ := h3 hE
      rw [Bool.true_and]
      cases cs with
      | nil => rfl
      | cons d ds =>
        simp only [List.length_cons] at hcl
        rw [if_neg (by omega)] at h4
        simp [hm, h4]
  refine ⟨hl, h2, by have := h.slen; rw [List.length_drop]; omega, fun _ => ⟨g, rfl⟩, fun h => by omega, fun he => ?_, fun he => by rw [if_neg (by simp)]; exact GetI.bad' hi hc hG he⟩
  subst he
  refine ⟨rfl, cs ++ [c], GetI.ok' hc hG, by simp [hcl], by rw [hev]; exact hu, fun _ hE => ?_⟩
  rw [hev] at hE
  obtain ⟨h4, -⟩ := h3 hE
  refine ⟨?_, hx hE⟩
  cases cs with
  | nil => simp [firstN, hm]
  | cons d ds =>
    simp only [List.length_cons] at hcl
    rw [if_neg (by omega)] at h4
    exact h4
theorem GetI.odd {most sz : Nat} {s : List UInt8} {u : Bool} {i : Nat} {a : Option Nat} {m : Nat} {xs : List Value} {s' : List UInt8} {u' : Bool} (h : GetI most sz s 0 u i a m xs s' 0 u') (hi : i < sz) {cs : List (List Int)} (hc : getCols most i s = (cs, s', 0)) {c : List Int} {k : Nat} {ee : Int}
    (hG : colG s' most = (c, k, ee)) {m' : Nat} {xs1 : List Value} (hC : GetC most sz i m' cs c xs1) (hm : c.length ≠ m') (g : Nat) :
    GetI most sz s 0 u (i + 1) (some g) m' xs1 (s'.drop k) ee true := by
  obtain ⟨h1, h2, h3⟩ := hC
  obtain ⟨-, cs0, hc0, hcl, hu, -⟩ := h.ok rfl
  rw [hc] at hc0
  simp only [Prod.mk.injEq, and_true] at hc0
  obtain rfl := hc0
  have hev : evenB (cs ++ [c]) = false := by
    rw [even_snoc]
    cases hE : evenB cs with
    | false => rfl
    | true =>
      obtain ⟨h4, -⟩ := h3 hE
      rw [Bool.true_and]
      cases cs with
      | nil => rw [if_pos (by simpa using hcl.symm)] at h4; exact absurd h4.symm hm
      | cons d ds =>
        simp only [List.length_cons] at hcl
        rw [if_neg (by omega)] at h4
        simp only [List.isEmpty_cons, Bool.false_or, decide_eq_false_iff_not]
        rw [← h4]; exact hm
  refine ⟨h1, h2, by have := h.slen; rw [List.length_drop]; omega, fun _ => ⟨g, rfl⟩, fun h => by omega, fun he => ?_, fun he => by rw [if_neg (by simp)]; exact GetI.bad' hi hc hG he⟩
  subst he
  refine ⟨rfl, cs ++ [c], GetI.ok' hc hG, by simp [hcl], by rw [hev]; simp, fun _ hE => ?_⟩
  rw [hev] at hE; cases hE
theorem rep_get {x : Value} {n j m : Nat} (hn : 0 < n) (hj : j < m) : (List.replicate m x)[j]? = (List.replicate n x)[j % (List.replicate n x).length]? := by
  rw [List.getElem?_replicate, if_pos hj, List.getElem?_replicate, List.length_replicate, if_pos (Nat.mod_lt _ hn)]
theorem GetR.e0 {most sz : Nat} {s : List UInt8} {e : Int} {u : Bool} {m : Nat} {xs : List Value} {s' : List UInt8} {e' : Int} {u' : Bool} (h : GetR most sz s e u m xs s' e' u') (he : e' = 0) : e = 0 ∧ (getCols most sz s).2.2 = 0 := by
  have h1 := h.err
  by_cases h0 : e = 0
  · subst h0; rw [if_neg (by simp)] at h1; exact ⟨rfl, by rw [← h1, he]⟩
  · rw [if_pos h0] at h1; exact absurd (h1 ▸ he) h0

/-- The parts of a book that were read, one behind the other. -/
theorem getBk_chain {s : List UInt8} {n a : Nat} {e0 : Int} (hN : rdN s 0 0 1099511627776 = (n, a, e0)) {m1 m2 m3 m4 : Nat} {x1 x2 x3 x4 : List Value} {s1 s2 s3 s4 : List UInt8} {e1 e2 e3 e4 : Int} {u1 u2 u3 u4 : Bool}
    (h1 : GetR 32 4 (s.drop a) e0 false m1 x1 s1 e1 u1) (h2 : GetR 1024 3 s1 e1 u1 m2 x2 s2 e2 u2) (h3 : GetR 64 6 s2 e2 u2 m3 x3 s3 e3 u3) (h4 : GetR 32 2 s3 e3 u3 m4 x4 s4 e4 u4) :
    (e4 ≠ 0 → getBk s = (zeroBk, e4)) ∧ (e4 = 0 → (s4 ≠ [] ∨ u4 = true) → getBk s = (zeroBk, 3)) ∧
    (e4 = 0 → s4 = [] → u4 = false → ∃ b : Bk, BkIn b ∧ b.S.length ≤ 1024 ∧ b.c = n ∧ m1 = b.H.length ∧ m2 = b.S.length ∧ m3 = b.O.length ∧ m4 = b.R.length ∧ x1 = b.H.flatMap i64s ∧ x2 = b.S.flatMap i64s ∧ x3 = b.O.flatMap i64s ∧ x4 = b.R.flatMap i64s ∧
      getBk s = if mayB b = true then (b, 0) else (zeroBk, 3)) := by
  have g1 := rdN_lt s 0 0 1099511627776
  rw [hN] at g1
  simp only at g1
  refine ⟨fun he => ?_, fun he hor => ?_, fun he hs hu => ?_⟩
  · unfold getBk
    rw [hN]
    simp only
    by_cases h0 : e0 = 0
    · subst h0
      rw [if_neg (by simp)]
      have r1 := h1.err
      rw [if_neg (by simp)] at r1
      by_cases z1 : e1 = 0
      · rw [if_neg (by rw [← r1, z1]; simp), ← (h1.good z1).1]
        have r2 := h2.err
        rw [if_neg (by rw [z1]; simp)] at r2
        by_cases z2 : e2 = 0
        · rw [if_neg (by rw [← r2, z2]; simp), ← (h2.good z2).1]
          have r3 := h3.err
          rw [if_neg (by rw [z2]; simp)] at r3
          by_cases z3 : e3 = 0
          · rw [if_neg (by rw [← r3, z3]; simp), ← (h3.good z3).1]
            have r4 := h4.err
            rw [if_neg (by rw [z3]; simp)] at r4
            rw [if_pos (by rw [← r4]; exact he), ← r4]
          · have r4 := h4.err
            rw [if_pos z3] at r4
            rw [if_pos (by rw [← r3]; exact z3), ← r3, r4]
        · have r3 := h3.err
          rw [if_pos z2] at r3
          have r4 := h4.err
          rw [if_pos (by rw [r3]; exact z2), r3] at r4
          rw [if_pos (by rw [← r2]; exact z2), ← r2, r4]
      · have r2 := h2.err
        rw [if_pos z1] at r2
        have r3 := h3.err
        rw [if_pos (by rw [r2]; exact z1), r2] at r3
        have r4 := h4.err
        rw [if_pos (by rw [r3]; exact z1), r3] at r4
        rw [if_pos (by rw [← r1]; exact z1), ← r1, r4]
    · rw [if_pos h0]
      have r1 := h1.err
      rw [if_pos h0] at r1
      have r2 := h2.err
      rw [if_pos (by rw [r1]; exact h0), r1] at r2
      have r3 := h3.err
      rw [if_pos (by rw [r2]; exact h0), r2] at r3
      have r4 := h4.err
      rw [if_pos (by rw [r3]; exact h0), r3] at r4
      rw [r4]
  · obtain ⟨z3, y4⟩ := h4.e0 he
    obtain ⟨z2, y3⟩ := h3.e0 z3
    obtain ⟨z1, y2⟩ := h2.e0 z2
    obtain ⟨z0, y1⟩ := h1.e0 z1
    unfold getBk
    rw [hN]
    simp only
    rw [if_neg (by rw [z0]; simp), if_neg (by rw [y1]; simp), ← (h1.good z1).1, if_neg (by rw [y2]; simp), ← (h2.good z2).1, if_neg (by rw [y3]; simp), ← (h3.good z3).1, if_neg (by rw [y4]; simp), ← (h4.good he).1]
    rw [if_neg]
    rintro ⟨v0, v1, v2, v3, v4, -⟩
    have w1 := (h1.good z1).2.1
    have w2 := (h2.good z2).2.1
    have w3 := (h3.good z3).2.1
    have w4 := (h4.good he).2.1
    rw [v1] at w1; rw [v2] at w2; rw [v3] at w3; rw [v4] at w4
    rw [w1] at w2; rw [w2] at w3; rw [w3] at w4
    rcases hor with h | h
    · exact h v0
    · rw [h] at w4; simp at w4
  · obtain ⟨z3, y4⟩ := h4.e0 he
    obtain ⟨z2, y3⟩ := h3.e0 z3
    obtain ⟨z1, y2⟩ := h2.e0 z2
    obtain ⟨z0, y1⟩ := h1.e0 z1
    have w1 := (h1.good z1).2.1
    have w2 := (h2.good z2).2.1
    have w3 := (h3.good z3).2.1
    have w4 := (h4.good he).2.1
    rw [hu, w3, w2, w1] at w4
    have v : evenB (getCols 32 4 (s.drop a)).1 = true ∧ evenB (getCols 1024 3 s1).1 = true ∧ evenB (getCols 64 6 s2).1 = true ∧ evenB (getCols 32 2 s3).1 = true := by
      revert w4
      cases evenB (getCols 32 4 (s.drop a)).1 <;> cases evenB (getCols 1024 3 s1).1 <;> cases evenB (getCols 64 6 s2).1 <;> cases evenB (getCols 32 2 s3).1 <;> simp
    obtain ⟨v1, v2, v3, v4⟩ := v
    obtain ⟨p1, q1⟩ := (h1.good z1).2.2 v1
    obtain ⟨p2, q2⟩ := (h2.good z2).2.2 v2
    obtain ⟨p3, q3⟩ := (h3.good z3).2.2 v3
    obtain ⟨p4, q4⟩ := (h4.good he).2.2 v4
    have i1 := (getCols_get (most := 32) (n := 4) (s := s.drop a) (Prod.ext rfl (Prod.ext rfl y1))).2.2.2
    have i2 := (getCols_get (most := 1024) (n := 3) (s := s1) (Prod.ext rfl (Prod.ext rfl y2))).2.2.2
    have i3 := (getCols_get (most := 64) (n := 6) (s := s2) (Prod.ext rfl (Prod.ext rfl y3))).2.2.2
    have i4 := (getCols_get (most := 32) (n := 2) (s := s3) (Prod.ext rfl (Prod.ext rfl y4))).2.2.2
    have k1 := h1.le
    have k2 := h2.le
    have k3 := h3.le
    have k4 := h4.le
    refine ⟨⟨listT 4 (getCols 32 4 (s.drop a)).1, listT 3 (getCols 1024 3 s1).1, listT 6 (getCols 64 6 s2).1, listT 2 (getCols 32 2 s3).1, n⟩, ⟨rowsT_recs i1, rowsT_recs i2, rowsT_recs i3, rowsT_recs i4, ?_, ?_, ?_, ?_, ?_⟩, ?_, rfl, ?_, ?_, ?_, ?_, q1, q2, q3, q4, ?_⟩
    all_goals first | (simp only [listT, rowsT_len]; omega) | (simp only [inK]; omega) | skip
    unfold getBk
    rw [hN]
    simp only
    rw [if_neg (by rw [z0]; simp), if_neg (by rw [y1]; simp), ← (h1.good z1).1, if_neg (by rw [y2]; simp), ← (h2.good z2).1, if_neg (by rw [y3]; simp), ← (h3.good z3).1, if_neg (by rw [y4]; simp), ← (h4.good he).1]
    split
    · rename_i hc; rw [if_pos hc.2.2.2.2.2]
    · rename_i hc; rw [if_neg (fun hm => hc ⟨hs, v1, v2, v3, v4, hm⟩)]
end Go.Eng

/-
  Plain laws of layer 13: books read again.
-/
import Derived.Test.YtfpoclhenokhhaaGreatP7
namespace Go.Eng
open Go

/-- So many columns read: they, the rest, the fault. -/
def getCols (most : Nat) : Nat → List UInt8 → List (List Int) × List UInt8 × Int
  | 0, s => ([], s, 0)
  | n + 1, s => if (colG s most).2.2 ≠ 0 then ([], s, (colG s most).2.2) else ((colG s most).1 :: (getCols most n (s.drop (colG s most).2.1)).1, (getCols most n (s.drop (colG s most).2.1)).2)
/-- Have all as many numbers as the first one? -/
def evenB : List (List Int) → Bool
  | [] => true
  | c :: cs => cs.all fun d => decide (d.length = c.length)
def firstN : List (List Int) → Nat
  | [] => 0
  | c :: _ => c.length
/-- Columns as things. -/
def rowAt (sz : Nat) (cs : List (List Int)) (k : Nat) : List Int := (List.range sz).map fun j => nthI ((cs[j]?).getD []) k
def rowsT (sz n : Nat) (cs : List (List Int)) : List (List Int) := (List.range n).map (rowAt sz cs)
def listT (sz : Nat) (cs : List (List Int)) : List (List Int) := rowsT sz (firstN cs) cs

theorem rowAt_len (sz : Nat) (cs : List (List Int)) (k : Nat) : (rowAt sz cs k).length = sz := by simp [rowAt]
theorem rowsT_len (sz n : Nat) (cs : List (List Int)) : (rowsT sz n cs).length = n := by simp [rowsT]
theorem rowsT_recs {sz n : Nat} {cs : List (List Int)} (h : ∀ c, c ∈ cs → ∀ x, x ∈ c → inK .i64 x) : Recs sz (rowsT sz n cs) := by
  intro x hx
  simp only [rowsT, List.mem_map, List.mem_range] at hx
  obtain ⟨k, _, rfl⟩ := hx
  refine ⟨rowAt_len _ _ _, fun y hy => ?_⟩
  simp only [rowAt, List.mem_map, List.mem_range] at hy
  obtain ⟨j, _, rfl⟩ := hy
  apply nthI_in
  intro z hz
  cases hc : cs[j]? with
  | none => rw [hc] at hz; simp at hz
  | some c => rw [hc] at hz; exact h c (List.mem_of_getElem? hc) z hz
theorem map_nthI (c : List Int) : (List.range c.length).map (fun k => nthI c k) = c := by
  apply List.ext_getElem?
  intro k
  by_cases hk : k < c.length
  · simp [nthI, hk]
  · simp [hk]
theorem colOf_rowsT {sz n j : Nat} {cs : List (List Int)} {c : List Int} (hj : j < sz) (hc : cs[j]? = some c) (hn : c.length = n) : colOf (rowsT sz n cs) j = c := by
  unfold colOf rowsT
  rw [List.map_map]
  have : ((fun x => nthI x j) ∘ rowAt sz cs) = fun k => nthI c k := by
    funext k
    simp [rowAt, nthI, hj, hc]
  rw [this, ← hn]; exact map_nthI c
theorem rowsT_colOf {sz : Nat} {l : List (List Int)} (h : ∀ x, x ∈ l → x.length = sz) : rowsT sz l.length ((List.range sz).map (colOf l)) = l := by
  apply List.ext_getElem?
  intro k
  by_cases hk : k < l.length
  · have hx : l[k]? = some l[k] := List.getElem?_eq_getElem hk
    have hl := h l[k] (List.mem_of_getElem? hx)
    rw [hx]
    simp only [rowsT, List.getElem?_map, List.getElem?_range hk, Option.map_some, Option.some.injEq]
    unfold rowAt
    rw [← hl]
    conv => rhs; rw [← map_nthI l[k]]
    apply List.map_congr_left
    intro j hj
    have hj := List.mem_range.1 hj
    simp [List.getElem?_range (hl ▸ hj : j < sz), colOf, nthI, hk, hl ▸ hj, hl]
  · rw [List.getElem?_eq_none (by rw [rowsT_len]; omega), List.getElem?_eq_none (by omega)]

theorem colLoop_in (l : List UInt8) : ∀ (fuel a lack : Nat) (was : Option Int) (last : Int) (out : List Int), (∀ x, x ∈ out → inK .i64 x) → ∀ x, x ∈ (colLoop l fuel a lack was last out).1 → inK .i64 x
  | 0, a, lack, was, last, out, h, x, hx => h x hx
  | fuel + 1, a, lack, was, last, out, h, x, hx => by
    rw [colLoop] at hx
    split at hx
    · exact h x hx
    · split at hx
      · simp at hx
      · split at hx
        · simp at hx
        · refine colLoop_in l fuel _ _ _ _ _ (fun y hy => ?_) x hx
          rcases List.mem_append.1 hy with hy | hy
          · exact h y hy
          · exact stepsL_in _ _ _ _ hy
theorem colG_in (l : List UInt8) (most : Nat) : ∀ x, x ∈ (colG l most).1 → inK .i64 x := by
  intro x hx
  unfold colG at hx
  split at hx
  · simp at hx
  · exact colLoop_in l _ _ _ _ _ _ (by simp) x hx

/-- What columns were read are its bytes. -/
theorem getCols_get {most : Nat} : ∀ {n : Nat} {s : List UInt8} {cs : List (List Int)} {r : List UInt8}, getCols most n s = (cs, r, 0) →
    s = cs.flatMap colL ++ r ∧ cs.length = n ∧ (∀ c, c ∈ cs → c.length ≤ most) ∧ ∀ c, c ∈ cs → ∀ x, x ∈ c → inK .i64 x
  | 0, s, cs, r, h => by
    simp only [getCols, Prod.mk.injEq, and_true] at h
    obtain ⟨rfl, rfl⟩ := h
    simp
  | n + 1, s, cs, r, h => by
    rw [getCols] at h
    split at h
    · rename_i he
      simp only [Prod.mk.injEq] at h; exact (he h.2.2).elim
    · rename_i he
      have he : (colG s most).2.2 = 0 := by simpa using he
      have hin := colG_in s most
      obtain ⟨xs, k, e, hG⟩ : ∃ xs k e, colG s most = (xs, k, e) := ⟨_, _, _, rfl⟩
      simp only [hG] at h he hin
      subst he
      obtain ⟨h1, h2, h3⟩ := colG_get hG
      obtain ⟨cs', r', e', hR⟩ : ∃ a b c, getCols most n (s.drop k) = (a, b, c) := ⟨_, _, _, rfl⟩
      rw [hR] at h
      simp only [Prod.mk.injEq] at h
      obtain ⟨rfl, rfl, rfl⟩ := h
      obtain ⟨g1, g2, g3, g4⟩ := getCols_get hR
      refine ⟨?_, by simp [g2], fun c hc => ?_, fun c hc => ?_⟩
      · rw [List.flatMap_cons, List.append_assoc, ← g1, ← h1, List.take_append_drop]
      · rcases List.mem_cons.1 hc with rfl | hc
        · exact h3
        · exact g3 c hc
      · rcases List.mem_cons.1 hc with rfl | hc
        · exact hin
        · exact g4 c hc
/-- Columns that were put are read. -/
theorem getCols_put {most : Nat} (rest : List UInt8) : ∀ (cs : List (List Int)), (∀ c, c ∈ cs → c.length ≤ most ∧ ∀ x, x ∈ c → inK .i64 x) → most < 18446744073709551616 → getCols most cs.length (cs.flatMap colL ++ rest) = (cs, rest, 0)
  | [], _, _ => rfl
  | c :: cs, h, hm => by
    have hc := h c (by simp)
    have e := colG_put hc.2 (cs.flatMap colL ++ rest) hc.1 (by omega)
    rw [List.length_cons, getCols, List.flatMap_cons, List.append_assoc, e]
    simp only [ne_eq, not_true_eq_false, if_false, List.drop_left]
    rw [getCols_put rest cs (fun d hd => h d (by simp [hd])) hm]
theorem putB_cols (sz : Nat) (l : List (List Int)) : putB sz l = ((List.range sz).map (colOf l)).flatMap colL := by
  unfold putB; rw [List.flatMap_map]
theorem getCols_putB {sz most : Nat} {l : List (List Int)} (hr : Recs sz l) (hl : l.length ≤ most) (hm : most < 18446744073709551616) (rest : List UInt8) : getCols most sz (putB sz l ++ rest) = ((List.range sz).map (colOf l), rest, 0) := by
  have := getCols_put (most := most) rest ((List.range sz).map (colOf l)) (fun c hc => by
    simp only [List.mem_map] at hc
    obtain ⟨i, _, rfl⟩ := hc
    exact ⟨by rw [colOf_len]; exact hl, colOf_in hr i⟩) hm
  rw [putB_cols]; simpa using this
theorem cols_even {sz : Nat} (l : List (List Int)) : evenB ((List.range sz).map (colOf l)) = true := by
  cases sz with
  | zero => rfl
  | succ n =>
    rw [List.range_succ_eq_map]
    simp only [List.map_cons, evenB, List.all_eq_true, decide_eq_true_eq]
    intro d hd
    simp only [List.map_map, List.mem_map] at hd
    obtain ⟨i, _, rfl⟩ := hd
    simp [colOf_len]
theorem listT_cols {sz : Nat} {l : List (List Int)} (hsz : 0 < sz) (hr : Recs sz l) : listT sz ((List.range sz).map (colOf l)) = l := by
  unfold listT
  have : firstN ((List.range sz).map (colOf l)) = l.length := by
    cases sz with
    | zero => omega
    | succ n => rw [List.range_succ_eq_map]; simp [firstN, colOf_len]
  rw [this]; exact rowsT_colOf hr.len
theorem even_get {cs : List (List Int)} (h : evenB cs = true) : ∀ c, c ∈ cs → c.length = firstN cs := by
  intro c hc
  cases cs with
  | nil => simp at hc
  | cons d ds =>
    rcases List.mem_cons.1 hc with rfl | hc
    · rfl
    · have := List.all_eq_true.1 h c hc
      exact of_decide_eq_true this
theorem putB_listT {sz : Nat} {cs : List (List Int)} (hl : cs.length = sz) (he : evenB cs = true) : putB sz (listT sz cs) = cs.flatMap colL := by
  rw [putB_cols]
  congr 1
  apply List.ext_getElem?
  intro j
  by_cases hj : j < sz
  · have hc : cs[j]? = some cs[j] := List.getElem?_eq_getElem (by omega)
    rw [hc]
    simp only [List.getElem?_map, List.getElem?_range hj, Option.map_some, Option.some.injEq]
    exact colOf_rowsT hj hc (even_get he _ (List.mem_of_getElem? hc))
  · rw [List.getElem?_eq_none (by simp; omega), List.getElem?_eq_none (by omega)]

def zeroBk : Bk := ⟨[], [], [], [], 0⟩
/-- A book read. -/
def getBk (s : List UInt8) : Bk × Int :=
  if (rdN s 0 0 1099511627776).2.2 ≠ 0 then (zeroBk, (rdN s 0 0 1099511627776).2.2) else
  let r1 := getCols 32 4 (s.drop (rdN s 0 0 1099511627776).2.1)
  if r1.2.2 ≠ 0 then (zeroBk, r1.2.2) else
  let r2 := getCols 1024 3 r1.2.1
  if r2.2.2 ≠ 0 then (zeroBk, r2.2.2) else
  let r3 := getCols 64 6 r2.2.1
  if r3.2.2 ≠ 0 then (zeroBk, r3.2.2) else
  let r4 := getCols 32 2 r3.2.1
  if r4.2.2 ≠ 0 then (zeroBk, r4.2.2) else
  let b : Bk := ⟨listT 4 r1.1, listT 3 r2.1, listT 6 r3.1, listT 2 r4.1, (rdN s 0 0 1099511627776).1⟩
  if r4.2.1 = [] ∧ evenB r1.1 = true ∧ evenB r2.1 = true ∧ evenB r3.1 = true ∧ evenB r4.1 = true ∧ mayB b = true then (b, 0) else (zeroBk, 3)

theorem firstN_le {cs : List (List Int)} {most : Nat} (h : ∀ c, c ∈ cs → c.length ≤ most) : firstN cs ≤ most := by
  cases cs with
  | nil => simp [firstN]
  | cons c cs => exact h c (by simp)

/-- What is read is the book's bytes. -/
theorem getBk_get {s : List UInt8} {b : Bk} (h : getBk s = (b, 0)) : s = bookB b ∧ mayB b = true ∧ BkIn b ∧ b.S.length ≤ 1024 := by
  unfold getBk at h
  split at h
  · rename_i h1; simp only [Prod.mk.injEq] at h; exact (h1 h.2).elim
  · rename_i h1
    have h1 : (rdN s 0 0 1099511627776).2.2 = 0 := by simpa using h1
    have g0 := rdN_get h1
    have g1 := rdN_lt s 0 0 1099511627776
    obtain ⟨n, a, f, hN⟩ : ∃ n a f, rdN s 0 0 1099511627776 = (n, a, f) := ⟨_, _, _, rfl⟩
    simp only [hN, List.take_zero, List.nil_append, Nat.zero_add] at h g0 g1
    obtain ⟨c1, r1, e1, hR1⟩ : ∃ x y z, getCols 32 4 (s.drop a) = (x, y, z) := ⟨_, _, _, rfl⟩
    simp only [hR1] at h
    split at h
    · rename_i h2; simp only [Prod.mk.injEq] at h; exact (h2 h.2).elim
    rename_i h2
    have h2 : e1 = 0 := by simpa using h2
    subst h2
    obtain ⟨c2, r2, e2, hR2⟩ : ∃ x y z, getCols 1024 3 r1 = (x, y, z) := ⟨_, _, _, rfl⟩
    simp only [hR2] at h
    split at h
    · rename_i h2; simp only [Prod.mk.injEq] at h; exact (h2 h.2).elim
    rename_i h2
    have h2 : e2 = 0 := by simpa using h2
    subst h2
    obtain ⟨c3, r3, e3, hR3⟩ : ∃ x y z, getCols 64 6 r2 = (x, y, z) := ⟨_, _, _, rfl⟩
    simp only [hR3] at h
    split at h
    · rename_i h2; simp only [Prod.mk.injEq] at h; exact (h2 h.2).elim
    rename_i h2
    have h2 : e3 = 0 := by simpa using h2
    subst h2
    obtain ⟨c4, r4, e4, hR4⟩ : ∃ x y z, getCols 32 2 r3 = (x, y, z) := ⟨_, _, _, rfl⟩
    simp only [hR4] at h
    split at h
    · rename_i h2; simp only [Prod.mk.injEq] at h; exact (h2 h.2).elim
    rename_i h2
    have h2 : e4 = 0 := by simpa using h2
    subst h2
    split at h
    · rename_i hc
      obtain ⟨hr, v1, v2, v3, v4, hm⟩ := hc
      simp only [Prod.mk.injEq, and_true] at h
      subst h
      subst hr
      obtain ⟨t1, l1, m1, i1⟩ := getCols_get hR1
      obtain ⟨t2, l2, m2, i2⟩ := getCols_get hR2
      obtain ⟨t3, l3, m3, i3⟩ := getCols_get hR3
      obtain ⟨t4, l4, m4, i4⟩ := getCols_get hR4
      have f1 := firstN_le m1
      have f2 := firstN_le m2
      have f3 := firstN_le m3
      have f4 := firstN_le m4
      refine ⟨?_, hm, ⟨rowsT_recs i1, rowsT_recs i2, rowsT_recs i3, rowsT_recs i4, ?_, ?_, ?_, ?_, ?_⟩, ?_⟩
      · unfold bookB
        simp only [Int.toNat_natCast]
        rw [putB_listT l1 v1, putB_listT l2 v2, putB_listT l3 v3, putB_listT l4 v4]
        rw [List.append_nil] at t4
        rw [← t4, ← t3, ← t2, ← t1, ← g0.1, List.take_append_drop]
      all_goals first | (simp only [listT, rowsT_len]; omega) | (simp only [inK]; omega)
    · simp only [Prod.mk.injEq] at h; omega

theorem may_lens {b : Bk} (h : mayB b = true) : b.H.length ≤ 32 ∧ b.O.length ≤ 64 ∧ b.R.length ≤ 32 ∧ 0 ≤ b.c ∧ b.c ≤ 1099511627776 := by
  simp only [mayB, listsB, Bool.and_eq_true, decide_eq_true_eq] at h
  exact ⟨h.1.1, h.1.2.1, h.1.2.2.1, h.2.1.1, h.2.1.2⟩

/-- A book that was put is read again, alone. -/
theorem getBk_put {b : Bk} (hm : mayB b = true) (hi : BkIn b) (hS : b.S.length ≤ 1024) (more : List UInt8) : getBk (bookB b ++ more) = if more = [] then (b, 0) else (zeroBk, 3) := by
  obtain ⟨l1, l3, l4, hc0, hc1⟩ := may_lens hm
  obtain ⟨n, hn⟩ : ∃ n : Nat, b.c = n := ⟨b.c.toNat, by omega⟩
  have e0 : (bookB b ++ more).drop 0 = numL n ++ (putB 4 b.H ++ (putB 3 b.S ++ (putB 6 b.O ++ (putB 2 b.R ++ more)))) := by
    simp [bookB, hn]
  have h0 := rdN_put (most := 1099511627776) (by omega : n < 18446744073709551616) (by omega) e0
  have d0 := drop_app e0
  rw [Nat.zero_add] at d0
  unfold getBk
  simp only [h0, Nat.zero_add, d0]
  rw [if_neg (by simp), getCols_putB hi.r1 l1 (by decide) _]
  simp only
  rw [if_neg (by simp), getCols_putB hi.r2 hS (by decide) _]
  simp only
  rw [if_neg (by simp), getCols_putB hi.r3 l3 (by decide) _]
  simp only
  rw [if_neg (by simp), getCols_putB hi.r4 l4 (by decide) _]
  simp only
  rw [if_neg (by simp)]
  have hb : (⟨listT 4 ((List.range 4).map (colOf b.H)), listT 3 ((List.range 3).map (colOf b.S)), listT 6 ((List.range 6).map (colOf b.O)), listT 2 ((List.range 2).map (colOf b.R)), (n : Int)⟩ : Bk) = b := by
    rw [listT_cols (by decide) hi.r1, listT_cols (by decide) hi.r2, listT_cols (by decide) hi.r3, listT_cols (by decide) hi.r4, ← hn]
  rw [hb]
  by_cases hmore : more = []
  · rw [if_pos ⟨hmore, cols_even _, cols_even _, cols_even _, cols_even _, hm⟩, if_pos hmore]
  · rw [if_neg (fun h => hmore h.1), if_neg hmore]
end Go.Eng

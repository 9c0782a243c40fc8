/-
  Plain laws of numerals and words.
-/
import Derived.Test.YtkmlfggemhachaaGreatDoorM7
import Derived.Lib.ItoaNum
import Derived.Lib.SplitLaws
import Derived.Lib.ParseIntB
/-
  Plain laws of numerals and words.
-/
namespace Go.Eng
open Go

theorem dd_dig : ∀ (u : Nat) (c : UInt8), c ∈ Lib.decDigits u → 48 ≤ c.toNat ∧ c.toNat ≤ 57 := by
  intro u
  induction u using Nat.strongRecOn with
  | _ u ih =>
    intro c hc
    rw [Lib.decDigits] at hc
    split at hc
    · rename_i h
      simp only [List.mem_singleton] at hc; subst hc
      rw [UInt8.toNat_ofNat']; omega
    · rename_i h
      rcases List.mem_append.1 hc with hc | hc
      · exact ih (u / 10) (by omega) c hc
      · simp only [List.mem_singleton] at hc; subst hc
        rw [UInt8.toNat_ofNat']; omega
theorem dd_ne (u : Nat) : Lib.decDigits u ≠ [] := by
  rw [Lib.decDigits]; split <;> simp
theorem pum_app {M : Nat} : ∀ {l : List UInt8} {r : List UInt8} {acc v : Nat}, Lib.parseUintM M acc l = .ok v → Lib.parseUintM M acc (l ++ r) = Lib.parseUintM M v r
  | [], r, acc, v, h => by simp only [Lib.parseUintM, Lib.NumEnd.ok.injEq] at h; subst h; rfl
  | c :: l, r, acc, v, h => by
    simp only [List.cons_append, Lib.parseUintM] at h ⊢
    split at h
    · rename_i h1
      rw [if_pos h1]
      split at h
      · cases h
      · rename_i h2
        rw [if_neg h2]
        split at h
        · cases h
        · rename_i h3
          rw [if_neg h3]
          exact pum_app h
    · cases h
theorem pum_dd : ∀ (u : Nat), u ≤ 9223372036854775808 → Lib.parseUintM 18446744073709551615 0 (Lib.decDigits u) = .ok u := by
  intro u
  induction u using Nat.strongRecOn with
  | _ u ih =>
    intro hu
    have one : ∀ d acc : Nat, d < 10 → acc ≤ 922337203685477580 → Lib.parseUintM 18446744073709551615 acc [UInt8.ofNat (48 + d)] = .ok (acc * 10 + d) := by
      intro d acc hd ha
      have e : (UInt8.ofNat (48 + d)).toNat = 48 + d := by rw [UInt8.toNat_ofNat']; omega
      simp only [Lib.parseUintM, e]
      rw [if_pos (by omega), if_neg (by omega), if_neg (by omega)]
      congr 1; omega
    rw [Lib.decDigits]
    split
    · rename_i h
      have := one u 0 h (by omega)
      simpa using this
    · rename_i h
      rw [pum_app (ih (u / 10) (by omega) (by omega)), one (u % 10) (u / 10) (by omega) (by omega)]
      congr 1; omega
theorem itoa_ne (n : Int) : Lib.itoa n ≠ [] := by
  unfold Lib.itoa; split
  · simp
  · exact dd_ne _
theorem itoa_no {n : Int} {c : UInt8} (h : c ∈ Lib.itoa n) : c.toNat = 45 ∨ 48 ≤ c.toNat ∧ c.toNat ≤ 57 := by
  unfold Lib.itoa at h
  split at h
  · rcases List.mem_cons.1 h with rfl | h
    · exact .inl rfl
    · exact .inr (dd_dig _ _ h)
  · exact .inr (dd_dig _ _ h)
theorem parse_itoa {n : Int} (h : inK .i64 n) : Lib.parseIntB 64 (Lib.itoa n) = .ok n := by
  simp only [inK] at h
  unfold Lib.itoa
  split
  · rename_i hn
    have hp := pum_dd n.natAbs (by omega)
    unfold Lib.parseIntB
    have e45 : (45 : UInt8).toNat = 45 := rfl
    simp only [e45, or_true, if_true, Lib.parseUintB, if_neg (dd_ne _)]
    rw [show (2 ^ 64 - 1 : Nat) = 18446744073709551615 by decide, hp]
    simp only [not_true, false_and, if_false, true_and]
    rw [if_neg (by omega)]
    congr 1; omega
  · rename_i hn
    have hp := pum_dd n.toNat (by omega)
    have hne := dd_ne n.toNat
    cases hl : Lib.decDigits n.toNat with
    | nil => exact (hne hl).elim
    | cons c r =>
      have hc := dd_dig n.toNat c (by rw [hl]; simp)
      rw [hl] at hp
      unfold Lib.parseIntB
      simp only [show ¬ (c.toNat = 43 ∨ c.toNat = 45) by omega, if_false, Lib.parseUintB, if_neg (List.cons_ne_nil c r)]
      rw [show (2 ^ 64 - 1 : Nat) = 18446744073709551615 by decide, hp]
      simp only [show ¬ c.toNat = 45 by omega, not_false_eq_true, true_and, false_and, if_false]
      rw [if_neg (by omega)]
      congr 1; omega
theorem itoa_inj {a b : Int} (ha : inK .i64 a) (hb : inK .i64 b) (h : Lib.itoa a = Lib.itoa b) : a = b := by
  have h1 := parse_itoa ha
  rw [h, parse_itoa hb] at h1
  simpa using h1.symm

/-- A text's words: what stands between blanks. -/
def wordsA (cur : List UInt8) : List UInt8 → List (List UInt8)
  | [] => [cur]
  | c :: l => if c = 32 then cur :: wordsA [] l else wordsA (cur ++ [c]) l
theorem wordsA_no {cur l : List UInt8} (h : ∀ c, c ∈ l → c ≠ 32) : wordsA cur l = [cur ++ l] := by
  induction l generalizing cur with
  | nil => simp [wordsA]
  | cons c l ih => rw [wordsA, if_neg (h c (by simp)), ih fun x hx => h x (by simp [hx])]; simp
theorem wordsA_at {cur a l : List UInt8} (h : ∀ c, c ∈ a → c ≠ 32) : wordsA cur (a ++ 32 :: l) = (cur ++ a) :: wordsA [] l := by
  induction a generalizing cur with
  | nil => simp [wordsA]
  | cons c a ih => rw [List.cons_append, wordsA, if_neg (h c (by simp)), ih fun x hx => h x (by simp [hx])]; simp
theorem split_words (l : List UInt8) : Lib.split l [32] = wordsA [] l := by
  have key : ∀ (f : Nat) (l : List UInt8), l.length < f → Lib.splitK [32] 0 (Lib.countFrom [32] f l) l = wordsA [] l := by
    intro f
    induction f with
    | zero => intro l hl; omega
    | succ f ih =>
      intro l hl
      unfold Lib.countFrom
      by_cases hm : (32 : UInt8) ∈ l
      · obtain ⟨a, b, rfl, ha⟩ : ∃ a b, l = a ++ 32 :: b ∧ ∀ c, c ∈ a → c ≠ 32 := by
          obtain ⟨a, b, h1, h2⟩ := List.append_of_mem hm |> fun _ => List.eq_append_cons_of_mem hm
          exact ⟨a, b, h1, fun c hc e => h2 (e ▸ hc)⟩
        have hi : Lib.index (a ++ 32 :: b) [32] = (a.length : Int) := by
          clear hm hl ih
          induction a with
          | nil => simp [Lib.index]
          | cons c a iha =>
            have hc := ha c (by simp)
            have ih2 := iha fun x hx => ha x (by simp [hx])
            rw [List.cons_append, Lib.index]
            rw [if_neg (by simp [Ne.symm hc]), ih2, if_neg (by simp)]
            simp
        rw [hi, if_neg (by simp)]
        rw [Nat.add_comm 1, Lib.splitK, hi, if_neg (by simp)]
        rw [wordsA_at ha]
        have e1 : ((a ++ 32 :: b).take ((a.length : Int).toNat + 0)) = a := by simp
        have e2 : ((a ++ 32 :: b).drop ((a.length : Int).toNat + [(32 : UInt8)].length)) = b := by simp
        rw [e1, e2, ih b (by simp at hl; omega)]
        rfl
      · have hi : Lib.index l [32] = -1 := by
          clear ih hl
          induction l with
          | nil => rfl
          | cons c l ihl =>
            have hc : (32 : UInt8) ≠ c := fun e => hm (by simp [e])
            have ih2 := ihl fun e => hm (by simp [e])
            rw [Lib.index, if_neg (by simp [hc]), ih2]; rfl
        rw [hi, if_pos (by decide), Lib.splitK, wordsA_no fun c hc e => hm (e ▸ hc)]
        rfl
  exact key (l.length + 1) l (by omega)
end Go.Eng

/-
  Plain laws of layer 32: numerals, trimmed rows, a line.
-/
namespace Go.Eng
open Go

/-- Digits, none of nought. -/
def dd0 (u : Nat) : List UInt8 := if u = 0 then [] else Lib.decDigits u
theorem dd0_step {u : Nat} (h : u ≠ 0) : dd0 u = dd0 (u / 10) ++ [UInt8.ofNat (48 + u % 10)] := by
  unfold dd0
  rw [if_neg h]
  conv => lhs; rw [Lib.decDigits]
  split
  · rw [if_pos (by omega), show u % 10 = u by omega]; rfl
  · rw [if_neg (by omega)]
theorem itoa_neg {n : Int} (h : n < 0) : Lib.itoa n = 45 :: dd0 n.natAbs := by
  unfold Lib.itoa dd0; rw [if_pos h, if_neg (by omega)]
theorem itoa_pos {n : Int} (h : 0 ≤ n) : Lib.itoa n = Lib.decDigits n.toNat := by
  unfold Lib.itoa; rw [if_neg (by omega)]
theorem itoa_small {n : Int} (h : 0 ≤ n) (h1 : n < 10) : Lib.itoa n = [UInt8.ofNat (48 + n.toNat)] := by
  rw [itoa_pos h, Lib.decDigits, dif_pos (by omega)]
theorem itoa_step {n : Int} (h : 10 ≤ n) : Lib.itoa n = Lib.itoa (n / 10) ++ Lib.itoa (n % 10) := by
  rw [itoa_pos (n := n) (by omega), itoa_pos (n := n / 10) (by omega), itoa_small (n := n % 10) (by omega) (by omega), Lib.decDigits, dif_neg (by omega)]
  rw [show (n / 10).toNat = n.toNat / 10 by omega, show (n % 10).toNat = n.toNat % 10 by omega]
theorem dd_len : ∀ (k u : Nat), u < 10 ^ (k + 1) → (Lib.decDigits u).length ≤ k + 1
  | 0, u, h => by rw [Lib.decDigits, dif_pos (by simpa using h)]; simp
  | k + 1, u, h => by
    rw [Lib.decDigits]
    split
    · simp
    · have := dd_len k (u / 10) (by rw [Nat.pow_succ] at h; omega)
      rw [List.length_append, List.length_singleton]; omega
theorem itoa_len {n : Int} (h : inK .i64 n) : (Lib.itoa n).length ≤ 20 := by
  simp only [inK] at h
  have hp : (10 : Nat) ^ 19 = 10000000000000000000 := by decide
  unfold Lib.itoa
  split
  · have := dd_len 18 n.natAbs (by rw [hp]; omega)
    rw [List.length_cons]; omega
  · have := dd_len 18 n.toNat (by rw [hp]; omega)
    omega

/-- Numbers as words, each with a blank ahead. -/
def numsB (xs : List Int) : List UInt8 := xs.flatMap fun n => 32 :: Lib.itoa n
theorem numsB_snoc (xs : List Int) (n : Int) : numsB (xs ++ [n]) = numsB xs ++ (32 :: Lib.itoa n) := by simp [numsB]
theorem numsB_cons (n : Int) (xs : List Int) : numsB (n :: xs) = 32 :: (Lib.itoa n ++ numsB xs) := by simp [numsB]
theorem numsB_len : ∀ {xs : List Int}, (∀ x, x ∈ xs → inK .i64 x) → (numsB xs).length ≤ 21 * xs.length
  | [], _ => by simp [numsB]
  | x :: xs, h => by
    have h1 := itoa_len (h x (by simp))
    have h2 := numsB_len (xs := xs) fun y hy => h y (by simp [hy])
    rw [numsB_cons, List.length_cons, List.length_append, List.length_cons]; omega

/-- How many of the first m numbers stay when noughts behind them are cut off. -/
def tz (p : List Int) : Nat → Nat
  | 0 => 0
  | m + 1 => if pg p m = 0 then tz p m else m + 1
theorem tz_le (p : List Int) : ∀ m, tz p m ≤ m
  | 0 => Nat.le_refl _
  | m + 1 => by unfold tz; split; exact Nat.le_succ_of_le (tz_le p m); exact Nat.le_refl _
theorem tz_stop {p : List Int} {m : Nat} (h : pg p m ≠ 0) : tz p (m + 1) = m + 1 := by unfold tz; rw [if_neg h]
theorem tz_cut {p : List Int} {m : Nat} (h : pg p m = 0) : tz p (m + 1) = tz p m := by conv => lhs; unfold tz; rw [if_pos h]
theorem tz_zero {p : List Int} : ∀ {m j : Nat}, tz p m ≤ j → j < m → pg p j = 0
  | 0, _, _, h => by omega
  | m + 1, j, h, hj => by
    unfold tz at h
    split at h
    · rename_i h0
      by_cases e : j = m
      · subst e; exact h0
      · exact tz_zero h (by omega)
    · omega

def nameT : List (List UInt8) := [[], [97, 99, 99, 111, 117, 110, 116], [108, 105, 109, 105, 116], [113, 117, 111, 116, 101], [111, 114, 100, 101, 114], [102, 105, 108, 108], [99, 97, 110, 99, 101, 108], [115, 110, 97, 112]]
/-- A kind's name. -/
def nameB (k : Int) : List UInt8 := if 1 ≤ k ∧ k < 8 then nameT.getD k.toNat [] else [63]
theorem nameB_at {k : Nat} {s : List UInt8} (h : nameT[k]? = some s) (h1 : 1 ≤ k) : nameB k = s := by
  have : k < 8 := (List.getElem?_eq_some_iff.1 h).1
  unfold nameB; rw [if_pos (by omega), Int.toNat_natCast, List.getD, h]; rfl
theorem nameB_no {k : Int} (h : ¬ (1 ≤ k ∧ k < 8)) : nameB k = [63] := by unfold nameB; rw [if_neg h]
theorem nameB_ok (k : Int) : (nameB k).length ≤ 7 ∧ ∀ c, c ∈ nameB k → c ≠ 32 := by
  by_cases h : 1 ≤ k ∧ k < 8
  · obtain ⟨j, rfl⟩ : ∃ j : Nat, k = j := ⟨k.toNat, by omega⟩
    obtain ⟨h1, h2⟩ := h
    have : j = 1 ∨ j = 2 ∨ j = 3 ∨ j = 4 ∨ j = 5 ∨ j = 6 ∨ j = 7 := by omega
    rcases this with rfl | rfl | rfl | rfl | rfl | rfl | rfl <;> decide
  · rw [nameB_no h]; decide
/-- An event's line; an event: seven numbers. -/
def printB (p : List Int) : List UInt8 := nameB (pg p 0) ++ numsB (p.take (tz p 7))
theorem printB_len {p : List Int} (h : ∀ x, x ∈ p → inK .i64 x) : (printB p).length ≤ 154 := by
  have h1 := (nameB_ok (pg p 0)).1
  have h2 := numsB_len (xs := p.take (tz p 7)) fun x hx => h x (List.mem_of_mem_take hx)
  have h3 := tz_le p 7
  have h4 : (p.take (tz p 7)).length ≤ tz p 7 := List.length_take_le _ _
  unfold printB; rw [List.length_append]; omega
theorem itoa_blank {n : Int} {c : UInt8} (h : c ∈ Lib.itoa n) : c ≠ 32 := by
  rintro rfl
  have h32 : (32 : UInt8).toNat = 32 := rfl
  have := itoa_no h; omega
theorem wordsA_app {a l cur : List UInt8} (h : ∀ c, c ∈ a → c ≠ 32) : wordsA cur (a ++ l) = wordsA (cur ++ a) l := by
  induction a generalizing cur with
  | nil => simp
  | cons c a ih => rw [List.cons_append, wordsA, if_neg (h c (by simp)), ih fun x hx => h x (by simp [hx])]; simp
theorem wordsA_nums : ∀ {xs : List Int} {cur : List UInt8}, wordsA cur (numsB xs) = cur :: xs.map Lib.itoa
  | [], cur => rfl
  | x :: xs, cur => by
    rw [numsB_cons, wordsA, if_pos rfl, wordsA_app (fun c hc => itoa_blank hc), wordsA_nums]; simp
theorem words_print (p : List Int) : wordsA [] (printB p) = nameB (pg p 0) :: (p.take (tz p 7)).map Lib.itoa := by
  unfold printB
  rw [wordsA_app (nameB_ok _).2, wordsA_nums]; rfl
end Go.Eng

/-
  Plain laws of layer 32: words as numbers, a line as an event.
-/
namespace Go.Eng
open Go

/-- What digits spell. -/
def valS (a : Nat) (c : UInt8) : Nat := 10 * a + (c.toNat - 48)
def valA (a : Nat) (l : List UInt8) : Nat := l.foldl valS a
def valP (l : List UInt8) : Nat := valA 0 l
theorem valA_app (a : Nat) (l m : List UInt8) : valA a (l ++ m) = valA (valA a l) m := List.foldl_append
theorem valP_snoc (l : List UInt8) (c : UInt8) : valP (l ++ [c]) = 10 * valP l + (c.toNat - 48) := by unfold valP; rw [valA_app]; rfl
theorem valA_le (l : List UInt8) : ∀ a : Nat, a ≤ valA a l := by
  induction l with
  | nil => exact fun a => Nat.le_refl a
  | cons c l ih =>
    intro a
    have h1 := ih (valS a c)
    have h2 : a ≤ valS a c := by unfold valS; omega
    exact Nat.le_trans h2 h1
theorem valP_take (l : List UInt8) (i : Nat) : valP (l.take i) ≤ valP l := by
  conv => rhs; rw [← List.take_append_drop i l]
  unfold valP; rw [valA_app]; exact valA_le _ _
theorem valP_dd (u : Nat) : valP (Lib.decDigits u) = u := by
  induction u using Nat.strongRecOn with
  | _ u ih =>
    have e : ∀ d, d < 10 → (UInt8.ofNat (48 + d)).toNat - 48 = d := fun d hd => by rw [UInt8.toNat_ofNat']; omega
    rw [Lib.decDigits]
    split
    · rename_i h
      rw [show valP [UInt8.ofNat (48 + u)] = 10 * 0 + ((UInt8.ofNat (48 + u)).toNat - 48) from rfl, e u h]; omega
    · rename_i h
      rw [valP_snoc, ih (u / 10) (by omega), e (u % 10) (by omega)]; omega
/-- A numeral's sign and digits. -/
def isNeg (w : List UInt8) : Bool := decide (w.head? = some 45)
def sOf (w : List UInt8) : List UInt8 := if isNeg w then w.tail else w
theorem dd_head (u : Nat) : ∃ c l, Lib.decDigits u = c :: l ∧ c ≠ 45 := by
  cases h : Lib.decDigits u with
  | nil => exact (dd_ne u h).elim
  | cons c l =>
    have := dd_dig u c (by rw [h]; simp)
    exact ⟨c, l, rfl, by rintro rfl; have h45 : (45 : UInt8).toNat = 45 := rfl; omega⟩
theorem of_itoa {m : Int} {w : List UInt8} (h : Lib.itoa m = w) : isNeg w = decide (m < 0) ∧ sOf w = Lib.decDigits m.natAbs := by
  subst h
  obtain ⟨c, l, hc, h45⟩ := dd_head m.toNat
  by_cases hm : m < 0
  · have e : Lib.itoa m = 45 :: Lib.decDigits m.natAbs := by unfold Lib.itoa; rw [if_pos hm]
    have hn : isNeg (Lib.itoa m) = true := by unfold isNeg; rw [e]; simp
    exact ⟨by rw [hn, decide_eq_true hm], by unfold sOf; rw [hn, e]; rfl⟩
  · have e : Lib.itoa m = Lib.decDigits m.toNat := itoa_pos (by omega)
    have hn : isNeg (Lib.itoa m) = false := by unfold isNeg; rw [e, hc]; simp [h45]
    exact ⟨by rw [hn, decide_eq_false hm], by unfold sOf; rw [hn, e, show m.natAbs = m.toNat by omega]; rfl⟩
/-- A word as a number, by ParseInt; by the document, that takes it only as it is printed. -/
def pnum (w : List UInt8) : Option Int := match Lib.parseIntB 64 w with
  | .ok n => some n
  | _ => none
def cnum (w : List UInt8) : Option Int := match pnum w with
  | some n => if Lib.itoa n = w then some n else none
  | none => none
theorem pnum_in {w : List UInt8} {n : Int} (h : pnum w = some n) : inK .i64 n := by
  unfold pnum at h
  split at h
  · rename_i v hv
    simp only [Option.some.injEq] at h; subst h
    unfold Lib.parseIntB at hv
    split at hv
    · cases hv
    · simp only at hv
      have e63 : (2 : Nat) ^ (64 - 1) = 9223372036854775808 := by decide
      rw [e63] at hv
      split at hv
      · cases hv
      · cases hv
      · split at hv
        · cases hv
        · split at hv
          · cases hv
          · simp only [Lib.NumEnd.ok.injEq] at hv
            simp only [inK]
            split at hv <;> omega
  · cases h
theorem pnum_itoa {n : Int} (h : inK .i64 n) : pnum (Lib.itoa n) = some n := by unfold pnum; rw [parse_itoa h]
theorem cnum_itoa {n : Int} (h : inK .i64 n) : cnum (Lib.itoa n) = some n := by unfold cnum; rw [pnum_itoa h]; simp
theorem cnum_some {w : List UInt8} {n : Int} (h : cnum w = some n) : inK .i64 n ∧ Lib.itoa n = w ∧ pnum w = some n := by
  unfold cnum at h
  split at h
  · rename_i v hv
    split at h
    · rename_i he
      simp only [Option.some.injEq] at h; subst h
      exact ⟨pnum_in hv, he, hv⟩
    · cases h
  · cases h
theorem cnum_none {w : List UInt8} (h : ∀ m, inK .i64 m → Lib.itoa m ≠ w) : cnum w = none := by
  cases hc : cnum w with
  | none => rfl
  | some n => obtain ⟨h1, h2, -⟩ := cnum_some hc; exact (h n h1 h2).elim

/-- All words, or none. -/
def allW (f : List UInt8 → Option Int) : List (List UInt8) → Option (List Int)
  | [] => some []
  | w :: ws => match f w with
    | some n => (allW f ws).map (n :: ·)
    | none => none
theorem allW_snoc (f : List UInt8 → Option Int) (w : List UInt8) : ∀ (ws : List (List UInt8)) {ns : List Int}, allW f ws = some ns → allW f (ws ++ [w]) = (f w).map fun n => ns ++ [n]
  | [], ns, h => by
    simp only [allW, Option.some.injEq] at h; subst h
    cases hf : f w <;> simp [allW, hf]
  | v :: ws, ns, h => by
    simp only [allW] at h
    split at h
    · rename_i n hn
      cases ha : allW f ws with
      | none => rw [ha] at h; cases h
      | some ms =>
        rw [ha] at h
        simp only [Option.map_some, Option.some.injEq] at h; subst h
        rw [List.cons_append, allW, hn]
        simp only
        rw [allW_snoc f w ws ha]
        cases f w <;> rfl
    · cases h
theorem allW_none (f : List UInt8 → Option Int) {w : List UInt8} (hw : f w = none) : ∀ {ws : List (List UInt8)}, w ∈ ws → allW f ws = none
  | [], h => by simp at h
  | v :: ws, h => by
    simp only [allW]
    rcases List.mem_cons.1 h with rfl | h
    · rw [hw]
    · rw [allW_none f hw h]; cases f v <;> rfl
theorem allW_len {f : List UInt8 → Option Int} : ∀ {ws : List (List UInt8)} {ns : List Int}, allW f ws = some ns → ns.length = ws.length
  | [], ns, h => by simp only [allW, Option.some.injEq] at h; subst h; rfl
  | v :: ws, ns, h => by
    simp only [allW] at h
    split at h
    · cases ha : allW f ws with
      | none => rw [ha] at h; cases h
      | some ms =>
        rw [ha] at h
        simp only [Option.map_some, Option.some.injEq] at h; subst h
        rw [List.length_cons, List.length_cons, allW_len ha]
    · cases h
theorem allW_in {f : List UInt8 → Option Int} (hf : ∀ w n, f w = some n → inK .i64 n) : ∀ {ws : List (List UInt8)} {ns : List Int}, allW f ws = some ns → ∀ x, x ∈ ns → inK .i64 x
  | [], ns, h => by simp only [allW, Option.some.injEq] at h; subst h; simp
  | v :: ws, ns, h => by
    simp only [allW] at h
    split at h
    · rename_i n hn
      cases ha : allW f ws with
      | none => rw [ha] at h; cases h
      | some ms =>
        rw [ha] at h
        simp only [Option.map_some, Option.some.injEq] at h; subst h
        intro x hx
        rcases List.mem_cons.1 hx with rfl | hx
        · exact hf v _ hn
        · exact allW_in hf ha x hx
    · cases h
theorem allW_c : ∀ {ws : List (List UInt8)} {ns : List Int}, allW cnum ws = some ns → allW pnum ws = some ns
  | [], ns, h => h
  | v :: ws, ns, h => by
    simp only [allW] at h ⊢
    split at h
    · rename_i n hn
      rw [(cnum_some hn).2.2]
      cases ha : allW cnum ws with
      | none => rw [ha] at h; cases h
      | some ms => rw [ha] at h; simp only; rw [allW_c ha]; exact h
    · cases h
theorem allW_itoa {f : List UInt8 → Option Int} (hf : ∀ n, inK .i64 n → f (Lib.itoa n) = some n) : ∀ {ns : List Int}, (∀ x, x ∈ ns → inK .i64 x) → allW f (ns.map Lib.itoa) = some ns
  | [], _ => rfl
  | n :: ns, h => by
    rw [List.map_cons, allW, hf n (h n (by simp))]
    simp only
    rw [allW_itoa hf fun x hx => h x (by simp [hx])]; rfl

/-- Seven numbers, noughts behind. -/
def pad7 (ns : List Int) : List Int := ns ++ List.replicate (7 - ns.length) 0
theorem pad7_len {ns : List Int} (h : ns.length ≤ 7) : (pad7 ns).length = 7 := by unfold pad7; rw [List.length_append, List.length_replicate]; omega
theorem pad7_in {ns : List Int} (h : ∀ x, x ∈ ns → inK .i64 x) : ∀ x, x ∈ pad7 ns → inK .i64 x := by
  intro x hx
  unfold pad7 at hx
  rcases List.mem_append.1 hx with hx | hx
  · exact h x hx
  · have := (List.mem_replicate.1 hx).2; subst this; simp [inK]
theorem pad7_tz {p : List Int} (h : p.length = 7) : pad7 (p.take (tz p 7)) = p := by
  have h3 := tz_le p 7
  apply List.ext_getElem?
  intro j
  unfold pad7
  have hl : (p.take (tz p 7)).length = tz p 7 := by rw [List.length_take]; omega
  by_cases hj : j < tz p 7
  · rw [List.getElem?_append_left (by omega), List.getElem?_take_of_lt hj]
  · rw [List.getElem?_append_right (by omega), hl, List.getElem?_replicate]
    by_cases h7 : j < 7
    · rw [if_pos (by omega)]
      have h0 := tz_zero (p := p) (m := 7) (j := j) (by omega) h7
      unfold pg at h0
      rw [List.getD_eq_getElem?_getD, List.getElem?_eq_getElem (by omega)] at h0
      rw [List.getElem?_eq_getElem (by omega)]
      exact congrArg some h0.symm
    · rw [if_neg (by omega), List.getElem?_eq_none (by omega)]
def zero7 : List Int := [0, 0, 0, 0, 0, 0, 0]
/-- A line's event, and the error. -/
def lineB (f : List UInt8 → Option Int) (line : List UInt8) : List Int × Int :=
  if line = [] then (zero7, 7) else
  if 7 < (wordsA [] line).tail.length then (zero7, 3) else
  match allW f (wordsA [] line).tail with
  | none => (zero7, 3)
  | some ns => if printB (pad7 ns) = line then (pad7 ns, 0) else (zero7, 3)
theorem line_print {f : List UInt8 → Option Int} (hf : ∀ n, inK .i64 n → f (Lib.itoa n) = some n) {p : List Int} (hl : p.length = 7) (hp : ∀ x, x ∈ p → inK .i64 x) : lineB f (printB p) = (p, 0) := by
  have hne : printB p ≠ [] := by
    intro e
    have := words_print p
    rw [e] at this
    have h2 : wordsA [] [] = [[]] := rfl
    rw [h2] at this
    have h3 : nameB (pg p 0) = [] := by injection this with h _; exact h.symm
    by_cases h : 1 ≤ pg p 0 ∧ pg p 0 < 8
    · obtain ⟨j, hj⟩ : ∃ j : Nat, pg p 0 = j := ⟨(pg p 0).toNat, by omega⟩
      rw [hj] at h3 h
      have : j = 1 ∨ j = 2 ∨ j = 3 ∨ j = 4 ∨ j = 5 ∨ j = 6 ∨ j = 7 := by omega
      rcases this with rfl | rfl | rfl | rfl | rfl | rfl | rfl <;> exact absurd h3 (by decide)
    · rw [nameB_no h] at h3; cases h3
  have h3 := tz_le p 7
  unfold lineB
  rw [if_neg hne, words_print, List.tail_cons, if_neg (by rw [List.length_map, List.length_take]; omega), allW_itoa hf fun x hx => hp x (List.mem_of_mem_take hx)]
  simp only
  rw [pad7_tz hl, if_pos rfl]
theorem line_cases (f : List UInt8 → Option Int) (line : List UInt8) : (∃ p, lineB f line = (p, 0) ∧ ∃ ns, allW f (wordsA [] line).tail = some ns ∧ ns.length ≤ 7 ∧ p = pad7 ns ∧ printB p = line) ∨ lineB f line = (zero7, if line = [] then 7 else 3) := by
  unfold lineB
  by_cases h0 : line = []
  · right; rw [if_pos h0, if_pos h0]
  · rw [if_neg h0, if_neg h0]
    by_cases h7 : 7 < (wordsA [] line).tail.length
    · right; rw [if_pos h7]
    · rw [if_neg h7]
      cases ha : allW f (wordsA [] line).tail with
      | none => right; rfl
      | some ns =>
        simp only
        by_cases hp : printB (pad7 ns) = line
        · left; exact ⟨pad7 ns, by rw [if_pos hp], ns, rfl, by rw [allW_len ha]; omega, rfl, hp⟩
        · right; rw [if_neg hp]
theorem line_same (line : List UInt8) : lineB pnum line = lineB cnum line := by
  rcases line_cases pnum line with ⟨p, h1, ns, ha, hl, rfl, hp⟩ | h1
  · have hin := pad7_in (allW_in (fun w n h => pnum_in h) ha)
    have := line_print (f := cnum) (fun n h => cnum_itoa h) (pad7_len hl) hin
    rw [hp] at this
    rw [h1, this]
  · rcases line_cases cnum line with ⟨p, h2, ns, ha, hl, rfl, hp⟩ | h2
    · have hin := pad7_in (allW_in (fun w n h => (cnum_some h).1) ha)
      have := line_print (f := pnum) (fun n h => pnum_itoa h) (pad7_len hl) hin
      rw [hp] at this
      rw [h2, this]
    · rw [h1, h2]
end Go.Eng

/-
  Plain laws of layer 10: names of files, their numbers.
-/
namespace Go.Eng
open Go

/-- A file's name: a letter, a number's digits. -/
def nmB (c : UInt8) (n : Int) : List UInt8 := if 0 ≤ n ∧ n ≤ 1099511627776 then c :: Lib.itoa n else []
/-- The number that some bytes spell, if they are a number's digits. -/
def numS (l : List UInt8) : Option Nat := if Lib.decDigits (valP l) = l ∧ valP l ≤ 1099511627776 then some (valP l) else none
theorem canon : ∀ (k : Nat) (l : List UInt8), l.length = k → l ≠ [] → (∀ c, c ∈ l → 48 ≤ c.toNat ∧ c.toNat ≤ 57) → (l.length = 1 ∨ l.head? ≠ some 48) → Lib.decDigits (valP l) = l
  | 0, l, hk, h0, _, _ => absurd (List.length_eq_zero_iff.1 hk) h0
  | k + 1, l, hk, h0, hd, hz => by
    obtain ⟨xs, c, rfl⟩ : ∃ xs c, l = xs ++ [c] := ⟨l.dropLast, l.getLast h0, (List.dropLast_concat_getLast h0).symm⟩
    have hc := hd c (by simp)
    have hcc : UInt8.ofNat (48 + (c.toNat - 48)) = c := by rw [show 48 + (c.toNat - 48) = c.toNat by omega]; simp
    rw [valP_snoc]
    by_cases hx : xs = []
    · subst hx
      rw [Lib.decDigits, dif_pos (by simp [valP, valA]; omega)]
      simp only [valP, valA, List.foldl_nil, Nat.mul_zero, Nat.zero_add, List.nil_append]
      rw [hcc]
    · have hp := List.length_pos_iff.2 hx
      have hh : xs.head? ≠ some 48 := by
        rcases hz with hz | hz
        · simp at hz; exact absurd hz hx
        · rw [List.head?_append] at hz
          cases xs with
          | nil => exact absurd rfl hx
          | cons x xs => simpa using hz
      have ih := canon k xs (by simp at hk; omega) hx (fun d hd' => hd d (by simp [hd'])) (.inr hh)
      have hv : valP xs ≠ 0 := by
        intro e
        rw [e, Lib.decDigits, dif_pos (by decide)] at ih
        rw [← ih] at hh
        exact hh rfl
      rw [Lib.decDigits, dif_neg (by omega), show (10 * valP xs + (c.toNat - 48)) / 10 = valP xs by omega, show (10 * valP xs + (c.toNat - 48)) % 10 = c.toNat - 48 by omega, ih, hcc]
theorem numS_dec {u : Nat} (h : u ≤ 1099511627776) : numS (Lib.decDigits u) = some u := by
  unfold numS; rw [valP_dd, if_pos ⟨rfl, h⟩]
theorem numS_some {l : List UInt8} {u : Nat} (h : numS l = some u) : Lib.decDigits u = l ∧ u ≤ 1099511627776 ∧ u = valP l := by
  unfold numS at h
  split at h
  · rename_i h1; cases h; exact ⟨h1.1, h1.2, rfl⟩
  · cases h
theorem dd_canon (u : Nat) : (∀ c, c ∈ Lib.decDigits u → 48 ≤ c.toNat ∧ c.toNat ≤ 57) ∧ Lib.decDigits u ≠ [] ∧ ((Lib.decDigits u).length = 1 ∨ (Lib.decDigits u).head? ≠ some 48) := by
  induction u using Nat.strongRecOn with
  | _ u ih =>
    by_cases h : u < 10
    · rw [Lib.decDigits, dif_pos h]
      refine ⟨fun c hc => ?_, by simp, .inl rfl⟩
      rw [List.mem_singleton] at hc; subst hc
      rw [UInt8.toNat_ofNat']; omega
    · obtain ⟨h1, h2, h3⟩ := ih (u / 10) (by omega)
      rw [Lib.decDigits, dif_neg h]
      refine ⟨fun c hc => ?_, by simp, .inr ?_⟩
      · rcases List.mem_append.1 hc with hc | hc
        · exact h1 c hc
        · rw [List.mem_singleton] at hc; subst hc
          rw [UInt8.toNat_ofNat']; omega
      · rw [List.head?_append]
        have hne : (Lib.decDigits (u / 10)).head? ≠ some 48 := by
          rcases h3 with h3 | h3
          · intro e
            obtain ⟨c, hc⟩ : ∃ c, Lib.decDigits (u / 10) = [c] := List.length_eq_one_iff.1 h3
            have hv := valP_dd (u / 10)
            rw [hc] at hv e
            simp at e; subst e
            have : valP [48] = 0 := rfl
            omega
          · exact h3
        cases hd : Lib.decDigits (u / 10) with
        | nil => exact absurd hd h2
        | cons c l => rw [hd] at hne; simpa using hne
/-- Bytes that are digits, none ahead in vain, and whose number isn't too great, are a number's. -/
theorem numS_ok {l : List UInt8} (h0 : l ≠ []) (hd : ∀ c, c ∈ l → 48 ≤ c.toNat ∧ c.toNat ≤ 57) (hz : l.length = 1 ∨ l.head? ≠ some 48) (hm : valP l ≤ 1099511627776) : numS l = some (valP l) := by
  unfold numS; rw [if_pos ⟨canon l.length l rfl h0 hd hz, hm⟩]
theorem numS_digit {l : List UInt8} {u : Nat} (h : numS l = some u) {c : UInt8} (hc : c ∈ l) : 48 ≤ c.toNat ∧ c.toNat ≤ 57 := by
  obtain ⟨h1, -, -⟩ := numS_some h
  rw [← h1] at hc
  exact (dd_canon u).1 c hc
theorem numS_lead {l : List UInt8} {u : Nat} (h : numS l = some u) : l ≠ [] ∧ (l.length = 1 ∨ l.head? ≠ some 48) := by
  obtain ⟨h1, -, -⟩ := numS_some h
  rw [← h1]
  exact (dd_canon u).2
/-- A name's kind, its number. -/
def headsB : List UInt8 := [104, 101, 97, 100, 115]
def kindB (s : List UInt8) : Int × Int × Bool :=
  if s = headsB then (3, 0, true) else match s with
  | [] => (0, 0, false)
  | c :: l => match numS l with
    | some u => if c = 115 then (1, u, true) else if c = 99 then (2, u, true) else (0, 0, false)
    | none => (0, 0, false)
end Go.Eng

/-
  Engine, part 36: what is owed, by the usual ways; numbers as cells.
-/
import Derived.Test.YtgkphfipielnhaaDoorM2
import Derived.KernelRfl
/-
  Engine, part 36: what is owed, by the usual ways; numbers as cells.
-/
namespace Go.Eng
open Go

/-- Numbers as cells. -/
def i64s (xs : List Int) : List Value := xs.map (Value.int .i64)
theorem i64s_get {xs : List Int} {j : Nat} {x : Int} (h : xs[j]? = some x) : (i64s xs)[j]? = some (.int .i64 x) := by simp [i64s, h]
theorem i64s_len (xs : List Int) : (i64s xs).length = xs.length := by simp [i64s]
theorem i64s_one (xs : List Int) : ∀ v, v ∈ i64s xs → v.oneCell' = true := by
  intro v hv; simp only [i64s, List.mem_map] at hv; obtain ⟨x, -, rfl⟩ := hv; rfl

/-- What is owed, by the usual ways. -/
theorem oK {p : Prop} (h : p := by (repeat' apply And.intro) <;> first | exact True.intro | assumption | omega | (simp only [inK]; omega) | (simp only [decide_eq_true_eq, decide_eq_false_iff_not]; first | assumption | omega) | rfl | (simp; done) | (simp; omega) | (simp [Value.oneCell']; done) | exact i64s_one _ | exact AggOk.mk (by kernel_rfl) (by kernel_rfl)) : p := h
theorem s1 {k : IntKind} {a b : Int} (h : a = b) : some (Value.int k a) = some (Value.int k b) := by rw [h]
theorem s2 {a : Option Addr} {n m cap : Nat} (h : n = m) : some (Value.slice a n cap) = some (Value.slice a m cap) := by rw [h]
end Go.Eng

/-
  Plain laws of layer 5's document: numbers as rows of digits.
-/
namespace Go.Eng
open Go

def vl : List Nat → Nat
  | [] => 0
  | d :: l => d + 10000 * vl l
def dg (n : Nat) : List Nat := if h : n = 0 then [] else n % 10000 :: dg (n / 10000)
termination_by n
decreasing_by omega
theorem dg0 : dg 0 = [] := by rw [dg]; simp
theorem dgS {n : Nat} (h : n ≠ 0) : dg n = n % 10000 :: dg (n / 10000) := by rw [dg]; simp [h]
def Dig (l : List Nat) : Prop := ∀ d, d ∈ l → d < 10000
theorem vl_dg (n : Nat) : vl (dg n) = n := by
  induction n using Nat.strongRecOn with
  | _ n ih =>
    by_cases h : n = 0
    · subst h; rw [dg0]; rfl
    · rw [dgS h, vl, ih _ (by omega)]; omega
theorem dg_dig (n : Nat) : Dig (dg n) := by
  induction n using Nat.strongRecOn with
  | _ n ih =>
    by_cases h : n = 0
    · subst h; rw [dg0]; intro d hd; cases hd
    · rw [dgS h]; intro d hd
      rcases List.mem_cons.1 hd with rfl | hd
      · omega
      · exact ih _ (by omega) d hd
theorem vl_lt : ∀ {l : List Nat}, Dig l → vl l < 10000 ^ l.length
  | [], _ => by simp [vl]
  | d :: l, h => by
    have h1 := vl_lt (l := l) fun x hx => h x (by simp [hx])
    have h2 := h d (by simp)
    rw [vl, List.length_cons, Nat.pow_succ]; omega
theorem dg_nil {n : Nat} : dg n = [] ↔ n = 0 := by
  constructor
  · intro h; have := vl_dg n; rw [h] at this; exact this.symm
  · rintro rfl; exact dg0
/-- What is cut of a row: noughts. -/
theorem dg_trim : ∀ {l : List Nat}, Dig l → ∃ k, l = dg (vl l) ++ List.replicate k 0
  | [], _ => ⟨0, by rw [vl, dg0]; rfl⟩
  | d :: l, h => by
    obtain ⟨k, hk⟩ := dg_trim (l := l) fun x hx => h x (by simp [hx])
    have hd := h d (by simp)
    by_cases h0 : vl (d :: l) = 0
    · have h1 : d = 0 := by rw [vl] at h0; omega
      have h2 : vl l = 0 := by rw [vl] at h0; omega
      rw [h0, dg0]
      rw [h2, dg0] at hk
      exact ⟨k + 1, by rw [h1, List.replicate_succ, List.nil_append]; congr 1⟩
    · rw [dgS h0]
      have e1 : vl (d :: l) % 10000 = d := by rw [vl]; omega
      have e2 : vl (d :: l) / 10000 = vl l := by rw [vl]; omega
      rw [e1, e2]
      exact ⟨k, by rw [List.cons_append, ← hk]⟩
theorem dg_last {n : Nat} : ∀ {x : Nat}, (dg n)[(dg n).length - 1]? = some x → x ≠ 0 := by
  induction n using Nat.strongRecOn with
  | _ n ih =>
    intro x hx
    by_cases h : n = 0
    · subst h; rw [dg0] at hx; cases hx
    · rw [dgS h] at hx
      by_cases h2 : n / 10000 = 0
      · rw [h2, dg0] at hx
        simp at hx; omega
      · have h3 : dg (n / 10000) ≠ [] := fun e => h2 (dg_nil.1 e)
        obtain ⟨k, hk⟩ : ∃ k, (dg (n / 10000)).length = k + 1 := ⟨(dg (n / 10000)).length - 1, by have := List.length_pos_iff.2 h3; omega⟩
        rw [List.length_cons, hk, Nat.add_sub_cancel, List.getElem?_cons_succ] at hx
        exact ih (n / 10000) (by omega) (by rw [hk]; exact hx)
theorem dg_len {n k : Nat} (h : n < 10000 ^ k) : (dg n).length ≤ k := by
  induction k generalizing n with
  | zero => have : n = 0 := by simpa using h
            subst this; rw [dg0]; simp
  | succ k ih =>
    by_cases h0 : n = 0
    · subst h0; rw [dg0]; simp
    · rw [dgS h0, List.length_cons]
      have := ih (n := n / 10000) (by rw [Nat.pow_succ] at h; omega)
      omega

/-- A digit. -/
def atD (l : List Nat) (i : Nat) : Nat := l.getD i 0
theorem atD_lt {l : List Nat} (h : Dig l) (i : Nat) : atD l i < 10000 := by
  unfold atD
  rw [List.getD_eq_getElem?_getD]
  cases hx : l[i]? with
  | none => simp
  | some x => simpa using h x (List.mem_of_getElem? hx)
theorem atD_ge {l : List Nat} {i : Nat} (h : l.length ≤ i) : atD l i = 0 := by
  unfold atD; rw [List.getD_eq_getElem?_getD, List.getElem?_eq_none h]; rfl
theorem atD_some {l : List Nat} {i x : Nat} (h : l[i]? = some x) : atD l i = x := by
  unfold atD; rw [List.getD_eq_getElem?_getD, h]; rfl
theorem vl_snoc (l : List Nat) (d : Nat) : vl (l ++ [d]) = vl l + d * 10000 ^ l.length := by
  induction l with
  | nil => simp [vl]
  | cons x l ih => rw [List.cons_append, vl, ih, vl, List.length_cons, Nat.pow_succ]; rw [Nat.mul_add, ← Nat.mul_assoc, Nat.mul_comm 10000 d, Nat.mul_assoc, Nat.mul_comm 10000 (10000 ^ _)]; omega
theorem vl_take (l : List Nat) (i : Nat) : vl (l.take (i + 1)) = vl (l.take i) + atD l i * 10000 ^ i := by
  by_cases h : i < l.length
  · rw [List.take_add_one, List.getElem?_eq_getElem h, Option.toList_some, vl_snoc, List.length_take, Nat.min_eq_left (by omega), atD_some (List.getElem?_eq_getElem h)]
  · rw [atD_ge (by omega), List.take_of_length_le (by omega), List.take_of_length_le (by omega)]; omega
theorem vl_drop (l : List Nat) (i : Nat) : vl (l.drop i) = atD l i + 10000 * vl (l.drop (i + 1)) := by
  by_cases h : i < l.length
  · rw [List.drop_eq_getElem_cons h, vl, atD_some (List.getElem?_eq_getElem h)]
  · rw [atD_ge (by omega), List.drop_eq_nil_of_le (by omega), List.drop_eq_nil_of_le (by omega)]; rfl
theorem vl_app (a b : List Nat) : vl (a ++ b) = vl a + 10000 ^ a.length * vl b := by
  induction a with
  | nil => simp [vl]
  | cons x a ih => rw [List.cons_append, vl, ih, vl, List.length_cons, Nat.pow_succ, Nat.mul_add, Nat.mul_comm (10000 ^ _) 10000, Nat.mul_assoc]; omega
theorem vl_split (l : List Nat) (i : Nat) : vl l = vl (l.take i) + 10000 ^ i * vl (l.drop i) := by
  by_cases h : i ≤ l.length
  · conv => lhs; rw [← List.take_append_drop i l, vl_app, List.length_take, Nat.min_eq_left h]
  · rw [List.take_of_length_le (by omega), List.drop_eq_nil_of_le (by omega)]; simp [vl]
theorem dig_take {l : List Nat} (h : Dig l) (i : Nat) : Dig (l.take i) := fun d hd => h d (List.mem_of_mem_take hd)
theorem vl_take_lt {l : List Nat} (h : Dig l) (i : Nat) : vl (l.take i) < 10000 ^ i :=
  Nat.lt_of_lt_of_le (vl_lt (dig_take h i)) (Nat.pow_le_pow_right (by decide) (by rw [List.length_take]; omega))
/-- Two rows of digits that are alike above a place, and not there. -/
theorem vl_less {a b : List Nat} {i : Nat} (ha : Dig a) (he : vl (a.drop (i + 1)) = vl (b.drop (i + 1))) (hl : atD a i < atD b i) : vl a < vl b := by
  have h1 := vl_drop a i
  have h2 := vl_drop b i
  have h3 := vl_take_lt ha i
  have h4 : vl (a.drop i) + 1 ≤ vl (b.drop i) := by omega
  have h5 : 10000 ^ i * (vl (a.drop i) + 1) ≤ 10000 ^ i * vl (b.drop i) := Nat.mul_le_mul_left _ h4
  rw [Nat.mul_add] at h5
  have h6 := vl_split a i
  have h7 := vl_split b i
  omega
theorem vl_same {a b : List Nat} {i : Nat} (he : vl (a.drop (i + 1)) = vl (b.drop (i + 1))) (hl : atD a i = atD b i) : vl (a.drop i) = vl (b.drop i) := by
  rw [vl_drop a i, vl_drop b i, he, hl]

theorem less_iff {a b : List Nat} {i : Nat} (ha : Dig a) (hb : Dig b) (he : vl (a.drop (i + 1)) = vl (b.drop (i + 1))) (hn : atD a i ≠ atD b i) : ((atD a i : Int) < (atD b i : Int)) ↔ vl a < vl b := by
  constructor
  · intro h; exact vl_less ha he (by omega)
  · intro h
    by_cases h2 : atD a i < atD b i
    · omega
    · have := vl_less hb he.symm (by omega : atD b i < atD a i)
      omega
/-- The cells of digits. -/
def nc (l : List Nat) : List Value := l.map fun (d : Nat) => Value.int .i64 (d : Int)
theorem nc_len (l : List Nat) : (nc l).length = l.length := by simp [nc]
theorem nc_get {l : List Nat} {i x : Nat} (h : l[i]? = some x) : (nc l)[i]? = some (.int .i64 (x : Int)) := by simp [nc, h]
theorem nc_snoc (l : List Nat) (d : Nat) : nc (l ++ [d]) = nc l ++ [.int .i64 (d : Int)] := by simp [nc]
theorem nc_nil {l : List Nat} : nc l = [] ↔ l = [] := by simp [nc]
theorem nc_one (l : List Nat) : ∀ v, v ∈ nc l → v.oneCell' = true := by
  intro v hv; simp only [nc, List.mem_map] at hv; obtain ⟨x, -, rfl⟩ := hv; rfl

theorem add_step {a b o : List Nat} {i c : Nat} (ho : o.length = i) (h : vl o + 10000 ^ i * c = vl (a.take i) + vl (b.take i)) :
    vl (o ++ [(atD a i + atD b i + c) % 10000]) + 10000 ^ (i + 1) * ((atD a i + atD b i + c) / 10000) = vl (a.take (i + 1)) + vl (b.take (i + 1)) := by
  rw [vl_snoc, ho, vl_take a, vl_take b, Nat.pow_succ]
  have e : (atD a i + atD b i + c) % 10000 * 10000 ^ i + 10000 ^ i * 10000 * ((atD a i + atD b i + c) / 10000) = 10000 ^ i * (atD a i + atD b i + c) := by
    conv => rhs; rw [← Nat.mod_add_div (atD a i + atD b i + c) 10000]
    rw [Nat.mul_add, Nat.mul_comm _ (10000 ^ i), Nat.mul_assoc]
  have e2 : 10000 ^ i * (atD a i + atD b i + c) = atD a i * 10000 ^ i + atD b i * 10000 ^ i + 10000 ^ i * c := by
    rw [Nat.mul_add, Nat.mul_add, Nat.mul_comm _ (atD a i), Nat.mul_comm _ (atD b i)]
  omega
theorem add_end {a b o : List Nat} {n c : Nat} (ha : Dig a) (hb : Dig b) (la : a.length ≤ n) (lb : b.length ≤ n) (ho : o.length = n + 1)
    (h : vl o + 10000 ^ (n + 1) * c = vl (a.take (n + 1)) + vl (b.take (n + 1))) : vl o = vl a + vl b := by
  rw [List.take_of_length_le (by omega), List.take_of_length_le (by omega)] at h
  have h1 := Nat.lt_of_lt_of_le (vl_lt ha) (Nat.pow_le_pow_right (by decide : 0 < 10000) la)
  have h2 := Nat.lt_of_lt_of_le (vl_lt hb) (Nat.pow_le_pow_right (by decide : 0 < 10000) lb)
  rw [Nat.pow_succ] at h
  have hc : c = 0 := by
    by_cases hc : c = 0
    · exact hc
    · have : 10000 ^ n * 10000 * 1 ≤ 10000 ^ n * 10000 * c := Nat.mul_le_mul_left _ (by omega)
      omega
  subst hc; omega
theorem sub_step {a b o : List Nat} {i c : Nat} (ho : o.length = i) (hb : Dig b) (hc : c ≤ 1) (h : vl (a.take i) + 10000 ^ i * c = vl o + vl (b.take i)) :
    (atD a i < atD b i + c → vl (a.take (i + 1)) + 10000 ^ (i + 1) * 1 = vl (o ++ [atD a i + 10000 - atD b i - c]) + vl (b.take (i + 1))) ∧
    (¬ atD a i < atD b i + c → vl (a.take (i + 1)) + 10000 ^ (i + 1) * 0 = vl (o ++ [atD a i - atD b i - c]) + vl (b.take (i + 1))) := by
  have hbl := atD_lt hb i
  rw [vl_snoc, vl_snoc, ho, vl_take a, vl_take b, Nat.pow_succ]
  constructor
  · intro hl
    have e : (atD a i + 10000 - atD b i - c) * 10000 ^ i + atD b i * 10000 ^ i + 10000 ^ i * c = atD a i * 10000 ^ i + 10000 ^ i * 10000 := by
      have : atD a i + 10000 = (atD a i + 10000 - atD b i - c) + atD b i + c := by omega
      have h2 := congrArg (· * 10000 ^ i) this
      simp only [Nat.add_mul] at h2
      rw [Nat.mul_comm (10000 ^ i) c, Nat.mul_comm (10000 ^ i) 10000]; omega
    omega
  · intro hl
    have e : (atD a i - atD b i - c) * 10000 ^ i + atD b i * 10000 ^ i + 10000 ^ i * c = atD a i * 10000 ^ i := by
      have : atD a i = (atD a i - atD b i - c) + atD b i + c := by omega
      have h2 := congrArg (· * 10000 ^ i) this
      simp only [Nat.add_mul] at h2
      rw [Nat.mul_comm (10000 ^ i) c]; omega
    omega
theorem sub_end {a b o : List Nat} {n c : Nat} (la : a.length ≤ n) (lb : b.length ≤ n) (ho : o.length = n) (hd : Dig o) (hle : vl b ≤ vl a)
    (h : vl (a.take n) + 10000 ^ n * c = vl o + vl (b.take n)) : vl o = vl a - vl b := by
  rw [List.take_of_length_le (by omega), List.take_of_length_le (by omega)] at h
  have h1 := vl_lt hd
  rw [ho] at h1
  have hc : c = 0 := by
    by_cases hc : c = 0
    · exact hc
    · have : 10000 ^ n * 1 ≤ 10000 ^ n * c := Nat.mul_le_mul_left _ (by omega)
      omega
  subst hc; omega
theorem vl_set : ∀ {l : List Nat} {k d x : Nat}, l[k]? = some x → vl (l.set k d) + x * 10000 ^ k = vl l + d * 10000 ^ k
  | [], k, d, x, h => by simp at h
  | y :: l, 0, d, x, h => by
    simp only [List.getElem?_cons_zero, Option.some.injEq] at h
    subst h
    simp only [List.set_cons_zero, vl, Nat.pow_zero, Nat.mul_one]; omega
  | y :: l, k + 1, d, x, h => by
    have ih := vl_set (d := d) (show l[k]? = some x by simpa using h)
    simp only [List.set_cons_succ, vl, Nat.pow_succ]
    have e1 : x * (10000 ^ k * 10000) = 10000 * (x * 10000 ^ k) := by rw [← Nat.mul_assoc, Nat.mul_comm]
    have e2 : d * (10000 ^ k * 10000) = 10000 * (d * 10000 ^ k) := by rw [← Nat.mul_assoc, Nat.mul_comm]
    rw [e1, e2]; omega
theorem dig_set {l : List Nat} (h : Dig l) {k d : Nat} (hd : d < 10000) : Dig (l.set k d) := by
  intro x hx
  rcases List.mem_or_eq_of_mem_set hx with hx | rfl
  · exact h x hx
  · exact hd
theorem dig_snoc {l : List Nat} (h : Dig l) {d : Nat} (hd : d < 10000) : Dig (l ++ [d]) := by
  intro x hx
  rcases List.mem_append.1 hx with hx | hx
  · exact h x hx
  · simp at hx; omega
theorem mul_step {b o : List Nat} {i j ai c T x : Nat} (hx : o[i + j]? = some x) (h : vl o + 10000 ^ (i + j) * c = T + ai * 10000 ^ i * vl (b.take j)) :
    vl (o.set (i + j) ((x + ai * atD b j + c) % 10000)) + 10000 ^ (i + (j + 1)) * ((x + ai * atD b j + c) / 10000) = T + ai * 10000 ^ i * vl (b.take (j + 1)) := by
  have h1 := vl_set (d := (x + ai * atD b j + c) % 10000) hx
  rw [vl_take b j]
  have e : (x + ai * atD b j + c) % 10000 * 10000 ^ (i + j) + 10000 ^ (i + (j + 1)) * ((x + ai * atD b j + c) / 10000) = 10000 ^ (i + j) * (x + ai * atD b j + c) := by
    conv => rhs; rw [← Nat.mod_add_div (x + ai * atD b j + c) 10000]
    rw [Nat.mul_add, Nat.mul_comm _ (10000 ^ (i + j)), ← Nat.add_assoc, Nat.pow_succ, Nat.mul_assoc]
  have e2 : 10000 ^ (i + j) * (x + ai * atD b j + c) = x * 10000 ^ (i + j) + ai * 10000 ^ i * (atD b j * 10000 ^ j) + 10000 ^ (i + j) * c := by
    rw [Nat.mul_add, Nat.mul_add, Nat.mul_comm _ x, Nat.pow_add]
    have : 10000 ^ i * 10000 ^ j * (ai * atD b j) = ai * 10000 ^ i * (atD b j * 10000 ^ j) := by
      rw [Nat.mul_comm (10000 ^ i * 10000 ^ j), Nat.mul_assoc ai (atD b j), Nat.mul_assoc ai]; congr 1
      rw [Nat.mul_comm (atD b j), Nat.mul_comm (atD b j), Nat.mul_assoc]
    omega
  rw [Nat.mul_add]
  omega
theorem mul_end {a b o : List Nat} {i c ai : Nat} (ha : Dig a) (hb : Dig b) (hai : atD a i = ai) (h : vl o + 10000 ^ (i + (b.length + 1)) * c = vl (a.take i) * vl b + ai * 10000 ^ i * vl (b.take (b.length + 1))) :
    vl o = vl (a.take (i + 1)) * vl b := by
  have ht : b.take (b.length + 1) = b := List.take_of_length_le (by omega)
  rw [ht] at h
  have e : vl (a.take (i + 1)) * vl b = vl (a.take i) * vl b + ai * 10000 ^ i * vl b := by rw [vl_take a i, hai, Nat.add_mul]
  have h1 := vl_take_lt ha (i + 1)
  have h2 := vl_lt hb
  have h3 : vl (a.take (i + 1)) * vl b < 10000 ^ (i + (b.length + 1)) := by
    have : i + (b.length + 1) = (i + 1) + b.length := by omega
    rw [this, Nat.pow_add]
    exact Nat.mul_lt_mul'' h1 h2
  have hc : c = 0 := by
    by_cases hc : c = 0
    · exact hc
    · have : 10000 ^ (i + (b.length + 1)) * 1 ≤ 10000 ^ (i + (b.length + 1)) * c := Nat.mul_le_mul_left _ (by omega)
      omega
  subst hc; omega
/-- A number's digits, without its sign. -/
def big (S : Int) : List Nat := dg S.natAbs
theorem big_dig (S : Int) : Dig (big S) := dg_dig _
theorem big_vl (S : Int) : vl (big S) = S.natAbs := vl_dg _
theorem tmod_neg {m : Int} (h : m < 0) : m.tmod 10000 = -((m.natAbs % 10000 : Nat) : Int) ∧ m.tdiv 10000 = -((m.natAbs / 10000 : Nat) : Int) := by
  obtain ⟨N, rfl⟩ : ∃ N : Nat, m = -(N : Int) := ⟨m.natAbs, by omega⟩
  rw [Int.neg_tmod, Int.neg_tdiv, Int.natAbs_neg, Int.natAbs_natCast]
  constructor
  · rfl
  · rfl
theorem nc_snoc' {l : List Nat} {d : Nat} {x : Int} (h : x = (d : Int)) : nc l ++ [Value.int .i64 x] = nc (l ++ [d]) := by rw [h, nc_snoc]
theorem of_step {xs ys : List Nat} {N : Nat} (h : xs ++ dg N = ys) (h0 : N ≠ 0) : (xs ++ [N % 10000]) ++ dg (N / 10000) = ys := by rw [← h, dgS h0]; simp
/-- A row's digits behind the number's own: noughts; the number's own last one is none. -/
theorem trim_at {l : List Nat} (hd : Dig l) : (dg (vl l)).length ≤ l.length ∧ l.take (dg (vl l)).length = dg (vl l) ∧ (∀ n x, (dg (vl l)).length ≤ n → l[n]? = some x → x = 0) ∧ (∀ n x, n + 1 = (dg (vl l)).length → l[n]? = some x → x ≠ 0) := by
  obtain ⟨k, hk⟩ := dg_trim hd
  obtain ⟨D, hD⟩ : ∃ D, dg (vl l) = D := ⟨_, rfl⟩
  have hlast := @dg_last (vl l)
  rw [hD] at hk hlast ⊢
  subst hk
  refine ⟨by simp, by simp, fun n x hn hx => ?_, fun n x hn hx => ?_⟩
  · rw [List.getElem?_append_right hn] at hx
    have := List.mem_of_getElem? hx
    exact (List.mem_replicate.1 this).2
  · rw [List.getElem?_append_left (by omega)] at hx
    exact hlast (by rw [← hn, Nat.add_sub_cancel]; exact hx)
theorem vl_rep (n : Nat) : vl (List.replicate n 0) = 0 := by
  induction n with
  | zero => rfl
  | succ n ih => rw [List.replicate_succ, vl, ih]
theorem nc_rep {n j : Nat} (h : j < n * 1) : (nc (List.replicate n 0))[j]? = [Value.int .i64 0][j % 1]? := by
  rw [show j % 1 = 0 by omega]
  exact nc_get (by rw [List.getElem?_replicate]; rw [if_pos (by omega)])
end Go.Eng

/-
  Plain laws of layer 5: sums of three words.
-/
namespace Go.Eng
open Go

/-- Three words, the lowest first. -/
def w3 (m : Nat) : List Value := [.int .u64 ((m % 18446744073709551616 : Nat) : Int), .int .u64 ((m / 18446744073709551616 % 18446744073709551616 : Nat) : Int), .int .u64 ((m / 340282366920938463463374607431768211456 % 18446744073709551616 : Nat) : Int)]
theorem w3_split (m : Nat) (h : m < 6277101735386680763835789423207666416102355444464034512896) : ∃ a b c : Nat, a < 18446744073709551616 ∧ b < 18446744073709551616 ∧ c < 18446744073709551616 ∧ m = a + 18446744073709551616 * b + 340282366920938463463374607431768211456 * c ∧
    m % 18446744073709551616 = a ∧ m / 18446744073709551616 % 18446744073709551616 = b ∧ m / 340282366920938463463374607431768211456 % 18446744073709551616 = c :=
  ⟨m % 18446744073709551616, m / 18446744073709551616 % 18446744073709551616, m / 340282366920938463463374607431768211456 % 18446744073709551616, by omega, by omega, by omega, by omega, rfl, rfl, rfl⟩
theorem w3_of {m : Nat} {x y z : Int} (hx : 0 ≤ x ∧ x < 18446744073709551616) (hy : 0 ≤ y ∧ y < 18446744073709551616) (hz : 0 ≤ z ∧ z < 18446744073709551616) (h : (m : Int) = x + 18446744073709551616 * y + 340282366920938463463374607431768211456 * z) :
    [Value.int .u64 x, .int .u64 y, .int .u64 z] = w3 m := by
  have e1 : ((m % 18446744073709551616 : Nat) : Int) = x := by omega
  have e2 : ((m / 18446744073709551616 % 18446744073709551616 : Nat) : Int) = y := by omega
  have e3 : ((m / 340282366920938463463374607431768211456 % 18446744073709551616 : Nat) : Int) = z := by omega
  unfold w3; rw [e1, e2, e3]
theorem w3_ex {m : Nat} (h : m < 6277101735386680763835789423207666416102355444464034512896) : ∃ a b c : Int, (0 ≤ a ∧ a < 18446744073709551616) ∧ (0 ≤ b ∧ b < 18446744073709551616) ∧ (0 ≤ c ∧ c < 18446744073709551616) ∧
    (m : Int) = a + 18446744073709551616 * b + 340282366920938463463374607431768211456 * c ∧ w3 m = [.int .u64 a, .int .u64 b, .int .u64 c] := by
  obtain ⟨a, b, c, ha, hb, hc, hm, e1, e2, e3⟩ := w3_split m h
  exact ⟨a, b, c, by omega, by omega, by omega, by omega, by unfold w3; rw [e1, e2, e3]⟩
theorem neg_fin {m : Nat} {T k : Int} (h : m < 6277101735386680763835789423207666416102355444464034512896) (hT : T = 6277101735386680763835789423207666416102355444464034512896 - m - 6277101735386680763835789423207666416102355444464034512896 * k) (h0 : 0 ≤ T ∧ T < 6277101735386680763835789423207666416102355444464034512896) :
    (((6277101735386680763835789423207666416102355444464034512896 - m) % 6277101735386680763835789423207666416102355444464034512896 : Nat) : Int) = T := by omega
theorem add_fin {m n : Nat} {T k : Int} (hT : T = m + n - 6277101735386680763835789423207666416102355444464034512896 * k) (h0 : 0 ≤ T ∧ T < 6277101735386680763835789423207666416102355444464034512896) :
    (((m + n) % 6277101735386680763835789423207666416102355444464034512896 : Nat) : Int) = T := by omega
theorem w3_rng {x y z : Int} (hx : 0 ≤ x ∧ x < 18446744073709551616) (hy : 0 ≤ y ∧ y < 18446744073709551616) (hz : 0 ≤ z ∧ z < 18446744073709551616) :
    0 ≤ x + 18446744073709551616 * y + 340282366920938463463374607431768211456 * z ∧ x + 18446744073709551616 * y + 340282366920938463463374607431768211456 * z < 6277101735386680763835789423207666416102355444464034512896 := by omega
theorem add_lin {m n x y z x' y' z' s0 s1 s2 k0 k1 k2 : Int} (em : m = x + 18446744073709551616 * y + 340282366920938463463374607431768211456 * z) (en : n = x' + 18446744073709551616 * y' + 340282366920938463463374607431768211456 * z')
    (h0 : s0 + 18446744073709551616 * k0 = x + x' + 0) (h1 : s1 + 18446744073709551616 * k1 = y + y' + k0) (h2 : s2 + 18446744073709551616 * k2 = z + z' + k1) :
    s0 + 18446744073709551616 * s1 + 340282366920938463463374607431768211456 * s2 = m + n - 6277101735386680763835789423207666416102355444464034512896 * k2 := by omega
abbrev B64 : Nat := 18446744073709551616
abbrev B192 : Nat := 6277101735386680763835789423207666416102355444464034512896
/-- The words' number of a sum. -/
def sumM (S : Int) : Nat := (S % 6277101735386680763835789423207666416102355444464034512896).toNat
theorem sumM_lt (S : Int) : sumM S < 6277101735386680763835789423207666416102355444464034512896 := by unfold sumM; omega
theorem sumM_add (S T : Int) : (sumM S + sumM T) % 6277101735386680763835789423207666416102355444464034512896 = sumM (S + T) := by unfold sumM; omega
theorem sumM_neg (S : Int) : (6277101735386680763835789423207666416102355444464034512896 - sumM S) % 6277101735386680763835789423207666416102355444464034512896 = sumM (-S) := by unfold sumM; omega
theorem sumM_nat {n : Nat} (h : n < 6277101735386680763835789423207666416102355444464034512896) : sumM n = n := by unfold sumM; omega
/-- A sum's number, if it fits. -/
def totS (S : Int) : Int × Bool := if -9223372036854775808 ≤ S ∧ S ≤ 9223372036854775807 then (S, true) else (0, false)
theorem mul_bnd {a b : Int} (ha : inK .i64 a) (hb : inK .i64 b) : -85070591730234615865843651857942052864 ≤ a * b ∧ a * b ≤ 85070591730234615865843651857942052864 := by
  simp only [inK] at ha hb
  have h1 : a.natAbs * b.natAbs ≤ 9223372036854775808 * 9223372036854775808 := Nat.mul_le_mul (by omega) (by omega)
  have h2 : (a * b).natAbs = a.natAbs * b.natAbs := Int.natAbs_mul a b
  omega
theorem w3_small {p : Nat} (h : p < 340282366920938463463374607431768211456) : [Value.int .u64 ((p % 18446744073709551616 : Nat) : Int), .int .u64 ((p / 18446744073709551616 : Nat) : Int), .int .u64 0] = w3 p := w3_of (by omega) (by omega) (by omega) (by omega)
theorem sumM_mul {S x y : Int} {p : Nat} (hp : p < 340282366920938463463374607431768211456) (h : x * y = p) : (sumM S + p) % 6277101735386680763835789423207666416102355444464034512896 = sumM (S + x * y) := by
  rw [h, ← sumM_add, sumM_nat (by omega)]
theorem sumM_muln {S x y : Int} {p : Nat} (hp : p < 340282366920938463463374607431768211456) (h : x * y = -p) : (sumM S + (6277101735386680763835789423207666416102355444464034512896 - p) % 6277101735386680763835789423207666416102355444464034512896) % 6277101735386680763835789423207666416102355444464034512896 = sumM (S + x * y) := by
  have := sumM_neg (p : Int)
  rw [sumM_nat (by omega)] at this
  rw [h, ← sumM_add, ← this]
theorem mul_signs {x y : Int} : (x < 0 → y < 0 → x * y = ((x.natAbs * y.natAbs : Nat) : Int)) ∧ (¬ x < 0 → ¬ y < 0 → x * y = ((x.natAbs * y.natAbs : Nat) : Int)) ∧ (x < 0 → ¬ y < 0 → x * y = -((x.natAbs * y.natAbs : Nat) : Int)) ∧ (¬ x < 0 → y < 0 → x * y = -((x.natAbs * y.natAbs : Nat) : Int)) := by
  refine ⟨fun h1 h2 => ?_, fun h1 h2 => ?_, fun h1 h2 => ?_, fun h1 h2 => ?_⟩
  · have e1 : ((x.natAbs : Nat) : Int) = -x := by omega
    have e2 : ((y.natAbs : Nat) : Int) = -y := by omega
    rw [Int.natCast_mul, e1, e2, Int.neg_mul_neg]
  · have e1 : ((x.natAbs : Nat) : Int) = x := by omega
    have e2 : ((y.natAbs : Nat) : Int) = y := by omega
    rw [Int.natCast_mul, e1, e2]
  · have e1 : ((x.natAbs : Nat) : Int) = -x := by omega
    have e2 : ((y.natAbs : Nat) : Int) = y := by omega
    rw [Int.natCast_mul, e1, e2, Int.neg_mul, Int.neg_neg]
  · have e1 : ((x.natAbs : Nat) : Int) = x := by omega
    have e2 : ((y.natAbs : Nat) : Int) = -y := by omega
    rw [Int.natCast_mul, e1, e2, Int.mul_neg, Int.neg_neg]
theorem mulN_bnd {x y : Int} (hx : -9223372036854775808 ≤ x ∧ x ≤ 9223372036854775807) (hy : -9223372036854775808 ≤ y ∧ y ≤ 9223372036854775807) : x.natAbs * y.natAbs < 340282366920938463463374607431768211456 := by
  have h1 : x.natAbs * y.natAbs ≤ 9223372036854775808 * 9223372036854775808 := Nat.mul_le_mul (by omega) (by omega)
  omega
def BigS (S : Int) : Prop := -(3138550867693340381917894711603833208051177722232017256448) ≤ S ∧ S < 3138550867693340381917894711603833208051177722232017256448
/-- A sum's words and its number. -/
theorem tot_pos {S a b c : Int} (hS : BigS S) (h : (sumM S : Int) = a + 18446744073709551616 * b + 340282366920938463463374607431768211456 * c) (ha : 0 ≤ a ∧ a < 9223372036854775808) (hb : 0 ≤ b ∧ b < 18446744073709551616) (hc : 0 ≤ c ∧ c < 18446744073709551616) :
    totS S = if b = 0 ∧ c = 0 then (a, true) else (0, false) := by
  unfold BigS at hS
  unfold sumM at h
  unfold totS
  by_cases h2 : b = 0 ∧ c = 0
  · have : S = a := by omega
    rw [if_pos h2, if_pos (by omega), this]
  · rw [if_neg h2, if_neg]
    intro h3
    omega
theorem tot_neg {S a b c : Int} (hS : BigS S) (h : (sumM S : Int) = a + 18446744073709551616 * b + 340282366920938463463374607431768211456 * c) (ha : 9223372036854775808 ≤ a ∧ a < 18446744073709551616) (hb : 0 ≤ b ∧ b < 18446744073709551616) (hc : 0 ≤ c ∧ c < 18446744073709551616) :
    totS S = if b = 18446744073709551615 ∧ c = 18446744073709551615 then (a - 18446744073709551616, true) else (0, false) := by
  unfold BigS at hS
  unfold sumM at h
  unfold totS
  by_cases h2 : b = 18446744073709551615 ∧ c = 18446744073709551615
  · have : S = a - 18446744073709551616 := by omega
    rw [if_pos h2, if_pos (by omega), this]
  · rw [if_neg h2, if_neg]
    intro h3
    omega
end Go.Eng

/-
  Plain laws of layer 28: volumes.
-/
namespace Go.Eng
open Go

/-- A pair: nine numbers: kind, account, order, symbol, side, quantity, price, code, need. -/
def pg (p : List Int) (i : Nat) : Int := p.getD i 0
def isO (p : List Int) (o : Int) : Bool := decide (pg p 0 = 4 ∧ pg p 7 = 0 ∧ pg p 2 = o)
/-- The symbol of the last order of that number. -/
def ordS (L : List (List Int)) (o : Int) : Option Int := (L.reverse.find? fun p => isO p o).map fun p => pg p 3
/-- What a pair counts: symbol, quantity, price. -/
def cntAt (L : List (List Int)) (i : Nat) : Option (Int × Int × Int) := match L[i]? with
  | some p => if pg p 0 = 5 ∧ pg p 7 = 0 then (ordS (L.take i) (pg p 2)).map fun s => (s, pg p 5, pg p 6) else none
  | none => none
def cn (L : List (List Int)) (n : Nat) : List (Int × Int × Int) := (List.range n).filterMap (cntAt L)
theorem cn_succ (L : List (List Int)) (n : Nat) : cn L (n + 1) = cn L n ++ (cntAt L n).toList := by
  unfold cn; rw [List.range_succ, List.filterMap_append]
  congr 1
theorem cn_len (L : List (List Int)) (n : Nat) : (cn L n).length ≤ n := by
  have := List.length_filterMap_le (cntAt L) (List.range n)
  simpa [cn] using this
def sq (l : List (Int × Int × Int)) (s : Int) : Int := ((l.filter fun c => decide (c.1 = s)).map fun c => c.2.1).sum
def sa (l : List (Int × Int × Int)) (s : Int) : Int := ((l.filter fun c => decide (c.1 = s)).map fun c => c.2.1 * c.2.2).sum
theorem sq_snoc (l : List (Int × Int × Int)) (c : Int × Int × Int) (s : Int) : sq (l ++ [c]) s = sq l s + (if c.1 = s then c.2.1 else 0) := by
  unfold sq; rw [List.filter_append]
  by_cases h : c.1 = s <;> simp [h]
theorem sa_snoc (l : List (Int × Int × Int)) (c : Int × Int × Int) (s : Int) : sa (l ++ [c]) s = sa l s + (if c.1 = s then c.2.1 * c.2.2 else 0) := by
  unfold sa; rw [List.filter_append]
  by_cases h : c.1 = s <;> simp [h]
theorem sq_none {l : List (Int × Int × Int)} {s : Int} (h : s ∉ l.map (·.1)) : sq l s = 0 ∧ sa l s = 0 := by
  have : l.filter (fun c => decide (c.1 = s)) = [] := by
    rw [List.filter_eq_nil_iff]; intro c hc e
    exact h (by rw [← of_decide_eq_true e]; exact List.mem_map_of_mem hc)
  unfold sq sa; rw [this]; exact ⟨rfl, rfl⟩
/-- A volume: symbol, both sums, whether they fit. -/
def volR (l : List (Int × Int × Int)) (s : Int) : Int × Int × Int × Bool :=
  if (totS (sq l s)).2 = true ∧ (totS (sa l s)).2 = true then (s, (totS (sq l s)).1, (totS (sa l s)).1, true) else (s, 0, 0, false)
def vC (v : Int × Int × Int × Bool) : List Value := [.int .i64 v.1, .int .i64 v.2.1, .int .i64 v.2.2.1, .bool v.2.2.2]
theorem cn_in {L : List (List Int)} (hL : ∀ p, p ∈ L → ∀ x, x ∈ p → inK .i64 x) {n : Nat} {c : Int × Int × Int} (hc : c ∈ cn L n) : inK .i64 c.2.1 ∧ inK .i64 c.2.2 := by
  obtain ⟨i, -, hi⟩ := List.mem_filterMap.1 hc
  unfold cntAt at hi
  split at hi
  · rename_i p hp
    split at hi
    · obtain ⟨s, -, rfl⟩ := Option.map_eq_some_iff.1 hi
      have hm := List.mem_of_getElem? hp
      have h0 : ∀ k, inK .i64 (pg p k) := fun k => by
        unfold pg; rw [List.getD_eq_getElem?_getD]
        cases hx : p[k]? with
        | none => simp [inK]
        | some x => exact hL p hm x (List.mem_of_getElem? hx)
      exact ⟨h0 5, h0 6⟩
    · cases hi
  · cases hi
theorem sums_bnd {s : Int} : ∀ {l : List (Int × Int × Int)}, (∀ c, c ∈ l → inK .i64 c.2.1 ∧ inK .i64 c.2.2) →
    (-(9223372036854775808 * (l.length : Int)) ≤ sq l s ∧ sq l s ≤ 9223372036854775808 * (l.length : Int)) ∧ (-(85070591730234615865843651857942052864 * (l.length : Int)) ≤ sa l s ∧ sa l s ≤ 85070591730234615865843651857942052864 * (l.length : Int)) := by
  intro l
  induction l with
  | nil => intro _; simp [sq, sa]
  | cons c l ih =>
    intro h
    obtain ⟨h1, h2⟩ := ih fun x hx => h x (by simp [hx])
    obtain ⟨c1, c2⟩ := h c (by simp)
    have hm := mul_bnd c1 c2
    simp only [inK] at c1
    have e1 : sq (c :: l) s = (if c.1 = s then c.2.1 else 0) + sq l s := by unfold sq; by_cases h : c.1 = s <;> simp [h]
    have e2 : sa (c :: l) s = (if c.1 = s then c.2.1 * c.2.2 else 0) + sa l s := by unfold sa; by_cases h : c.1 = s <;> simp [h]
    rw [e1, e2, List.length_cons]
    constructor <;> constructor <;> split <;> push_cast <;> omega
theorem sums_big {L : List (List Int)} (hL : ∀ p, p ∈ L → ∀ x, x ∈ p → inK .i64 x) {n : Nat} (hn : n ≤ 1000000) (s : Int) : BigS (sq (cn L n) s) ∧ BigS (sa (cn L n) s) := by
  have h := sums_bnd (s := s) fun c hc => cn_in hL (n := n) hc
  have hl := cn_len L n
  have hl2 : ((cn L n).length : Int) ≤ 1000000 := by omega
  unfold BigS
  omega
theorem strictEq : ∀ {l1 l2 : List Int}, l1.Pairwise (· < ·) → l2.Pairwise (· < ·) → (∀ x, x ∈ l1 ↔ x ∈ l2) → l1 = l2
  | [], [], _, _, _ => rfl
  | [], y :: l2, _, _, h => by have := (h y).2 (by simp); simp at this
  | x :: l1, [], _, _, h => by have := (h x).1 (by simp); simp at this
  | x :: l1, y :: l2, h1, h2, h => by
    rw [List.pairwise_cons] at h1 h2
    have hxy : x = y := by
      have a := (h x).1 (by simp)
      have b := (h y).2 (by simp)
      rcases List.mem_cons.1 a with rfl | a
      · rfl
      · rcases List.mem_cons.1 b with rfl | b
        · rfl
        · have := h1.1 _ b; have := h2.1 _ a; omega
    subst hxy
    congr 1
    refine strictEq h1.2 h2.2 fun z => ⟨fun hz => ?_, fun hz => ?_⟩
    · rcases List.mem_cons.1 ((h z).1 (by simp [hz])) with rfl | r
      · have := h1.1 _ hz; omega
      · exact r
    · rcases List.mem_cons.1 ((h z).2 (by simp [hz])) with rfl | r
      · have := h2.1 _ hz; omega
      · exact r
end Go.Eng

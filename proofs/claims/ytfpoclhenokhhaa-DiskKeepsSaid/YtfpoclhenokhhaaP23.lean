/-
  Plain laws of layer 9: what a crash leaves begins as it was.
-/
import Derived.Test.YtfpoclhenokhhaaP22
namespace Go.Eng
open Go

theorem putN_cons (q : List UInt8 × List UInt8) (S : FL) (p : List UInt8 × List UInt8) : putN (q :: S) p = if q.1 = p.1 then p :: S else q :: putN S p := by
  unfold putN
  rw [List.findIdx?_cons]
  by_cases h : q.1 = p.1
  · simp [h]
  · simp only [h, decide_false, Bool.false_eq_true, if_false]
    cases S.findIdx? (fun x => decide (x.1 = p.1)) <;> simp
theorem putN_nil (p : List UInt8 × List UInt8) : putN [] p = [p] := rfl
theorem readN_cons (q : List UInt8 × List UInt8) (S : FL) (n : List UInt8) : readN (q :: S) n = if q.1 = n then q.2 else readN S n := by
  unfold readN
  rw [List.find?_cons]
  by_cases h : q.1 = n <;> simp [h]
theorem readN_putN : ∀ (S : FL) (p : List UInt8 × List UInt8) (n : List UInt8), readN (putN S p) n = if p.1 = n then p.2 else readN S n
  | [], p, n => by rw [putN_nil, readN_cons]
  | q :: S, p, n => by
    rw [putN_cons]
    by_cases h : q.1 = p.1
    · rw [if_pos h, readN_cons, readN_cons]
      by_cases h2 : p.1 = n
      · rw [if_pos h2, if_pos h2]
      · rw [if_neg h2, if_neg h2, if_neg (by rw [h]; exact h2)]
    · rw [if_neg h, readN_cons, readN_cons, readN_putN S p n]
      by_cases h2 : q.1 = n
      · rw [if_pos h2, if_pos h2, if_neg (by intro e; exact h (by rw [h2, e]))]
      · rw [if_neg h2, if_neg h2]
theorem sumB_cons (p : List UInt8 × List UInt8) (S : FL) : sumB (p :: S) = p.2.length + sumB S := by simp [sumB]
theorem sumB_putN : ∀ (S : FL) (p : List UInt8 × List UInt8), sumB (putN S p) + (readN S p.1).length = sumB S + p.2.length
  | [], p => by simp [putN_nil, sumB, readN]
  | q :: S, p => by
    rw [putN_cons, readN_cons]
    by_cases h : q.1 = p.1
    · rw [if_pos h, if_pos h, sumB_cons, sumB_cons]; omega
    · rw [if_neg h, if_neg h, sumB_cons, sumB_cons]
      have := sumB_putN S p; omega
theorem putN_len (S : FL) (p : List UInt8 × List UInt8) : (putN S p).length ≤ S.length + 1 := by
  unfold putN
  split
  · rw [List.length_set]; omega
  · simp

theorem wrB_split (old : List UInt8) (at0 : Nat) (s : List UInt8) : (wrB old at0 s) = ((old ++ List.replicate ((at0 + s.length) - old.length) 0).take at0 ++ s ++ (old ++ List.replicate ((at0 + s.length) - old.length) 0).drop (at0 + s.length)) := by
  unfold wrB
  have e1 : putL (List.replicate (max old.length (at0 + s.length)) (0 : UInt8)) 0 old = old ++ List.replicate ((at0 + s.length) - old.length) 0 := by
    rw [putL_gen old _ 0 (by rw [List.length_replicate]; omega)]
    simp only [List.take_zero, List.nil_append, Nat.zero_add, List.drop_replicate]
    congr 2; omega
  rw [e1, putL_gen s _ at0 (by rw [List.length_append, List.length_replicate]; omega)]
theorem wrB_prefix {old s x : List UInt8} {at0 : Nat} (hx : x <+: old) (hl : x.length ≤ at0) : x <+: wrB old at0 s := by
  rw [wrB_split old at0 s, List.append_assoc]
  obtain ⟨t, rfl⟩ := hx
  refine ⟨((x ++ t ++ List.replicate (at0 + s.length - (x ++ t).length) 0).take at0).drop x.length ++ (s ++ ((x ++ t ++ List.replicate (at0 + s.length - (x ++ t).length) 0).drop (at0 + s.length))), ?_⟩
  rw [← List.append_assoc]
  congr 1
  have h1 : ((x ++ t ++ List.replicate (at0 + s.length - (x ++ t).length) 0).take at0).take x.length = x := by
    rw [List.take_take, Nat.min_eq_left hl, List.append_assoc, List.take_left']
    rfl
  conv => lhs; lhs; rw [← h1]
  exact List.take_append_drop _ _

/-- Each file of S begins each file of T. -/
def PrefS (S T : FL) : Prop := ∀ n, readN S n <+: readN T n
theorem PrefS.refl (S : FL) : PrefS S S := fun _ => List.prefix_rfl
theorem PrefS.cut {S T : FL} (h : PrefS S T) {n : List UInt8} {at0 : Nat} {s : List UInt8} {k : Int} (ha : (readN S n).length ≤ at0) : PrefS S (cutN T n at0 s k) := by
  intro m
  unfold cutN
  split
  · rw [readN_putN]
    by_cases hm : n = m
    · subst hm
      rw [if_pos rfl]
      exact wrB_prefix (h n) ha
    · rw [if_neg hm]; exact h m
  · exact h m
theorem crash_pref {S : FL} : ∀ (W : List (List UInt8 × Nat × List UInt8)) (T : FL) (K : Nat → Int) (i : Nat), PrefS S T → (∀ e, e ∈ W → (readN S e.1).length ≤ e.2.1) → PrefS S (crashN T W K i)
  | [], T, K, i, h, _ => h
  | (n, at0, s) :: W, T, K, i, h, hW => crash_pref W _ K (i + 1) (h.cut (hW (n, at0, s) (by simp))) (fun e he => hW e (List.mem_cons_of_mem _ he))
theorem cut_names {T : FL} {n : List UInt8} {at0 : Nat} {s : List UInt8} {k : Int} {N : List UInt8 → Prop} (hT : ∀ p, p ∈ T → N p.1) (hn : N n) : ∀ p, p ∈ cutN T n at0 s k → N p.1 := by
  intro p hp
  unfold cutN at hp
  split at hp
  · rcases putN_mem hp with rfl | hp
    · exact hn
    · exact hT p hp
  · exact hT p hp
theorem crash_names {N : List UInt8 → Prop} : ∀ (W : List (List UInt8 × Nat × List UInt8)) (T : FL) (K : Nat → Int) (i : Nat), (∀ p, p ∈ T → N p.1) → (∀ e, e ∈ W → N e.1) → ∀ p, p ∈ crashN T W K i → N p.1
  | [], T, K, i, h, _ => h
  | (n, at0, s) :: W, T, K, i, h, hW => crash_names W _ K (i + 1) (cut_names h (hW (n, at0, s) (by simp))) (fun e he => hW e (List.mem_cons_of_mem _ he))
theorem crash_len : ∀ (W : List (List UInt8 × Nat × List UInt8)) (T : FL) (K : Nat → Int) (i : Nat), (crashN T W K i).length ≤ T.length + W.length
  | [], T, K, i => by simp [crashN]
  | (n, at0, s) :: W, T, K, i => by
    have h1 := crash_len W (cutN T n at0 s (min (max (K i) 0) s.length)) K (i + 1)
    have h2 : (cutN T n at0 s (min (max (K i) 0) s.length)).length ≤ T.length + 1 := by
      unfold cutN
      split
      · exact putN_len _ _
      · omega
    simp only [crashN, List.length_cons]; omega
theorem at_know {C : Ctx} {x : Loc} {df : List Deferred} {env : Env} {bx : Bx} {hp : List Seg} {S : Base} {P : Prop} (h : ∀ w, WOk S bx hp w → P) (hk : P → At C x df env bx hp S) : At C x df env bx hp S := fun w hw => hk (h w hw) w hw
end Go.Eng

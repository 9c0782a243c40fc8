/-
  Arguments opened: events, verdicts, pairs.
-/
import Derived.Test.YtgkphfipielnhaaDoorM13
import Derived.Test.YtgkphfipielnhaaDoorM7
import Derived.Test.YtgkphfipielnhaaDoorProg
/-
  Arguments opened: events, verdicts, pairs.
-/
namespace Go.Proofs
open Go Go.Eng
set_option maxRecDepth 100000
set_option maxHeartbeats 4000000
attribute [local irreducible] Tri
open Go.WideShapes

theorem Tryd.event_c {H : Type} {enc : TypeId × Value → H} {w : World} {base : Nat} {sp : Nat → Bool} {held : Bool} {n : Nat} {cs : List Value} {y : DataW H × List MemPlace} (h : DataW.trod enc Tryd.prog w base sp held n 36 cs = some y) : ∃ p : List Int, cs = i64s p ∧ p.length = 7 ∧ ∀ x, x ∈ p → inK .i64 x := by
  obtain ⟨hl, n0, y0, t0⟩ := open_fld h 0 3 0 1 (by kernel_rfl)
  obtain ⟨-, n1, y1, t1⟩ := open_fld h 1 2 1 1 (by kernel_rfl)
  obtain ⟨-, n2, y2, t2⟩ := open_fld h 2 2 2 1 (by kernel_rfl)
  obtain ⟨-, n3, y3, t3⟩ := open_fld h 3 2 3 1 (by kernel_rfl)
  obtain ⟨-, n4, y4, t4⟩ := open_fld h 4 3 4 1 (by kernel_rfl)
  obtain ⟨-, n5, y5, t5⟩ := open_fld h 5 2 5 1 (by kernel_rfl)
  obtain ⟨-, n6, y6, t6⟩ := open_fld h 6 2 6 1 (by kernel_rfl)
  have hc : cs.length = 7 := by rw [hl]; kernel_rfl
  obtain ⟨z0, e0, k0⟩ := open_i64_c (by kernel_rfl) t0
  obtain ⟨z1, e1, k1⟩ := open_i64_c (by kernel_rfl) t1
  obtain ⟨z2, e2, k2⟩ := open_i64_c (by kernel_rfl) t2
  obtain ⟨z3, e3, k3⟩ := open_i64_c (by kernel_rfl) t3
  obtain ⟨z4, e4, k4⟩ := open_i64_c (by kernel_rfl) t4
  obtain ⟨z5, e5, k5⟩ := open_i64_c (by kernel_rfl) t5
  obtain ⟨z6, e6, k6⟩ := open_i64_c (by kernel_rfl) t6
  match cs, hc with
  | [v0, v1, v2, v3, v4, v5, v6], _ =>
    simp at e0 e1 e2 e3 e4 e5 e6
    subst e0; subst e1; subst e2; subst e3; subst e4; subst e5; subst e6
    refine ⟨[z0, z1, z2, z3, z4, z5, z6], rfl, rfl, fun x hx => ?_⟩
    simp at hx
    rcases hx with rfl | rfl | rfl | rfl | rfl | rfl | rfl <;> assumption
theorem Tryd.verdict_c {H : Type} {enc : TypeId × Value → H} {w : World} {base : Nat} {sp : Nat → Bool} {held : Bool} {n : Nat} {cs : List Value} {y : DataW H × List MemPlace} (h : DataW.trod enc Tryd.prog w base sp held n 72 cs = some y) : ∃ p : List Int, cs = i64s p ∧ p.length = 2 ∧ ∀ x, x ∈ p → inK .i64 x := by
  obtain ⟨hl, n0, y0, t0⟩ := open_fld h 0 3 0 1 (by kernel_rfl)
  obtain ⟨-, n1, y1, t1⟩ := open_fld h 1 2 1 1 (by kernel_rfl)
  have hc : cs.length = 2 := by rw [hl]; kernel_rfl
  obtain ⟨z0, e0, k0⟩ := open_i64_c (by kernel_rfl) t0
  obtain ⟨z1, e1, k1⟩ := open_i64_c (by kernel_rfl) t1
  match cs, hc with
  | [v0, v1], _ =>
    simp at e0 e1
    subst e0; subst e1
    refine ⟨[z0, z1], rfl, rfl, fun x hx => ?_⟩
    simp at hx
    rcases hx with rfl | rfl <;> assumption

/-- Of a pair: nine numbers, each of which fits. -/
def PairOk (p : List Int) : Prop := p.length = 9 ∧ ∀ x, x ∈ p → inK .i64 x

theorem Tryd.pair_c {H : Type} {enc : TypeId × Value → H} {w : World} {base : Nat} {sp : Nat → Bool} {held : Bool} {n : Nat} {cs : List Value} {y : DataW H × List MemPlace} (h : DataW.trod enc Tryd.prog w base sp held n 74 cs = some y) : ∃ p : List Int, cs = i64s p ∧ PairOk p := by
  obtain ⟨hl, n0, y0, t0⟩ := open_fld h 0 36 0 7 (by kernel_rfl)
  obtain ⟨-, n1, y1, t1⟩ := open_fld h 1 72 7 2 (by kernel_rfl)
  have hc : cs.length = 9 := by rw [hl]; kernel_rfl
  obtain ⟨p, e0, l0, k0⟩ := Tryd.event_c t0
  obtain ⟨q, e1, l1, k1⟩ := Tryd.verdict_c t1
  refine ⟨p ++ q, ?_, ?_, fun x hx => ?_⟩
  · have : cs = (cs.drop 0).take 7 ++ (cs.drop 7).take 2 := by
      rw [List.drop_zero, List.take_of_length_le (l := cs.drop 7) (by rw [List.length_drop]; omega), List.take_append_drop]
    rw [this, e0, e1]
    simp [i64s]
  · rw [List.length_append]; omega
  · rcases List.mem_append.1 hx with hx | hx
    · exact k0 x hx
    · exact k1 x hx
end Go.Proofs

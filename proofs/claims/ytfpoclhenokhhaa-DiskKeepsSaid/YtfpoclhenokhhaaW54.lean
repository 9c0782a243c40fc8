/-
  Arguments opened: files, and what is done with a disk.
-/
import Derived.Test.YtfpoclhenokhhaaW53
import Derived.Test.YtfpoclhenokhhaaE27
namespace Go.Proofs
open Go Go.Eng
set_option maxRecDepth 100000
set_option maxHeartbeats 4000000
attribute [local irreducible] Tri
open Go.WideShapes

section
variable {H : Type} {enc : TypeId × Value → H} {w : World} {base : Nat} {sp : Nat → Bool} {held : Bool}

theorem Try.file_c {n : Nat} {cs : List Value} {y : DataW H × List MemPlace} (h : DataW.trod enc Try.prog w base sp held n 56 cs = some y) : ∃ p : List UInt8 × List UInt8, cs = flC p ∧ p.1.length ≤ 9223372036854775807 ∧ p.2.length ≤ 9223372036854775807 := by
  obtain ⟨hl, n0, y0, t0⟩ := open_fld h 0 9 0 1 (by kernel_rfl)
  obtain ⟨-, n1, y1, t1⟩ := open_fld h 1 9 1 1 (by kernel_rfl)
  have hc : cs.length = 2 := by rw [hl]; kernel_rfl
  obtain ⟨l0, e0, h0⟩ := open_str_c (by kernel_rfl) t0
  obtain ⟨l1, e1, h1⟩ := open_str_c (by kernel_rfl) t1
  match cs, hc with
  | [v0, v1], _ =>
    simp at e0 e1
    subst e0; subst e1
    exact ⟨(l0, l1), rfl, h0, h1⟩
theorem Try.act_c {n : Nat} {cs : List Value} {y : DataW H × List MemPlace} (h : DataW.trod enc Try.prog w base sp held n 46 cs = some y) : ∃ e : ActE, cs = acC e ∧ ActOk w e := by
  obtain ⟨hl, n0, y0, t0⟩ := open_fld h 0 5 0 1 (by kernel_rfl)
  obtain ⟨-, n1, y1, t1⟩ := open_fld h 1 9 1 1 (by kernel_rfl)
  obtain ⟨-, n2, y2, t2⟩ := open_fld h 2 3 2 1 (by kernel_rfl)
  obtain ⟨-, n3, y3, t3⟩ := open_fld h 3 9 3 1 (by kernel_rfl)
  obtain ⟨-, n4, y4, t4⟩ := open_fld h 4 40 4 1 (by kernel_rfl)
  have hc : cs.length = 5 := by rw [hl]; kernel_rfl
  obtain ⟨k, e0, hk⟩ := open_u8_c (by kernel_rfl) t0
  obtain ⟨l1, e1, h1⟩ := open_str_c (by kernel_rfl) t1
  obtain ⟨z, e2, h2⟩ := open_i64_c (by kernel_rfl) t2
  obtain ⟨l3, e3, h3⟩ := open_str_c (by kernel_rfl) t3
  obtain ⟨a, l, c, e4, h4, h5, h6⟩ := open_i64s_c (e := 3) (by kernel_rfl) (by kernel_rfl) (by kernel_rfl) t4
  match cs, hc with
  | [v0, v1, v2, v3, v4], _ =>
    simp at e0 e1 e2 e3 e4
    subst e0; subst e1; subst e2; subst e3; subst e4
    exact ⟨⟨k, l1, z, l3, a, c, l⟩, rfl, ⟨hk, h1, h2, h3, h4, h6, h5⟩⟩

end

end Go.Proofs

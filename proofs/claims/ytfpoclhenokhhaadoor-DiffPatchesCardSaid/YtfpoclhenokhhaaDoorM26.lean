/-
  Arguments opened: changes.
-/
import Derived.Test.YtfpoclhenokhhaaDoorM25
import Derived.Test.YtfpoclhenokhhaaDoorM24
/-
  Arguments opened: changes.
-/
namespace Go.Proofs
open Go Go.Eng
set_option maxRecDepth 100000
set_option maxHeartbeats 4000000
attribute [local irreducible] Tri
open Go.WideShapes

/-- A change as it is handed in. -/
structure ChFit (w : World) (e : ChE) : Prop where
  k : In3 e.k
  wa : SlOk w e.wa (i64s e.was)
  ia : SlOk w e.ia (i64s e.is)
  wl : e.was.length ≤ 9223372036854775807
  il : e.is.length ≤ 9223372036854775807
  wi : ∀ x, x ∈ e.was → inK .i64 x
  ii : ∀ x, x ∈ e.is → inK .i64 x
theorem Tryd.chg_c {H : Type} {enc : TypeId × Value → H} {w : World} {base : Nat} {sp : Nat → Bool} {held : Bool} {n : Nat} {cs : List Value} {y : DataW H × List MemPlace} (h : DataW.trod enc Tryd.prog w base sp held n 46 cs = some y) : ∃ e : ChE, cs = chC e ∧ ChFit w e := by
  obtain ⟨hl, n0, y0, t0⟩ := open_fld h 0 3 0 1 (by kernel_rfl)
  obtain ⟨-, n1, y1, t1⟩ := open_fld h 1 2 1 1 (by kernel_rfl)
  obtain ⟨-, n2, y2, t2⟩ := open_fld h 2 2 2 1 (by kernel_rfl)
  obtain ⟨-, n3, y3, t3⟩ := open_fld h 3 44 3 1 (by kernel_rfl)
  obtain ⟨-, n4, y4, t4⟩ := open_fld h 4 44 4 1 (by kernel_rfl)
  have hc : cs.length = 5 := by rw [hl]; kernel_rfl
  obtain ⟨k, e0, hk⟩ := open_i64_c (by kernel_rfl) t0
  obtain ⟨p, e1, hp⟩ := open_i64_c (by kernel_rfl) t1
  obtain ⟨q, e2, hq⟩ := open_i64_c (by kernel_rfl) t2
  obtain ⟨a3, l3, c3, e3, h3, i3, n3⟩ := open_i64s_c (e := 2) (by kernel_rfl) (by kernel_rfl) (by kernel_rfl) t3
  obtain ⟨a4, l4, c4, e4, h4, i4, n4⟩ := open_i64s_c (e := 2) (by kernel_rfl) (by kernel_rfl) (by kernel_rfl) t4
  match cs, hc with
  | [v0, v1, v2, v3, v4], _ =>
    simp at e0 e1 e2 e3 e4
    subst e0; subst e1; subst e2; subst e3; subst e4
    exact ⟨⟨(k, p, q), l3, a3, c3, l4, a4, c4⟩, rfl, ⟨⟨hk, hp, hq⟩, h3, h4, n3, n4, i3, i4⟩⟩
/-- What isn't great, fits. -/
theorem ChFit.chl {w : World} {L : List ChE} (h : ∀ e, e ∈ L → ChFit w e) (hs : ∀ e, e ∈ L → e.was.length ≤ 20 ∧ e.is.length ≤ 20) : ChL w L := fun e he => by
  have h1 := h e he
  obtain ⟨h2, h3⟩ := hs e he
  exact ⟨h1.wa, h1.ia, by omega, by omega⟩
theorem ChFit.chi {w : World} {L : List ChE} (h : ∀ e, e ∈ L → ChFit w e) : ChI L := fun e he => ⟨(h e he).k, (h e he).ii⟩

end Go.Proofs

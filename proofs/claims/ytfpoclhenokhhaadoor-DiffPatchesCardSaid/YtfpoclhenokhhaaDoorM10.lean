/-
  Arguments opened: a book.
-/
import Derived.Test.YtfpoclhenokhhaaDoorM7
import Derived.Test.YtfpoclhenokhhaaDoorM9
/-
  Arguments opened: a book.
-/
namespace Go.Proofs
open Go Go.Eng
set_option maxRecDepth 100000
set_option maxHeartbeats 4000000
attribute [local irreducible] Tri
open Go.WideShapes

theorem Tryd.open_book {H : Type} {enc : TypeId × Value → H} {w : World} {base : Nat} {sp : Nat → Bool} {held : Bool} {r : Reach} {b0 : Nat} {v : Value} {d : DataW H} {ps : List MemPlace} (hval : Value.okWide Tryd.prog w r b0 27 v)
    (h : DataW.Trod enc Tryd.prog w base sp held 27 v d ps) : ∃ (b : Bk) (A : BkA), v = .agg ⟨bkV b A⟩ ∧ BkFit b ∧ BkOk w b A := by
  have h0 : (match Tryd.prog.underlying 27 with | some (.struct _) => true | _ => false) = true := by kernel_rfl
  obtain ⟨fs, hfs⟩ : ∃ fs, Tryd.prog.underlying 27 = some (.struct fs) := by
    split at h0
    · exact ⟨_, by assumption⟩
    · cases h0
  obtain ⟨cs, rfl, hsz⟩ := okWide_struct hfs hval
  obtain ⟨fuel, hf⟩ := h
  obtain ⟨xs, n, -, -, hl, hxl, hx⟩ := DataW.trod_struct hfs hf
  have get (i t o c : Nat) (hi : i < xs.length) (h1 : (match Tryd.prog.underlying 27 with | some (.struct fs) => (match fs[i]? with | some f => Nat.beq f.type t && Nat.beq f.offset o && Nat.beq (Tryd.prog.cellsOf f.type) c | none => false) | _ => false) = true) :
      ∃ y, DataW.trod enc Tryd.prog w base sp held n t (((Value.agg cs).cells.toList.drop o).take c) = some y := by
    rw [hfs] at h1
    simp only at h1
    split at h1
    case h_2 => cases h1
    rename_i f hfi
    simp only [Bool.and_eq_true] at h1
    obtain ⟨⟨h2, h3⟩, h4⟩ := h1
    have h2 := Nat.eq_of_beq_eq_true h2
    have h3 := Nat.eq_of_beq_eq_true h3
    have h4 := Nat.eq_of_beq_eq_true h4
    have := hx i f hfi
    rw [h4, h3, List.getElem?_eq_getElem hi, h2] at this
    exact ⟨_, this⟩
  have hn : xs.length = 5 := by
    rw [hxl]
    have h5 : (match Tryd.prog.underlying 27 with | some (.struct fs) => Nat.beq fs.size 5 | _ => false) = true := by kernel_rfl
    rw [hfs] at h5
    exact Nat.eq_of_beq_eq_true h5
  obtain ⟨y0, t0⟩ := get 0 22 0 1 (by omega) (by kernel_rfl)
  obtain ⟨y1, t1⟩ := get 1 23 1 1 (by omega) (by kernel_rfl)
  obtain ⟨y2, t2⟩ := get 2 24 2 1 (by omega) (by kernel_rfl)
  obtain ⟨y3, t3⟩ := get 3 25 3 1 (by omega) (by kernel_rfl)
  obtain ⟨y4, t4⟩ := get 4 2 4 1 (by omega) (by kernel_rfl)
  obtain ⟨a0, l0, c0, e0, s0, r0, n0⟩ := open_recs (e := 52) (sz := 4) (by kernel_rfl) (by kernel_rfl) (by omega) t0
  obtain ⟨a1, l1, c1, e1, s1, r1, n1⟩ := open_recs (e := 54) (sz := 3) (by kernel_rfl) (by kernel_rfl) (by omega) t1
  obtain ⟨a2, l2, c2, e2, s2, r2, n2⟩ := open_recs (e := 57) (sz := 6) (by kernel_rfl) (by kernel_rfl) (by omega) t2
  obtain ⟨a3, l3, c3, e3, s3, r3, n3⟩ := open_recs (e := 50) (sz := 2) (by kernel_rfl) (by kernel_rfl) (by omega) t3
  obtain ⟨z, e4, -, h4⟩ := DataW.trod_int (k := .i64) (by kernel_rfl) t4
  have hc5 : cs.size = 5 := by rw [hsz]; kernel_rfl
  have hcells : (Value.agg cs).cells = cs := rfl
  rw [hcells] at e0 e1 e2 e3 e4
  obtain ⟨c⟩ := cs
  match c, hc5 with
  | [v0, v1, v2, v3, v4], _ =>
    simp at e0 e1 e2 e3 e4
    subst e0; subst e1; subst e2; subst e3; subst e4
    refine ⟨⟨l0, l1, l2, l3, z⟩, ⟨a0, a1, a2, a3, c0, c1, c2, c3⟩, rfl, ⟨r0, r1, r2, r3, n0, n1, n2, n3, ?_⟩, ⟨s0, s1, s2, s3⟩⟩
    have := lit_in h4
    have m1 : IntKind.i64.min = -9223372036854775808 := by decide
    have m2 : IntKind.i64.max = 9223372036854775807 := by decide
    simp only [inK]; omega

end Go.Proofs

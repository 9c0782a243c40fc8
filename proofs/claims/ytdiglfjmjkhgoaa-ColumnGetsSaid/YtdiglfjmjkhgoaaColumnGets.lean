/-
  PROVED HERE: the statement ColumnGets (the column of any bytes, or the error, is the document's; what is got is put as it was) of the given program: whatever the arguments, the law's function returns true, does not panic, and leaves its input as it was. Conditions: none beyond the given row's own.
-/
import Derived.Test.YtdiglfjmjkhgoaaRows
import Derived.Test.YtdiglfjmjkhgoaaE15
import Derived.Test.YtdiglfjmjkhgoaaW11
namespace Go.Proofs.Ytdiglfjmjkhgoaa
open Go.Eng Go.ChangeMaps Go.ChangeShapes Go.WideShapes Go.ChangeAt Go.RowKit

theorem own : ownKnob Try.prog.godebug = none := by kernel_rfl
theorem laid : laidOutB Try.prog = true := by kernel_rfl

set_option maxRecDepth 100000 in
theorem lifted (os : Os) (started : os.Started) (H : Type) (enc : TypeId × Value → H) :
    ReturnsInHanded {} Try.checked os 4 .any (Rows.columnGetsSpec.pre6 enc Try.prog Try.f4 Rows.columnGetsRow.domain false) (Rows.columnGetsSpec.post enc Try.prog Try.f4 false true false false) := by
  refine returnsInHanded_of_change (C := Try.checked) own started (by kernel_rfl) Try.func4
    (ChangeSpec.witness6 (enc := enc) (C := Try.checked) false ⟨#[], #[.string ⟨#[]⟩, .int .i64 0], []⟩ 8 (by kernel_rfl) (by kernel_rfl) (by kernel_rfl) (by kernel_rfl)) ?_
  intro W base args ds gs before hval0 hW hcnd _
  have hval : ∀ (j : Nat) t v, Try.f4.params[j]? = some t → args[j]? = some v → Value.okWide Try.prog W .any base t v := hval0
  have hW' := hW
  obtain ⟨p, q, hA0, hV, rfl, hfz, hnd⟩ := hW
  have hA : DataW.TrodAll enc Try.prog W 0 (fun _ => true) true Try.f4.params.toList args.toList ds p := hA0
  rw [Try.params4] at hA hval
  obtain ⟨v0, vs0, d0, ds0, p0, q0, hargs, rfl, rfl, h0, r0⟩ := trodAll_cons hA
  obtain ⟨v1, vs1, d1, ds1, p1, q1, rfl, rfl, rfl, h1, r1⟩ := trodAll_cons r0
  obtain ⟨rfl, rfl, rfl⟩ := trodAll_nil r1
  obtain rfl : args = #[v0, v1] := by cases args; simp_all
  obtain ⟨rfl, rfl⟩ := trodVars_none hV
  obtain ⟨s0, rfl, -, -, w0⟩ := open_string (by kernel_rfl) (hval 0 9 v0 rfl rfl) h0
  obtain ⟨a1, rfl, -, -, w1⟩ := open_int (k := .i64) (by kernel_rfl) (hval 1 3 v1 rfl rfl) h1
  have hcall : Fun Try.prog 4 _ W (.bool true) := Try.gets_w s0 a1 W
  exact hcall.calls.mono fun e W' ⟨he, hg⟩ => by
    subst he
    exact ⟨_, rfl, post_law (tb := 4) laid (by rw [Try.params4]; decide +kernel) hW' rfl rfl rfl (by kernel_rfl) hg⟩

theorem over : Rows.columnGetsRow.holds Try.pinned (OpenSpec.ofChange Rows.columnGetsSpec) :=
  OpenClaim.holds_of_wide 4 Try.f4 rfl rfl rfl rfl rfl rfl rfl ⟨rfl, rfl, rfl, rfl, rfl⟩ rfl rfl rfl rfl rfl (by kernel_rfl) Try.func4 (by kernel_rfl)
    (of_decide_eq_true (by kernel_rfl)) (by unfold Func.isWrapper; first | (rw [if_pos (by decide +kernel)]; kernel_rfl) | (rw [if_neg (by decide +kernel)]; exact ⟨rfl, rfl⟩))
    (fun os started H enc _ => lifted os started H enc)

/-- ████ THE STATEMENT ████ -/
theorem columnGets_proved : Rows.ColumnGetsSaid :=
  over
end Go.Proofs.Ytdiglfjmjkhgoaa

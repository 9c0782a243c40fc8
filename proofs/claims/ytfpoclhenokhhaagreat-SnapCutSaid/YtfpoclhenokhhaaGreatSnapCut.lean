/-
  PROVED HERE: the statement SnapCut (a book's bytes that are cut are no book's) of the given program: whatever the arguments, the law's function returns true, does not panic, and leaves its input as it was. Conditions: none beyond the given row's own.
-/
import Derived.Test.YtfpoclhenokhhaaGreatRows
import Derived.Test.YtfpoclhenokhhaaGreatM6
import Derived.Test.YtfpoclhenokhhaaGreatM17
import Derived.Test.YtfpoclhenokhhaaGreatM16
namespace Go.Proofs.YtfpoclhenokhhaaGreat
open Go.Eng Go.ChangeMaps Go.ChangeShapes Go.WideShapes Go.ChangeAt Go.RowKit

theorem own : ownKnob Tryz.prog.godebug = none := by kernel_rfl
theorem laid : laidOutB Tryz.prog = true := by kernel_rfl

set_option maxRecDepth 100000 in
theorem lifted (os : Os) (started : os.Started) (H : Type) (enc : TypeId × Value → H) :
    ReturnsInHanded {} Tryz.checked os 5 .any (Rows.snapCutSpec.pre6 enc Tryz.prog Tryz.f5 Rows.snapCutRow.domain false) (Rows.snapCutSpec.post enc Tryz.prog Tryz.f5 false true false false) := by
  refine returnsInHanded_of_change (C := Tryz.checked) own started (by kernel_rfl) Tryz.func5
    (ChangeSpec.witness6 (enc := enc) (C := Tryz.checked) false ⟨#[], #[.agg #[.slice none 0 0, .slice none 0 0, .slice none 0 0, .slice none 0 0, .int .i64 0], .int .u16 0], []⟩ 8 (by kernel_rfl) (by kernel_rfl) (by kernel_rfl) (by kernel_rfl)) ?_
  intro W base args ds gs before hval0 hW hcnd _
  have hval : ∀ (j : Nat) t v, Tryz.f5.params[j]? = some t → args[j]? = some v → Value.okWide Tryz.prog W .any base t v := hval0
  have hW' := hW
  obtain ⟨p, q, hA0, hV, rfl, hfz, hnd⟩ := hW
  have hA : DataW.TrodAll enc Tryz.prog W 0 (fun _ => true) true Tryz.f5.params.toList args.toList ds p := hA0
  rw [Tryz.params5] at hA hval
  obtain ⟨v0, vs0, d0, ds0, p0, q0, hargs, rfl, rfl, h0, r0⟩ := trodAll_cons hA
  obtain ⟨v1, vs1, d1, ds1, p1, q1, rfl, rfl, rfl, h1, r1⟩ := trodAll_cons r0
  obtain ⟨rfl, rfl, rfl⟩ := trodAll_nil r1
  obtain rfl : args = #[v0, v1] := by cases args; simp_all
  obtain ⟨rfl, rfl⟩ := trodVars_none hV
  obtain ⟨b0, A0, rfl, hf0, hb0⟩ := Tryz.open_book (hval 0 27 v0 rfl rfl) h0
  obtain ⟨a1, rfl, -, -, w1⟩ := open_int (k := .u16) (by kernel_rfl) (hval 1 39 v1 rfl rfl) h1
  have hcall : Fun Tryz.prog 5 _ W (.bool true) := Tryz.cut13_w b0 A0 a1 W hf0 hb0 (by have h2 := lit_in w1; rw [show IntKind.u16.min = 0 by decide, show IntKind.u16.max = 65535 by decide] at h2; exact h2)
  exact hcall.calls.mono fun e W' ⟨he, hg⟩ => by
    subst he
    exact ⟨_, rfl, post_law (tb := 4) laid (by rw [Tryz.params5]; decide +kernel) hW' rfl rfl rfl (by kernel_rfl) hg⟩

theorem over : Rows.snapCutRow.holds Tryz.pinned (OpenSpec.ofChange Rows.snapCutSpec) :=
  OpenClaim.holds_of_wide 5 Tryz.f5 rfl rfl rfl rfl rfl rfl rfl ⟨rfl, rfl, rfl, rfl, rfl⟩ rfl rfl rfl rfl rfl (by kernel_rfl) Tryz.func5 (by kernel_rfl)
    (of_decide_eq_true (by kernel_rfl)) (by unfold Func.isWrapper; first | (rw [if_pos (by decide +kernel)]; kernel_rfl) | (rw [if_neg (by decide +kernel)]; exact ⟨rfl, rfl⟩))
    (fun os started H enc _ => lifted os started H enc)

/-- ████ THE STATEMENT ████ -/
theorem snapCut_proved : Rows.SnapCutSaid :=
  over
end Go.Proofs.YtfpoclhenokhhaaGreat

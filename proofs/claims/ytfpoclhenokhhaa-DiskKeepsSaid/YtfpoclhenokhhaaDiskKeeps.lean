/-
  PROVED HERE: the statement DiskKeeps (files that were synced, and writes behind their ends: behind any crash the files begin as they were) of the given program: whatever the arguments, the law's function returns true, does not panic, and leaves its input as it was. Conditions: none beyond the given row's own.
-/
import Derived.Test.YtfpoclhenokhhaaRows
import Derived.Test.YtfpoclhenokhhaaE15
import Derived.Test.YtfpoclhenokhhaaW54
namespace Go.Proofs.Ytfpoclhenokhhaa
open Go.Eng Go.ChangeMaps Go.ChangeShapes Go.WideShapes Go.ChangeAt Go.RowKit

theorem own : ownKnob Try.prog.godebug = none := by kernel_rfl
theorem laid : laidOutB Try.prog = true := by kernel_rfl

set_option maxRecDepth 100000 in
theorem lifted (os : Os) (started : os.Started) (H : Type) (enc : TypeId × Value → H) :
    ReturnsInHanded {} Try.checked os 6 .any (Rows.diskKeepsSpec.pre6 enc Try.prog Try.f6 Rows.diskKeepsRow.domain false) (Rows.diskKeepsSpec.post enc Try.prog Try.f6 false true false false) := by
  refine returnsInHanded_of_change (C := Try.checked) own started (by kernel_rfl) Try.func6
    (ChangeSpec.witness6 (enc := enc) (C := Try.checked) false ⟨#[], #[.slice none 0 0, .slice none 0 0, .slice none 0 0], []⟩ 8 (by kernel_rfl) (by kernel_rfl) (by kernel_rfl) (by kernel_rfl)) ?_
  intro W base args ds gs before hval0 hW hcnd _
  have hval : ∀ (j : Nat) t v, Try.f6.params[j]? = some t → args[j]? = some v → Value.okWide Try.prog W .any base t v := hval0
  have hW' := hW
  obtain ⟨p, q, hA0, hV, rfl, hfz, hnd⟩ := hW
  have hA : DataW.TrodAll enc Try.prog W 0 (fun _ => true) true Try.f6.params.toList args.toList ds p := hA0
  rw [Try.params6] at hA hval
  obtain ⟨v0, vs0, d0, ds0, p0, q0, hargs, rfl, rfl, h0, r0⟩ := trodAll_cons hA
  obtain ⟨v1, vs1, d1, ds1, p1, q1, rfl, rfl, rfl, h1, r1⟩ := trodAll_cons r0
  obtain ⟨v2, vs2, d2, ds2, p2, q2, rfl, rfl, rfl, h2, r2⟩ := trodAll_cons r1
  obtain ⟨rfl, rfl, rfl⟩ := trodAll_nil r2
  obtain rfl : args = #[v0, v1, v2] := by cases args; simp_all
  obtain ⟨rfl, rfl⟩ := trodVars_none hV
  obtain ⟨a0, l0, c0, rfl, hs0, hp0, hl0⟩ := open_arg (f := flC) (e := 56) (by kernel_rfl) (by decide +kernel) (fun n r y hy => Try.file_c hy) (hval 0 38 v0 rfl rfl) h0
  obtain ⟨a1, l1, c1, rfl, hs1, hp1, hl1⟩ := open_arg (f := acC) (e := 46) (by kernel_rfl) (by decide +kernel) (fun n r y hy => Try.act_c hy) (hval 1 39 v1 rfl rfl) h1
  obtain ⟨a2, xs2, c2, rfl, hs2, hi2, hl2⟩ := open_i64s (e := 3) (by kernel_rfl) (by kernel_rfl) (by kernel_rfl) (hval 2 40 v2 rfl rfl) h2
  have hcall : Fun Try.prog 6 [.slice a0 l0.length c0, .slice a1 l1.length c1, .slice a2 xs2.length c2] W (.bool true) := Try.keeps_w l0 a0 c0 l1 a1 c1 xs2 a2 c2 W hl0 hs0 hp0 hl1 hs1 hp1 hl2 hs2 hi2
  exact hcall.calls.mono fun e W' ⟨he, hg⟩ => by
    subst he
    exact ⟨_, rfl, post_law (tb := 4) laid (by rw [Try.params6]; decide +kernel) hW' rfl rfl rfl (by kernel_rfl) hg⟩

theorem over : Rows.diskKeepsRow.holds Try.pinned (OpenSpec.ofChange Rows.diskKeepsSpec) :=
  OpenClaim.holds_of_wide 6 Try.f6 rfl rfl rfl rfl rfl rfl rfl ⟨rfl, rfl, rfl, rfl, rfl⟩ rfl rfl rfl rfl rfl (by kernel_rfl) Try.func6 (by kernel_rfl)
    (of_decide_eq_true (by kernel_rfl)) (by unfold Func.isWrapper; first | (rw [if_pos (by decide +kernel)]; kernel_rfl) | (rw [if_neg (by decide +kernel)]; exact ⟨rfl, rfl⟩))
    (fun os started H enc _ => lifted os started H enc)

/-- ████ THE STATEMENT ████ -/
theorem diskKeeps_proved : Rows.DiskKeepsSaid :=
  over
end Go.Proofs.Ytfpoclhenokhhaa

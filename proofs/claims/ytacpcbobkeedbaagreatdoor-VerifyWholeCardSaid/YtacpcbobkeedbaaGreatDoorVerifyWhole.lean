/-
  PROVED HERE: the statement VerifyWhole (the log of any rows is accepted with its hash and its segments, and no others; all its rows are told) of the given program: whatever the arguments, the law's function returns true, does not panic, and leaves its input as it was; as a card that ties the listed tables to the program's text. Conditions: none beyond the given row's own.
-/
import Derived.Test.YtacpcbobkeedbaaGreatDoorRows
import Derived.Test.YtacpcbobkeedbaaGreatDoorCards
import Derived.Test.YtacpcbobkeedbaaGreatDoorTie
import Derived.Test.YtacpcbobkeedbaaGreatDoorM6
import Derived.Test.YtacpcbobkeedbaaGreatDoorM14
import Derived.Test.YtacpcbobkeedbaaGreatDoorM15
import Derived.Test.YtacpcbobkeedbaaGreatDoorM39
import Derived.Test.YtacpcbobkeedbaaGreatDoorM43
import Derived.Test.YtacpcbobkeedbaaGreatDoorM44
import Derived.Test.YtacpcbobkeedbaaGreatDoorM45
import Derived.Test.YtacpcbobkeedbaaGreatDoorM13
import Derived.Stop.LaidErr
import Derived.Lay
import Derived.Lib.LaidTab
import Derived.LaidMore
import Derived.SevenTiedAt
namespace Go.Proofs.YtacpcbobkeedbaaGreatDoor
open Go Go.Eng Go.ChangeMaps Go.ChangeShapes Go.WideShapes Go.ChangeAt Go.RowKit

theorem own : ownKnob Tryz.prog.godebug = none := by kernel_rfl
theorem laidOut : laidOutB Tryz.prog = true := k2
theorem uStr : Tryz.prog.underlying 9 = some .string := by kernel_rfl
def isStructB : Option TypeDesc → Bool
  | some (.struct _) => true
  | _ => false
theorem struct_of_B : ∀ {o : Option TypeDesc}, isStructB o = true → ∃ fs, o = some (.struct fs)
  | some (.struct fs), _ => ⟨fs, rfl⟩
theorem uCf : ∃ fs, Tryz.prog.underlying 24 = some (.struct fs) := struct_of_B (by kernel_rfl)
theorem met_plain {W : World} (h : laidMetH Tryz.prog Rows.verifyWholeRow.laid W) : laidMet Tryz.prog Rows.verifyWholeRow.laid W := by
  rwa [MakeChecks.laidMetH_plain _ _ _ (by kernel_rfl)] at h
theorem tabs_of_laid {W : World} (h : laidMetH Tryz.prog Rows.verifyWholeRow.laid W) : Tryz.Tabs W :=
  Tryz.tabs_of (r := []) (met_plain h).tail.tail
/-- The witness: a world with every listed table laid. -/
theorem wit_met (os : Os) (args : Array Value) : laidMetH Tryz.prog Rows.verifyWholeRow.laid ((World.laidAll Tryz.prog os Rows.verifyWholeRow.laid).forCall (fun _ _ => 0) ⟨#[], args, []⟩).memory := by
  rw [MakeChecks.laidMetH_plain _ _ _ (by kernel_rfl)]; exact laidMet_laidAll _ (by kernel_rfl) (by kernel_rfl)

set_option maxRecDepth 100000 in
theorem lifted (os : Os) (started : os.Started) (H : Type) (enc : TypeId × Value → H) :
    ReturnsInHanded {} Tryz.checked os 3 .any (fun w args => (Rows.verifyWholeSpec.pre enc Tryz.prog Tryz.f3 [] false w args ∧ laidMetH Tryz.prog Rows.verifyWholeRow.laid w) ∧ sizedMet enc Tryz.prog Tryz.f3 (OpenSpec.ofChange Rows.verifyWholeSpec) false w args)
      (Rows.verifyWholeSpec.post enc Tryz.prog Tryz.f3 false true false false) := by
  refine handed_and_shaped (C := Tryz.checked) (X := fun w _ => laidMetH Tryz.prog Rows.verifyWholeRow.laid w) (fun _ _ _ hh h => h.of_heap hh) own started (by kernel_rfl) Tryz.func3
    (ChangeSpec.witness_shaped (enc := enc) (C := Tryz.checked) (os := os) (X := fun w _ => laidMetH Tryz.prog Rows.verifyWholeRow.laid w) false (World.laidAll Tryz.prog os Rows.verifyWholeRow.laid) #[.slice none 0 0, .agg (Array.replicate 4 (.int .i64 0))] 8 (World.laidAll_os _ _ _) (World.shaped_of_ZipB (by kernel_rfl) (by kernel_rfl)) (by kernel_rfl) (by kernel_rfl) (by kernel_rfl) (wit_met os _)) ?_
  intro W base args ds gs before hval0 hW hLaid hsh
  have hval : ∀ (j : Nat) t v, Tryz.f3.params[j]? = some t → args[j]? = some v → Value.okWide Tryz.prog W .any base t v := hval0
  have hW' := hW
  obtain ⟨p, q, hA0, hV, rfl, hfz, hnd⟩ := hW
  have hA : DataW.TrodAll enc Tryz.prog W 0 (fun _ => true) true Tryz.f3.params.toList args.toList ds p := hA0
  rw [Tryz.params3] at hA hval
  obtain ⟨v0, vs0, d0, ds0, p0, q0, hargs, rfl, rfl, h0, r0⟩ := trodAll_cons hA
  obtain ⟨v1, vs1, d1, ds1, p1, q1, rfl, rfl, rfl, h1, r1⟩ := trodAll_cons r0
  obtain ⟨rfl, rfl, rfl⟩ := trodAll_nil r1
  obtain rfl : args = #[v0, v1] := by cases args; simp_all
  obtain ⟨rfl, rfl⟩ := trodVars_none hV
  obtain ⟨a0, l0, c0, rfl, hs0, hp0, hl0⟩ := open_arg (f := fun s : List UInt8 => [str s]) (Pr := fun s => s.length ≤ 9223372036854775807) (e := 9) (by kernel_rfl) (by decide +kernel) (fun n r y hy => open_str_c uStr hy) (hval 0 22 v0 rfl rfl) h0
  have kc0 : l0.length ≤ c0 := okWide_cap (e := 9) (by kernel_rfl) (hval 0 22 _ rfl rfl)
  rw [← List.map_eq_flatMap] at hs0
  obtain ⟨fs, hfs⟩ := uCf
  obtain ⟨⟨cl⟩, rfl, -⟩ := okWide_struct hfs (hval 1 24 v1 rfl rfl)
  obtain ⟨fuel, h1'⟩ := h1
  obtain ⟨g1, g2, g3, g4, hcl, hg1, hg2, hg3, hg4⟩ := Tryz.config_c h1'
  obtain rfl : cl = [.int .i64 g1, .int .i64 g2, .int .i64 g3, .int .i64 g4] := hcl
  have hcall : Fun Tryz.prog 3 [.slice a0 l0.length c0, .agg ⟨[.int .i64 g1, .int .i64 g2, .int .i64 g3, .int .i64 g4]⟩] W (.bool true) := Tryz.verifyWhole_w l0 g1 g2 g3 g4 a0 c0 W hl0 kc0 hs0 (tabs_of_laid hLaid) hp0
  exact hcall.calls.mono fun e W' ⟨he, hg⟩ => by
    subst he
    exact ⟨_, rfl, post_law (tb := 4) laidOut (by rw [Tryz.params3]; decide +kernel) hW' rfl rfl rfl (by kernel_rfl) hg⟩

theorem over : Rows.VerifyWholeSaid :=
  OpenClaim.holds_of_wide 3 Tryz.f3 rfl rfl rfl rfl rfl rfl rfl ⟨rfl, rfl, rfl, rfl, rfl⟩ rfl rfl rfl rfl rfl (by kernel_rfl) Tryz.func3 closed
    (of_decide_eq_true (by kernel_rfl)) (by unfold Func.isWrapper; first | (rw [if_pos (by decide +kernel)]; kernel_rfl) | (rw [if_neg (by decide +kernel)]; exact ⟨rfl, rfl⟩))
    (fun os started H enc _ => lifted os started H enc)

/-- ████ THE STATEMENT: the tied card ████ -/
theorem verifyWhole_card_proved : Rows.VerifyWholeCardSaid :=
  Claim7.holds_tied_plain_at .later [] [.data, .data, .data, .data, .data] true (true, "4d4611d26fdc7a8732b0534a286b21240974a1c6c99b682942b8e5a4a2d0e2f7") false
    over (fun _ h => by cases h) (by kernel_rfl) (fun _ h => by cases h) verifyWhole_row_tie rfl ⟨rfl, rfl⟩ (by kernel_rfl) rfl
    (fun f fn hf hfn => by
      obtain rfl : f = 3 := Option.some.inj ((show Tryz.prog.funcNamed "engross/engrosslaw22.VerifyWhole" = some 3 by kernel_rfl).symm.trans hf) |>.symm
      obtain rfl : fn = Tryz.f3 := (Option.some.inj (Tryz.func3.symm.trans hfn)).symm
      exact ⟨by kernel_rfl, fun j t ht => by
        rw [Tryz.params3] at ht
        have hm : t ∈ [22, 24] := by simpa using Array.mem_of_getElem? ht
        have hall : ([22, 24].all fun u => !Tryz.prog.wantsStandIn u) = true := by kernel_rfl
        exact (show Tryz.prog.wantsStandIn t = false by simpa using List.all_eq_true.1 hall t hm)⟩)
    (by kernel_rfl)
end Go.Proofs.YtacpcbobkeedbaaGreatDoor

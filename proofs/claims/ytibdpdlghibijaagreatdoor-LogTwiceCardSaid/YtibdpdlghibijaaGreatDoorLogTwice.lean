/-
  PROVED HERE: the statement LogTwice (opened once more nothing changes; the same rows, appended anew to a disk without files, make the same files) of the given program: whatever the arguments, the law's function returns true, does not panic, and leaves its input as it was; as a card that ties the listed tables to the program's text. Conditions: none beyond the given row's own.
-/
import Derived.Test.YtibdpdlghibijaaGreatDoorRows
import Derived.Test.YtibdpdlghibijaaGreatDoorCards
import Derived.Test.YtibdpdlghibijaaGreatDoorTie
import Derived.Test.YtibdpdlghibijaaGreatDoorMT6
import Derived.Test.YtibdpdlghibijaaGreatDoorMT14
import Derived.Test.YtibdpdlghibijaaGreatDoorMT15
import Derived.Test.YtibdpdlghibijaaGreatDoorMT39
import Derived.Test.YtibdpdlghibijaaGreatDoorMT51
import Derived.Test.YtibdpdlghibijaaGreatDoorMT52
import Derived.Test.YtibdpdlghibijaaGreatDoorMT53
import Derived.Test.YtibdpdlghibijaaGreatDoorMT13
import Derived.Stop.LaidErr
import Derived.Lay
import Derived.Lib.LaidTab
import Derived.LaidMore
import Derived.SevenTiedAt
namespace Go.Proofs.YtibdpdlghibijaaGreatDoor
open Go Go.Eng Go.ChangeMaps Go.ChangeShapes Go.WideShapes Go.ChangeAt Go.RowKit

theorem own : ownKnob Tryz.prog.godebug = none := by kernel_rfl
theorem laidOut : laidOutB Tryz.prog = true := k2
theorem uStr : Tryz.prog.underlying 9 = some .string := by kernel_rfl
def isStructB : Option TypeDesc → Bool
  | some (.struct _) => true
  | _ => false
theorem struct_of_B : ∀ {o : Option TypeDesc}, isStructB o = true → ∃ fs, o = some (.struct fs)
  | some (.struct fs), _ => ⟨fs, rfl⟩
theorem uCf : ∃ fs, Tryz.prog.underlying 23 = some (.struct fs) := struct_of_B (by kernel_rfl)
theorem met_plain {W : World} (h : laidMetH Tryz.prog Rows.logTwiceRow.laid W) : laidMet Tryz.prog Rows.logTwiceRow.laid W := by
  rwa [MakeChecks.laidMetH_plain _ _ _ (by kernel_rfl)] at h
theorem tabs_of_laid {W : World} (h : laidMetH Tryz.prog Rows.logTwiceRow.laid W) : Tryz.Tabs W :=
  Tryz.tabs_of (r := []) (met_plain h).tail.tail
/-- The witness: a world with every listed table laid. -/
theorem wit_met (os : Os) (args : Array Value) : laidMetH Tryz.prog Rows.logTwiceRow.laid ((World.laidAll Tryz.prog os Rows.logTwiceRow.laid).forCall (fun _ _ => 0) ⟨#[], args, []⟩).memory := by
  rw [MakeChecks.laidMetH_plain _ _ _ (by kernel_rfl)]; exact laidMet_laidAll _ (by kernel_rfl) (by kernel_rfl)

set_option maxRecDepth 100000 in
theorem lifted (os : Os) (started : os.Started) (H : Type) (enc : TypeId × Value → H) :
    ReturnsInHanded {} Tryz.checked os 4 .any (fun w args => (Rows.logTwiceSpec.pre enc Tryz.prog Tryz.f4 [] false w args ∧ laidMetH Tryz.prog Rows.logTwiceRow.laid w) ∧ sizedMet enc Tryz.prog Tryz.f4 (OpenSpec.ofChange Rows.logTwiceSpec) false w args)
      (Rows.logTwiceSpec.post enc Tryz.prog Tryz.f4 false true false false) := by
  refine handed_and_shaped (C := Tryz.checked) (X := fun w _ => laidMetH Tryz.prog Rows.logTwiceRow.laid w) (fun _ _ _ hh h => h.of_heap hh) own started (by kernel_rfl) Tryz.func4
    (ChangeSpec.witness_shaped (enc := enc) (C := Tryz.checked) (os := os) (X := fun w _ => laidMetH Tryz.prog Rows.logTwiceRow.laid w) false (World.laidAll Tryz.prog os Rows.logTwiceRow.laid) #[.slice none 0 0, .agg (Array.replicate 4 (.int .i64 0))] 8 (World.laidAll_os _ _ _) (World.shaped_of_ZipB (by kernel_rfl) (by kernel_rfl)) (by kernel_rfl) (by kernel_rfl) (by kernel_rfl) (wit_met os _)) ?_
  intro W base args ds gs before hval0 hW hLaid hsh
  have hval : ∀ (j : Nat) t v, Tryz.f4.params[j]? = some t → args[j]? = some v → Value.okWide Tryz.prog W .any base t v := hval0
  have hW' := hW
  obtain ⟨p, q, hA0, hV, rfl, hfz, hnd⟩ := hW
  have hA : DataW.TrodAll enc Tryz.prog W 0 (fun _ => true) true Tryz.f4.params.toList args.toList ds p := hA0
  rw [Tryz.params4] at hA hval
  obtain ⟨v0, vs0, d0, ds0, p0, q0, hargs, rfl, rfl, h0, r0⟩ := trodAll_cons hA
  obtain ⟨v1, vs1, d1, ds1, p1, q1, rfl, rfl, rfl, h1, r1⟩ := trodAll_cons r0
  obtain ⟨rfl, rfl, rfl⟩ := trodAll_nil r1
  obtain rfl : args = #[v0, v1] := by cases args; simp_all
  obtain ⟨rfl, rfl⟩ := trodVars_none hV
  obtain ⟨a0, l0, c0, rfl, hs0, hp0, hl0⟩ := open_arg (f := flC) (e := 57) (by kernel_rfl) (by decide +kernel) (fun n r y hy => Tryz.file21_c hy) (hval 0 39 v0 rfl rfl) h0
  obtain ⟨fs, hfs⟩ := uCf
  obtain ⟨⟨cl⟩, rfl, -⟩ := okWide_struct hfs (hval 1 23 v1 rfl rfl)
  obtain ⟨fuel, h1'⟩ := h1
  obtain ⟨g1, g2, g3, g4, hcl, hg1, hg2, hg3, hg4⟩ := Tryz.config_c h1'
  obtain rfl : cl = [.int .i64 g1, .int .i64 g2, .int .i64 g3, .int .i64 g4] := hcl
  have hcall : Fun Tryz.prog 4 [.slice a0 l0.length c0, .agg ⟨[.int .i64 g1, .int .i64 g2, .int .i64 g3, .int .i64 g4]⟩] W (.bool true) := Tryz.logTwice_w l0 g1 g2 g3 g4 a0 c0 W hl0 hs0 hp0 (tabs_of_laid hLaid)
  exact hcall.calls.mono fun e W' ⟨he, hg⟩ => by
    subst he
    exact ⟨_, rfl, post_law (tb := 4) laidOut (by rw [Tryz.params4]; decide +kernel) hW' rfl rfl rfl (by kernel_rfl) hg⟩

theorem over : Rows.LogTwiceSaid :=
  OpenClaim.holds_of_wide 4 Tryz.f4 rfl rfl rfl rfl rfl rfl rfl ⟨rfl, rfl, rfl, rfl, rfl⟩ rfl rfl rfl rfl rfl (by kernel_rfl) Tryz.func4 closed
    (of_decide_eq_true (by kernel_rfl)) (by unfold Func.isWrapper; first | (rw [if_pos (by decide +kernel)]; kernel_rfl) | (rw [if_neg (by decide +kernel)]; exact ⟨rfl, rfl⟩))
    (fun os started H enc _ => lifted os started H enc)

/-- ████ THE STATEMENT: the tied card ████ -/
theorem logTwice_card_proved : Rows.LogTwiceCardSaid :=
  Claim7.holds_tied_plain_at .later [] [.data, .data, .data, .data, .data] true (true, "4c84ede0c04b58e8a5bf058dd01a137af82c8677d749da3838799b461ba38e10") false
    over (fun _ h => by cases h) (by kernel_rfl) (fun _ h => by cases h) logTwice_row_tie rfl ⟨rfl, rfl⟩ (by kernel_rfl) rfl
    (fun f fn hf hfn => by
      obtain rfl : f = 4 := Option.some.inj ((show Tryz.prog.funcNamed "engross/engrosslaw19.LogTwice" = some 4 by kernel_rfl).symm.trans hf) |>.symm
      obtain rfl : fn = Tryz.f4 := (Option.some.inj (Tryz.func4.symm.trans hfn)).symm
      exact ⟨by kernel_rfl, fun j t ht => by
        rw [Tryz.params4] at ht
        have hm : t ∈ [39, 23] := by simpa using Array.mem_of_getElem? ht
        have hall : ([39, 23].all fun u => !Tryz.prog.wantsStandIn u) = true := by kernel_rfl
        exact (show Tryz.prog.wantsStandIn t = false by simpa using List.all_eq_true.1 hall t hm)⟩)
    (by kernel_rfl)
end Go.Proofs.YtibdpdlghibijaaGreatDoor

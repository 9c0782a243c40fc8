/-
  PROVED HERE: the statement LogPlays (whatever is done with a log, crashes too: what each answers, the rows, the headers, and what stands on the disk, are the document's) of the given program: whatever the arguments, the law's function returns true, does not panic, and leaves its input as it was; as a card that ties the listed tables to the program's text. Conditions: none beyond the given row's own.
-/
import Derived.Test.YtibdpdlghibijaaGreatDoorRows
import Derived.Test.YtibdpdlghibijaaGreatDoorCards
import Derived.Test.YtibdpdlghibijaaGreatDoorTie
import Derived.Test.YtibdpdlghibijaaGreatDoorMP6
import Derived.Test.YtibdpdlghibijaaGreatDoorMP15
import Derived.Test.YtibdpdlghibijaaGreatDoorMP39
import Derived.Test.YtibdpdlghibijaaGreatDoorMP52
import Derived.Test.YtibdpdlghibijaaGreatDoorMP53
import Derived.Test.YtibdpdlghibijaaGreatDoorMP54
import Derived.Test.YtibdpdlghibijaaGreatDoorMP13
import Derived.Stop.LaidErr
import Derived.Lay
import Derived.Lib.LaidTab
import Derived.LaidMore
import Derived.SevenTiedAt
namespace Go.Proofs.YtibdpdlghibijaaGreatDoor
open Go Go.Eng Go.ChangeMaps Go.ChangeShapes Go.WideShapes Go.ChangeAt Go.RowKit

theorem own : ownKnob Tryz.prog.godebug = none := by kernel_rfl
theorem laidOut : laidOutB Tryz.prog = true := k2
theorem uStr : Tryz.prog.underlying 9 = some .string := by kernel_rfl
def isStructB : Option TypeDesc → Bool
  | some (.struct _) => true
  | _ => false
theorem struct_of_B : ∀ {o : Option TypeDesc}, isStructB o = true → ∃ fs, o = some (.struct fs)
  | some (.struct fs), _ => ⟨fs, rfl⟩
theorem uCf : ∃ fs, Tryz.prog.underlying 23 = some (.struct fs) := struct_of_B (by kernel_rfl)
theorem met_plain {W : World} (h : laidMetH Tryz.prog Rows.logPlaysRow.laid W) : laidMet Tryz.prog Rows.logPlaysRow.laid W := by
  rwa [MakeChecks.laidMetH_plain _ _ _ (by kernel_rfl)] at h
theorem tabs_of_laid {W : World} (h : laidMetH Tryz.prog Rows.logPlaysRow.laid W) : Tryz.Tabs W :=
  Tryz.tabs_of (r := []) (met_plain h).tail.tail
/-- The witness: a world with every listed table laid. -/
theorem wit_met (os : Os) (args : Array Value) : laidMetH Tryz.prog Rows.logPlaysRow.laid ((World.laidAll Tryz.prog os Rows.logPlaysRow.laid).forCall (fun _ _ => 0) ⟨#[], args, []⟩).memory := by
  rw [MakeChecks.laidMetH_plain _ _ _ (by kernel_rfl)]; exact laidMet_laidAll _ (by kernel_rfl) (by kernel_rfl)

set_option maxRecDepth 100000 in
theorem lifted (os : Os) (started : os.Started) (H : Type) (enc : TypeId × Value → H) :
    ReturnsInHanded {} Tryz.checked os 6 .any (fun w args => (Rows.logPlaysSpec.pre enc Tryz.prog Tryz.f6 [] false w args ∧ laidMetH Tryz.prog Rows.logPlaysRow.laid w) ∧ sizedMet enc Tryz.prog Tryz.f6 (OpenSpec.ofChange Rows.logPlaysSpec) false w args)
      (Rows.logPlaysSpec.post enc Tryz.prog Tryz.f6 false true false false) := by
  refine handed_and_shaped (C := Tryz.checked) (X := fun w _ => laidMetH Tryz.prog Rows.logPlaysRow.laid w) (fun _ _ _ hh h => h.of_heap hh) own started (by kernel_rfl) Tryz.func6
    (ChangeSpec.witness_shaped (enc := enc) (C := Tryz.checked) (os := os) (X := fun w _ => laidMetH Tryz.prog Rows.logPlaysRow.laid w) false (World.laidAll Tryz.prog os Rows.logPlaysRow.laid) #[.agg (Array.replicate 4 (.int .i64 0)), .slice none 0 0] 8 (World.laidAll_os _ _ _) (World.shaped_of_ZipB (by kernel_rfl) (by kernel_rfl)) (by kernel_rfl) (by kernel_rfl) (by kernel_rfl) (wit_met os _)) ?_
  intro W base args ds gs before hval0 hW hLaid hsh
  have hval : ∀ (j : Nat) t v, Tryz.f6.params[j]? = some t → args[j]? = some v → Value.okWide Tryz.prog W .any base t v := hval0
  have hW' := hW
  obtain ⟨p, q, hA0, hV, rfl, hfz, hnd⟩ := hW
  have hA : DataW.TrodAll enc Tryz.prog W 0 (fun _ => true) true Tryz.f6.params.toList args.toList ds p := hA0
  rw [Tryz.params6] at hA hval
  obtain ⟨v0, vs0, d0, ds0, p0, q0, hargs, rfl, rfl, h0, r0⟩ := trodAll_cons hA
  obtain ⟨v1, vs1, d1, ds1, p1, q1, rfl, rfl, rfl, h1, r1⟩ := trodAll_cons r0
  obtain ⟨rfl, rfl, rfl⟩ := trodAll_nil r1
  obtain rfl : args = #[v0, v1] := by cases args; simp_all
  obtain ⟨rfl, rfl⟩ := trodVars_none hV
  obtain ⟨fs, hfs⟩ := uCf
  obtain ⟨⟨cl⟩, rfl, -⟩ := okWide_struct hfs (hval 0 23 v0 rfl rfl)
  obtain ⟨fuel, h0'⟩ := h0
  obtain ⟨g1, g2, g3, g4, hcl, hg1, hg2, hg3, hg4⟩ := Tryz.config_c h0'
  obtain rfl : cl = [.int .i64 g1, .int .i64 g2, .int .i64 g3, .int .i64 g4] := hcl
  obtain ⟨a1, l1, c1, rfl, hs1, hp1, hl1⟩ := open_arg (f := alC) (e := 73) (by kernel_rfl) (by decide +kernel) (fun n r y hy => Tryz.al_c hy) (hval 1 67 v1 rfl rfl) h1
  have hcall : Fun Tryz.prog 6 [.agg ⟨[.int .i64 g1, .int .i64 g2, .int .i64 g3, .int .i64 g4]⟩, .slice a1 l1.length c1] W (.bool true) := Tryz.logPlays_w l1 g1 g2 g3 g4 a1 c1 W hl1 hs1 hp1 (tabs_of_laid hLaid)
  exact hcall.calls.mono fun e W' ⟨he, hg⟩ => by
    subst he
    exact ⟨_, rfl, post_law (tb := 4) laidOut (by rw [Tryz.params6]; decide +kernel) hW' rfl rfl rfl (by kernel_rfl) hg⟩

theorem over : Rows.LogPlaysSaid :=
  OpenClaim.holds_of_wide 6 Tryz.f6 rfl rfl rfl rfl rfl rfl rfl ⟨rfl, rfl, rfl, rfl, rfl⟩ rfl rfl rfl rfl rfl (by kernel_rfl) Tryz.func6 closed
    (of_decide_eq_true (by kernel_rfl)) (by unfold Func.isWrapper; first | (rw [if_pos (by decide +kernel)]; kernel_rfl) | (rw [if_neg (by decide +kernel)]; exact ⟨rfl, rfl⟩))
    (fun os started H enc _ => lifted os started H enc)

/-- ████ THE STATEMENT: the tied card ████ -/
theorem logPlays_card_proved : Rows.LogPlaysCardSaid :=
  Claim7.holds_tied_plain_at .later [] [.data, .data, .data, .data, .data] true (true, "4c84ede0c04b58e8a5bf058dd01a137af82c8677d749da3838799b461ba38e10") false
    over (fun _ h => by cases h) (by kernel_rfl) (fun _ h => by cases h) logPlays_row_tie rfl ⟨rfl, rfl⟩ (by kernel_rfl) rfl
    (fun f fn hf hfn => by
      obtain rfl : f = 6 := Option.some.inj ((show Tryz.prog.funcNamed "engross/engrosslaw19.LogPlays" = some 6 by kernel_rfl).symm.trans hf) |>.symm
      obtain rfl : fn = Tryz.f6 := (Option.some.inj (Tryz.func6.symm.trans hfn)).symm
      exact ⟨by kernel_rfl, fun j t ht => by
        rw [Tryz.params6] at ht
        have hm : t ∈ [23, 67] := by simpa using Array.mem_of_getElem? ht
        have hall : ([23, 67].all fun u => !Tryz.prog.wantsStandIn u) = true := by kernel_rfl
        exact (show Tryz.prog.wantsStandIn t = false by simpa using List.all_eq_true.1 hall t hm)⟩)
    (by kernel_rfl)
end Go.Proofs.YtibdpdlghibijaaGreatDoor

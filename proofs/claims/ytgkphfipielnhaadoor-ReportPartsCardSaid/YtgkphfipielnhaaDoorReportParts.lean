/-
  PROVED HERE: the statement ReportParts (the counts of some pairs and others behind them are both together) of the given program: whatever the arguments, the law's function returns true, does not panic, and leaves its input as it was; as a card that ties the listed tables to the program's text. Conditions: none beyond the given row's own.
-/
import Derived.Test.YtgkphfipielnhaaDoorRows
import Derived.Test.YtgkphfipielnhaaDoorCards
import Derived.Test.YtgkphfipielnhaaDoorTie
import Derived.Test.YtgkphfipielnhaaDoorM6
import Derived.Test.YtgkphfipielnhaaDoorM14
import Derived.Test.YtgkphfipielnhaaDoorM27
import Derived.Lib.LaidTab
import Derived.LaidMore
import Derived.SevenTiedAt
namespace Go.Proofs.YtgkphfipielnhaaDoor
open Go Go.Eng Go.ChangeMaps Go.ChangeShapes Go.WideShapes Go.ChangeAt Go.RowKit

theorem own : ownKnob Tryd.prog.godebug = none := by kernel_rfl
theorem laidOut : laidOutB Tryd.prog = true := by kernel_rfl
theorem gRsn : Tryd.prog.globalNamed "engross/event.reasons" = some 2 := by kernel_rfl
theorem tRsn : (Tryd.prog.globals[2]?).map (·.type) = some 177 := by kernel_rfl
theorem uRsn : Tryd.prog.underlying 177 = some (.array 14 9) := by kernel_rfl
theorem uStr : Tryd.prog.underlying 9 = some .string := by kernel_rfl
theorem cStr : Tryd.prog.cellsOf 9 = 1 := by kernel_rfl
theorem cRsn : Tryd.prog.cellsOf 177 = 14 := by kernel_rfl

/-- The door's own heap meets the condition: three closed facts. -/
theorem door_met (os : Os) (args : Array Value) : laidMetH Tryd.prog Rows.reportPartsRow.laid ((World.doorLaid Tryd.prog 400 os).forCall (fun _ _ => 0) ⟨#[], args, []⟩).memory :=
  laidMetH_of_parts3 (fuel := 8) (laidMet_of_run' 8 (by kernel_rfl) (by kernel_rfl)) (by kernel_rfl) (by kernel_rfl)

theorem rsn_of_laid {W : World} (h : laidMetH Tryd.prog Rows.reportPartsRow.laid W) : Tryd.Rsn W := by
  rw [MakeChecks.laidMetH_plain _ _ _ (by kernel_rfl)] at h
  exact (stab_of_head (name := "engross/event.reasons") (ss := reasonT) gRsn tRsn uRsn uStr cStr cRsn h).sl gRsn

set_option maxRecDepth 100000 in
theorem lifted (os : Os) (started : os.Started) (H : Type) (enc : TypeId × Value → H) :
    ReturnsInHanded {} Tryd.checked os 4 .any (fun w args => (Rows.reportPartsSpec.pre enc Tryd.prog Tryd.f4 [] false w args ∧ laidMetH Tryd.prog Rows.reportPartsRow.laid w) ∧ sizedMet enc Tryd.prog Tryd.f4 (OpenSpec.ofChange Rows.reportPartsSpec) false w args)
      (Rows.reportPartsSpec.post enc Tryd.prog Tryd.f4 false true false false) := by
  refine returnsInHanded_of_change_and (C := Tryd.checked) (X := fun w _ => laidMetH Tryd.prog Rows.reportPartsRow.laid w) (fun _ _ _ hh h => h.of_heap hh) own started (by kernel_rfl) Tryd.func4
    (ChangeSpec.witness_shaped (enc := enc) (C := Tryd.checked) (os := os) (X := fun w _ => laidMetH Tryd.prog Rows.reportPartsRow.laid w) false (World.doorLaid Tryd.prog 400 os) #[.slice none 0 0, .slice none 0 0] 8 rfl (World.shaped_of_RefB (by kernel_rfl) (by kernel_rfl)) (by kernel_rfl) (by kernel_rfl) (by kernel_rfl) (door_met os _)) ?_
  intro W base args ds gs before hval0 hW _ _ hLaid _
  have hval : ∀ (j : Nat) t v, Tryd.f4.params[j]? = some t → args[j]? = some v → Value.okWide Tryd.prog W .any base t v := hval0
  have hW' := hW
  obtain ⟨p, q, hA0, hV, rfl, hfz, hnd⟩ := hW
  have hA : DataW.TrodAll enc Tryd.prog W 0 (fun _ => true) true Tryd.f4.params.toList args.toList ds p := hA0
  rw [Tryd.params4] at hA hval
  obtain ⟨v0, vs0, d0, ds0, p0, q0, hargs, rfl, rfl, h0, r0⟩ := trodAll_cons hA
  obtain ⟨v1, vs1, d1, ds1, p1, q1, rfl, rfl, rfl, h1, r1⟩ := trodAll_cons r0
  obtain ⟨rfl, rfl, rfl⟩ := trodAll_nil r1
  obtain rfl : args = #[v0, v1] := by cases args; simp_all
  obtain ⟨rfl, rfl⟩ := trodVars_none hV
  obtain ⟨a0, L, c0, rfl, hs0, hp0, hl0⟩ := open_arg (f := i64s) (e := 74) (by kernel_rfl) (by decide +kernel) (fun n r y hy => Tryd.pair_c hy) (hval 0 22 v0 rfl rfl) h0
  obtain ⟨a1, M, c1, rfl, hs1, hp1, hl1⟩ := open_arg (f := i64s) (e := 74) (by kernel_rfl) (by decide +kernel) (fun n r y hy => Tryd.pair_c hy) (hval 1 22 v1 rfl rfl) h1
  have hcall : Fun Tryd.prog 4 [.slice a0 L.length c0, .slice a1 M.length c1] W (.bool true) := Tryd.parts28_w L M a0 a1 c0 c1 W hp0 hp1 hl0 hl1 hs0 hs1 (rsn_of_laid hLaid)
  exact hcall.calls.mono fun e W' ⟨he, hg⟩ => by
    subst he
    exact ⟨_, rfl, post_law (tb := 4) laidOut (by rw [Tryd.params4]; decide +kernel) hW' rfl rfl rfl (by kernel_rfl) hg⟩

theorem over : Rows.ReportPartsSaid :=
  OpenClaim.holds_of_wide 4 Tryd.f4 rfl rfl rfl rfl rfl rfl rfl ⟨rfl, rfl, rfl, rfl, rfl⟩ rfl rfl rfl rfl rfl (by kernel_rfl) Tryd.func4 (by kernel_rfl)
    (of_decide_eq_true (by kernel_rfl)) (by unfold Func.isWrapper; first | (rw [if_pos (by decide +kernel)]; kernel_rfl) | (rw [if_neg (by decide +kernel)]; exact ⟨rfl, rfl⟩))
    (fun os started H enc _ => lifted os started H enc)

/-- ████ THE STATEMENT: the tied card ████ -/
theorem reportParts_card_proved : Rows.ReportPartsCardSaid :=
  Claim7.holds_tied_plain_at .later [] [.data, .data, .data, .data] true (true, "4da076db35c2bb1b48cfbcb3fb268102e9c7d2e4c5b5f05645e21fa6a270d04f") true
    over (fun _ h => by cases h) (by kernel_rfl) (fun _ h => by cases h) reportParts_row_tie rfl ⟨rfl, rfl⟩ (by kernel_rfl) rfl
    (fun f fn hf hfn => by
      obtain rfl : f = 4 := Option.some.inj ((show Tryd.prog.funcNamed "engross/engrosslaw28.ReportParts" = some 4 by kernel_rfl).symm.trans hf) |>.symm
      obtain rfl : fn = Tryd.f4 := (Option.some.inj (Tryd.func4.symm.trans hfn)).symm
      exact ⟨by kernel_rfl, fun j t ht => by
        rw [Tryd.params4] at ht
        have hm : t ∈ [22, 22] := by simpa using Array.mem_of_getElem? ht
        have hall : ([22, 22].all fun u => !Tryd.prog.wantsStandIn u) = true := by kernel_rfl
        exact (show Tryd.prog.wantsStandIn t = false by simpa using List.all_eq_true.1 hall t hm)⟩)
    (by kernel_rfl)
end Go.Proofs.YtgkphfipielnhaaDoor

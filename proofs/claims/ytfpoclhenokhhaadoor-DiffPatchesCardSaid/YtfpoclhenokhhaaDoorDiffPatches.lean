/-
  PROVED HERE: the statement DiffPatches (any book patched by any changes, or the error, is the document's; whether any are alike, and any turned, too) of the given program: whatever the arguments, the law's function returns true, does not panic, and leaves its input as it was; as a card that ties the table of widths to the program's text. Conditions: none beyond the given row's own.
-/
import Derived.Test.YtfpoclhenokhhaaDoorRows
import Derived.Test.YtfpoclhenokhhaaDoorCards
import Derived.Test.YtfpoclhenokhhaaDoorTie
import Derived.Test.YtfpoclhenokhhaaDoorM6
import Derived.Test.YtfpoclhenokhhaaDoorM10
import Derived.Test.YtfpoclhenokhhaaDoorM28
import Derived.Test.YtfpoclhenokhhaaDoorM26
import Derived.Lib.LaidTab
import Derived.LaidMore
import Derived.SevenTiedAt
namespace Go.Proofs.YtfpoclhenokhhaaDoor
open Go Go.Eng Go.ChangeMaps Go.ChangeShapes Go.WideShapes Go.ChangeAt Go.RowKit

theorem own : ownKnob Tryd.prog.godebug = none := by kernel_rfl
theorem laidOut : laidOutB Tryd.prog = true := by kernel_rfl
theorem gWid : Tryd.prog.globalNamed "engross/diff.width" = some 0 := by kernel_rfl
theorem tWid : (Tryd.prog.globals[0]?).map (·.type) = some 151 := by kernel_rfl
theorem uWid : Tryd.prog.underlying 151 = some (.array 6 3) := by kernel_rfl
theorem uInt : Tryd.prog.underlying 3 = some (.int .i64) := by kernel_rfl
theorem cInt : Tryd.prog.cellsOf 3 = 1 := by kernel_rfl
theorem cWid : Tryd.prog.cellsOf 151 = 6 := by kernel_rfl

/-- The door's own heap meets the condition: three closed facts. -/
theorem door_met (os : Os) (args : Array Value) : laidMetH Tryd.prog Rows.diffPatchesRow.laid ((World.doorLaid Tryd.prog 400 os).forCall (fun _ _ => 0) ⟨#[], args, []⟩).memory :=
  laidMetH_of_parts3 (fuel := 8) (laidMet_of_run' 8 (by kernel_rfl) (by kernel_rfl)) (by kernel_rfl) (by kernel_rfl)

theorem wid_of_laid {W : World} (h : laidMetH Tryd.prog Rows.diffPatchesRow.laid W) : Tryd.Wid W := by
  rw [MakeChecks.laidMetH_plain _ _ _ (by kernel_rfl)] at h
  have ht := Lib.tabIs_of_head (name := "engross/diff.width") (k := .i64) (zs := [0, 3, 1, 5, 1, 1]) (rest := []) gWid tWid uWid uInt cInt cWid h
  refine .inr ⟨_, _, rfl, fun j u hu => ?_⟩
  have hj : j < 6 := by
    have := (List.getElem?_eq_some_iff.1 hu).1
    simpa [i64s] using this
  rw [Nat.zero_add, ht.cell gWid j (by simpa using hj)]
  rw [i64s, List.getElem?_map] at hu
  obtain ⟨x, hx, rfl⟩ := Option.map_eq_some_iff.1 hu
  rw [List.getD, hx]; rfl

set_option maxRecDepth 100000 in
theorem lifted (os : Os) (started : os.Started) (H : Type) (enc : TypeId × Value → H) :
    ReturnsInHanded {} Tryd.checked os 4 .any (fun w args => (Rows.diffPatchesSpec.pre enc Tryd.prog Tryd.f4 [] false w args ∧ laidMetH Tryd.prog Rows.diffPatchesRow.laid w) ∧ sizedMet enc Tryd.prog Tryd.f4 (OpenSpec.ofChange Rows.diffPatchesSpec) false w args)
      (Rows.diffPatchesSpec.post enc Tryd.prog Tryd.f4 false true false false) := by
  refine returnsInHanded_of_change_and (C := Tryd.checked) (X := fun w _ => laidMetH Tryd.prog Rows.diffPatchesRow.laid w) (fun _ _ _ hh h => h.of_heap hh) own started (by kernel_rfl) Tryd.func4
    (ChangeSpec.witness_shaped (enc := enc) (C := Tryd.checked) (os := os) (X := fun w _ => laidMetH Tryd.prog Rows.diffPatchesRow.laid w) false (World.doorLaid Tryd.prog 400 os) #[.agg #[.slice none 0 0, .slice none 0 0, .slice none 0 0, .slice none 0 0, .int .i64 0], .slice none 0 0, .slice none 0 0] 8 rfl (World.shaped_of_RefB (by kernel_rfl) (by kernel_rfl)) (by kernel_rfl) (by kernel_rfl) (by kernel_rfl) (door_met os _)) ?_
  intro W base args ds gs before hval0 hW _ _ hLaid _
  have hval : ∀ (j : Nat) t v, Tryd.f4.params[j]? = some t → args[j]? = some v → Value.okWide Tryd.prog W .any base t v := hval0
  have hW' := hW
  obtain ⟨p, q, hA0, hV, rfl, hfz, hnd⟩ := hW
  have hA : DataW.TrodAll enc Tryd.prog W 0 (fun _ => true) true Tryd.f4.params.toList args.toList ds p := hA0
  rw [Tryd.params4] at hA hval
  obtain ⟨v0, vs0, d0, ds0, p0, q0, hargs, rfl, rfl, h0, r0⟩ := trodAll_cons hA
  obtain ⟨v1, vs1, d1, ds1, p1, q1, rfl, rfl, rfl, h1, r1⟩ := trodAll_cons r0
  obtain ⟨v2, vs2, d2, ds2, p2, q2, rfl, rfl, rfl, h2, r2⟩ := trodAll_cons r1
  obtain ⟨rfl, rfl, rfl⟩ := trodAll_nil r2
  obtain rfl : args = #[v0, v1, v2] := by cases args; simp_all
  obtain ⟨rfl, rfl⟩ := trodVars_none hV
  obtain ⟨b0, A0, rfl, hf0, hb0⟩ := Tryd.open_book (hval 0 27 v0 rfl rfl) h0
  obtain ⟨a1, L, c1, rfl, hs1, hp1, hl1⟩ := open_arg (f := chC) (e := 46) (by kernel_rfl) (by decide +kernel) (fun n r y hy => Tryd.chg_c hy) (hval 1 39 v1 rfl rfl) h1
  obtain ⟨a2, M, c2, rfl, hs2, hp2, hl2⟩ := open_arg (f := chC) (e := 46) (by kernel_rfl) (by decide +kernel) (fun n r y hy => Tryd.chg_c hy) (hval 2 39 v2 rfl rfl) h2
  have hcall : Fun Tryd.prog 4 [.agg ⟨bkV b0 A0⟩, .slice a1 L.length c1, .slice a2 M.length c2] W (.bool true) := Tryd.patches14_w b0 A0 L a1 c1 M a2 c2 W hf0 hb0 hl1 hs1 hp1 hl2 hs2 hp2 (wid_of_laid hLaid)
  exact hcall.calls.mono fun e W' ⟨he, hg⟩ => by
    subst he
    exact ⟨_, rfl, post_law (tb := 4) laidOut (by rw [Tryd.params4]; decide +kernel) hW' rfl rfl rfl (by kernel_rfl) hg⟩

theorem over : Rows.DiffPatchesSaid :=
  OpenClaim.holds_of_wide 4 Tryd.f4 rfl rfl rfl rfl rfl rfl rfl ⟨rfl, rfl, rfl, rfl, rfl⟩ rfl rfl rfl rfl rfl (by kernel_rfl) Tryd.func4 (by kernel_rfl)
    (of_decide_eq_true (by kernel_rfl)) (by unfold Func.isWrapper; first | (rw [if_pos (by decide +kernel)]; kernel_rfl) | (rw [if_neg (by decide +kernel)]; exact ⟨rfl, rfl⟩))
    (fun os started H enc _ => lifted os started H enc)

/-- ████ THE STATEMENT: the tied card ████ -/
theorem diffPatches_card_proved : Rows.DiffPatchesCardSaid :=
  Claim7.holds_tied_plain_at .later [] [.data] true (true, "90f2724e51ca4210b07926d13082a2326fc658023a6b57191cbc7c07bc1ee160") false
    over (fun _ h => by cases h) (by kernel_rfl) (fun _ h => by cases h) diffPatches_row_tie rfl ⟨rfl, rfl⟩ (by kernel_rfl) rfl
    (fun f fn hf hfn => by
      obtain rfl : f = 4 := Option.some.inj ((show Tryd.prog.funcNamed "engross/engrosslaw14.DiffPatches" = some 4 by kernel_rfl).symm.trans hf) |>.symm
      obtain rfl : fn = Tryd.f4 := (Option.some.inj (Tryd.func4.symm.trans hfn)).symm
      exact ⟨by kernel_rfl, fun j t ht => by
        rw [Tryd.params4] at ht
        have hm : t ∈ [27, 39, 39] := by simpa using Array.mem_of_getElem? ht
        have hall : ([27, 39, 39].all fun u => !Tryd.prog.wantsStandIn u) = true := by kernel_rfl
        exact (show Tryd.prog.wantsStandIn t = false by simpa using List.all_eq_true.1 hall t hm)⟩)
    (by kernel_rfl)
end Go.Proofs.YtfpoclhenokhhaaDoor

/-
  PROVED HERE: the statement ImageReads (what is read of any files is the document's) of the given program: whatever the arguments, the law's function returns true, does not panic, and leaves its input as it was; as a card that ties the listed tables to the program's text. Conditions: none beyond the given row's own.
-/
import Derived.Test.YthmoeebmeifleaaDoorRows
import Derived.Test.YthmoeebmeifleaaDoorCards
import Derived.Test.YthmoeebmeifleaaDoorTie
import Derived.Test.YthmoeebmeifleaaDoorM6
import Derived.Test.YthmoeebmeifleaaDoorM14
import Derived.Test.YthmoeebmeifleaaDoorM35
import Derived.Test.YthmoeebmeifleaaDoorM36
import Derived.Stop.LaidErr
import Derived.Lay
import Derived.Lib.LaidTab
import Derived.LaidMore
import Derived.SevenTiedAt
namespace Go.Proofs.YthmoeebmeifleaaDoor
open Go Go.Eng Go.ChangeMaps Go.ChangeShapes Go.WideShapes Go.ChangeAt Go.RowKit

theorem own : ownKnob Tryd.prog.godebug = none := by kernel_rfl
theorem laidOut : laidOutB Tryd.prog = true := by kernel_rfl
theorem uStr : Tryd.prog.underlying 9 = some .string := by kernel_rfl
theorem gPw : Tryd.prog.globalNamed "internal/strconv.uint64pow10" = some 0 := by kernel_rfl
theorem tPw : (Tryd.prog.globals[0]?).map (·.type) = some 130 := by kernel_rfl
theorem uPw : Tryd.prog.underlying 130 = some (.array 20 63) := by kernel_rfl
theorem uU64 : Tryd.prog.underlying 63 = some (.int .u64) := by kernel_rfl
theorem cU64 : Tryd.prog.cellsOf 63 = 1 := by kernel_rfl
theorem cPw : Tryd.prog.cellsOf 130 = 20 := by kernel_rfl
def isStructB : Option TypeDesc → Bool
  | some (.struct _) => true
  | _ => false
theorem struct_of_B : ∀ {o : Option TypeDesc}, isStructB o = true → ∃ fs, o = some (.struct fs)
  | some (.struct fs), _ => ⟨fs, rfl⟩
theorem uCf : ∃ fs, Tryd.prog.underlying 24 = some (.struct fs) := struct_of_B (by kernel_rfl)

theorem met_plain {W : World} (h : laidMetH Tryd.prog Rows.imageReadsRow.laid W) : laidMet Tryd.prog Rows.imageReadsRow.laid W := by
  rwa [MakeChecks.laidMetH_plain _ _ _ (by kernel_rfl)] at h

theorem pow_of_laid {W : World} (h : laidMetH Tryd.prog Rows.imageReadsRow.laid W) : Tryd.Pow W :=
  Lib.tabIs_of_head (zs := Lib.pow10Tab) gPw tPw uPw uU64 cU64 cPw (met_plain h).tail.tail

/-- The witness: a world with every listed table laid. -/
theorem wit_met (os : Os) (args : Array Value) : laidMetH Tryd.prog Rows.imageReadsRow.laid ((World.laidAll Tryd.prog os Rows.imageReadsRow.laid).forCall (fun _ _ => 0) ⟨#[], args, []⟩).memory := by
  rw [MakeChecks.laidMetH_plain _ _ _ (by kernel_rfl)]; exact laidMet_laidAll _ (by kernel_rfl) (by kernel_rfl)

set_option maxRecDepth 100000 in
theorem lifted (os : Os) (started : os.Started) (H : Type) (enc : TypeId × Value → H) :
    ReturnsInHanded {} Tryd.checked os 3 .any (fun w args => (Rows.imageReadsSpec.pre enc Tryd.prog Tryd.f3 [] false w args ∧ laidMetH Tryd.prog Rows.imageReadsRow.laid w) ∧ sizedMet enc Tryd.prog Tryd.f3 (OpenSpec.ofChange Rows.imageReadsSpec) false w args)
      (Rows.imageReadsSpec.post enc Tryd.prog Tryd.f3 false true false false) := by
  refine handed_and_shaped (C := Tryd.checked) (X := fun w _ => laidMetH Tryd.prog Rows.imageReadsRow.laid w) (fun _ _ _ hh h => h.of_heap hh) own started (by kernel_rfl) Tryd.func3
    (ChangeSpec.witness_shaped (enc := enc) (C := Tryd.checked) (os := os) (X := fun w _ => laidMetH Tryd.prog Rows.imageReadsRow.laid w) false (World.laidAll Tryd.prog os Rows.imageReadsRow.laid) #[.slice none 0 0, .agg (Array.replicate 4 (.int .i64 0)), .int .i64 0, .string ⟨#[]⟩] 8 (World.laidAll_os _ _ _) (World.shaped_of_ZipB (by kernel_rfl) (by kernel_rfl)) (by kernel_rfl) (by kernel_rfl) (by kernel_rfl) (wit_met os _)) ?_
  intro W base args ds gs before hval0 hW hLaid hsh
  have hval : ∀ (j : Nat) t v, Tryd.f3.params[j]? = some t → args[j]? = some v → Value.okWide Tryd.prog W .any base t v := hval0
  have hW' := hW
  obtain ⟨p, q, hA0, hV, rfl, hfz, hnd⟩ := hW
  have hA : DataW.TrodAll enc Tryd.prog W 0 (fun _ => true) true Tryd.f3.params.toList args.toList ds p := hA0
  rw [Tryd.params3] at hA hval
  obtain ⟨v0, vs0, d0, ds0, p0, q0, hargs, rfl, rfl, h0, r0⟩ := trodAll_cons hA
  obtain ⟨v1, vs1, d1, ds1, p1, q1, rfl, rfl, rfl, h1, r1⟩ := trodAll_cons r0
  obtain ⟨v2, vs2, d2, ds2, p2, q2, rfl, rfl, rfl, h2, r2⟩ := trodAll_cons r1
  obtain ⟨v3, vs3, d3, ds3, p3, q3, rfl, rfl, rfl, h3, r3⟩ := trodAll_cons r2
  obtain ⟨rfl, rfl, rfl⟩ := trodAll_nil r3
  obtain rfl : args = #[v0, v1, v2, v3] := by cases args; simp_all
  obtain ⟨rfl, rfl⟩ := trodVars_none hV
  obtain ⟨a0, l0, c0, rfl, hs0, hp0, hl0⟩ := open_arg (f := flC) (e := 40) (by kernel_rfl) (by decide +kernel) (fun n r y hy => Tryd.file21_c hy) (hval 0 22 v0 rfl rfl) h0
  obtain ⟨fs, hfs⟩ := uCf
  obtain ⟨⟨cl⟩, rfl, -⟩ := okWide_struct hfs (hval 1 24 v1 rfl rfl)
  obtain ⟨fuel, h1'⟩ := h1
  obtain ⟨c1, c2, c3, c4, hcl, -, -, -, -⟩ := Tryd.config_c h1'
  obtain rfl : cl = [.int .i64 c1, .int .i64 c2, .int .i64 c3, .int .i64 c4] := hcl
  obtain ⟨k, rfl, -, -, w2⟩ := open_int (k := .i64) (by kernel_rfl) (hval 2 3 v2 rfl rfl) h2
  obtain ⟨s0, rfl, -, -, hs3⟩ := open_string uStr (hval 3 9 v3 rfl rfl) h3
  obtain ⟨⟨l⟩⟩ := s0
  have hcall : Fun Tryd.prog 3 [.slice a0 l0.length c0, .agg ⟨[.int .i64 c1, .int .i64 c2, .int .i64 c3, .int .i64 c4]⟩, .int .i64 k, str l] W (.bool true) := Tryd.imageReads_w l0 c1 c2 c3 c4 k l a0 c0 W hl0 hs0 hp0 hs3 (lit_inK w2) (pow_of_laid hLaid)
  exact hcall.calls.mono fun e W' ⟨he, hg⟩ => by
    subst he
    exact ⟨_, rfl, post_law (tb := 4) laidOut (by rw [Tryd.params3]; decide +kernel) hW' rfl rfl rfl (by kernel_rfl) hg⟩

theorem over : Rows.ImageReadsSaid :=
  OpenClaim.holds_of_wide 3 Tryd.f3 rfl rfl rfl rfl rfl rfl rfl ⟨rfl, rfl, rfl, rfl, rfl⟩ rfl rfl rfl rfl rfl (by kernel_rfl) Tryd.func3 (by kernel_rfl)
    (of_decide_eq_true (by kernel_rfl)) (by unfold Func.isWrapper; first | (rw [if_pos (by decide +kernel)]; kernel_rfl) | (rw [if_neg (by decide +kernel)]; exact ⟨rfl, rfl⟩))
    (fun os started H enc _ => lifted os started H enc)

/-- ████ THE STATEMENT: the tied card ████ -/
theorem imageReads_card_proved : Rows.ImageReadsCardSaid :=
  Claim7.holds_tied_plain_at .later [] [.data, .data, .data] true (true, "1d4ec9bc2e957298aa6875f89ef54cfcb8ceb80c04ed4715615c94426c1d92ed") false
    over (fun _ h => by cases h) (by kernel_rfl) (fun _ h => by cases h) imageReads_row_tie rfl ⟨rfl, rfl⟩ (by kernel_rfl) rfl
    (fun f fn hf hfn => by
      obtain rfl : f = 3 := Option.some.inj ((show Tryd.prog.funcNamed "engross/engrosslaw21.ImageReads" = some 3 by kernel_rfl).symm.trans hf) |>.symm
      obtain rfl : fn = Tryd.f3 := (Option.some.inj (Tryd.func3.symm.trans hfn)).symm
      exact ⟨by kernel_rfl, fun j t ht => by
        rw [Tryd.params3] at ht
        have hm : t ∈ [22, 24, 3, 9] := by simpa using Array.mem_of_getElem? ht
        have hall : ([22, 24, 3, 9].all fun u => !Tryd.prog.wantsStandIn u) = true := by kernel_rfl
        exact (show Tryd.prog.wantsStandIn t = false by simpa using List.all_eq_true.1 hall t hm)⟩)
    (by kernel_rfl)
end Go.Proofs.YthmoeebmeifleaaDoor

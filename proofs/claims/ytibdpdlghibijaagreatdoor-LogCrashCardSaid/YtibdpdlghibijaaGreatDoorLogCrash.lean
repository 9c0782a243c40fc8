/-
  PROVED HERE: the statement LogCrash (HOWEVER IT CRASHES: rows that were appended, some of them synced, and a crash, whatever is kept of each write: opened again the log has the first ones of them, at least all that were synced; and the disk's files are those of the log of these rows) of the given program: whatever the arguments, the law's function returns true, does not panic, and leaves its input as it was; as a card that ties the listed tables to the program's text. Conditions: none beyond the given row's own.
-/
import Derived.Test.YtibdpdlghibijaaGreatDoorRows
import Derived.Test.YtibdpdlghibijaaGreatDoorCards
import Derived.Test.YtibdpdlghibijaaGreatDoorTie
import Derived.Test.YtibdpdlghibijaaGreatDoorMC6
import Derived.Test.YtibdpdlghibijaaGreatDoorMC14
import Derived.Test.YtibdpdlghibijaaGreatDoorMC15
import Derived.Test.YtibdpdlghibijaaGreatDoorMC39
import Derived.Test.YtibdpdlghibijaaGreatDoorMC51
import Derived.Test.YtibdpdlghibijaaGreatDoorMC52
import Derived.Test.YtibdpdlghibijaaGreatDoorMC53
import Derived.Test.YtibdpdlghibijaaGreatDoorMC13
import Derived.Stop.LaidErr
import Derived.Lay
import Derived.Lib.LaidTab
import Derived.LaidMore
import Derived.SevenTiedAt
namespace Go.Proofs.YtibdpdlghibijaaGreatDoor
open Go Go.Eng Go.ChangeMaps Go.ChangeShapes Go.WideShapes Go.ChangeAt Go.RowKit

theorem own : ownKnob Tryz.prog.godebug = none := by kernel_rfl
theorem laidOut : laidOutB Tryz.prog = true := k2
theorem uStr : Tryz.prog.underlying 9 = some .string := by kernel_rfl
def isStructB : Option TypeDesc → Bool
  | some (.struct _) => true
  | _ => false
theorem struct_of_B : ∀ {o : Option TypeDesc}, isStructB o = true → ∃ fs, o = some (.struct fs)
  | some (.struct fs), _ => ⟨fs, rfl⟩
theorem uCf : ∃ fs, Tryz.prog.underlying 23 = some (.struct fs) := struct_of_B (by kernel_rfl)
theorem met_plain {W : World} (h : laidMetH Tryz.prog Rows.logCrashRow.laid W) : laidMet Tryz.prog Rows.logCrashRow.laid W := by
  rwa [MakeChecks.laidMetH_plain _ _ _ (by kernel_rfl)] at h
theorem tabs_of_laid {W : World} (h : laidMetH Tryz.prog Rows.logCrashRow.laid W) : Tryz.Tabs W :=
  Tryz.tabs_of (r := []) (met_plain h).tail.tail
/-- The witness: a world with every listed table laid. -/
theorem wit_met (os : Os) (args : Array Value) : laidMetH Tryz.prog Rows.logCrashRow.laid ((World.laidAll Tryz.prog os Rows.logCrashRow.laid).forCall (fun _ _ => 0) ⟨#[], args, []⟩).memory := by
  rw [MakeChecks.laidMetH_plain _ _ _ (by kernel_rfl)]; exact laidMet_laidAll _ (by kernel_rfl) (by kernel_rfl)

set_option maxRecDepth 100000 in
theorem lifted (os : Os) (started : os.Started) (H : Type) (enc : TypeId × Value → H) :
    ReturnsInHanded {} Tryz.checked os 5 .any (fun w args => (Rows.logCrashSpec.pre enc Tryz.prog Tryz.f5 [] false w args ∧ laidMetH Tryz.prog Rows.logCrashRow.laid w) ∧ sizedMet enc Tryz.prog Tryz.f5 (OpenSpec.ofChange Rows.logCrashSpec) false w args)
      (Rows.logCrashSpec.post enc Tryz.prog Tryz.f5 false true false false) := by
  refine handed_and_shaped (C := Tryz.checked) (X := fun w _ => laidMetH Tryz.prog Rows.logCrashRow.laid w) (fun _ _ _ hh h => h.of_heap hh) own started (by kernel_rfl) Tryz.func5
    (ChangeSpec.witness_shaped (enc := enc) (C := Tryz.checked) (os := os) (X := fun w _ => laidMetH Tryz.prog Rows.logCrashRow.laid w) false (World.laidAll Tryz.prog os Rows.logCrashRow.laid) #[.agg (Array.replicate 4 (.int .i64 0)), .slice none 0 0, .int .u8 0, .slice none 0 0] 8 (World.laidAll_os _ _ _) (World.shaped_of_ZipB (by kernel_rfl) (by kernel_rfl)) (by kernel_rfl) (by kernel_rfl) (by kernel_rfl) (wit_met os _)) ?_
  intro W base args ds gs before hval0 hW hLaid hsh
  have hval : ∀ (j : Nat) t v, Tryz.f5.params[j]? = some t → args[j]? = some v → Value.okWide Tryz.prog W .any base t v := hval0
  have hW' := hW
  obtain ⟨p, q, hA0, hV, rfl, hfz, hnd⟩ := hW
  have hA : DataW.TrodAll enc Tryz.prog W 0 (fun _ => true) true Tryz.f5.params.toList args.toList ds p := hA0
  rw [Tryz.params5] at hA hval
  obtain ⟨v0, vs0, d0, ds0, p0, q0, hargs, rfl, rfl, h0, r0⟩ := trodAll_cons hA
  obtain ⟨v1, vs1, d1, ds1, p1, q1, rfl, rfl, rfl, h1, r1⟩ := trodAll_cons r0
  obtain ⟨v2, vs2, d2, ds2, p2, q2, rfl, rfl, rfl, h2, r2⟩ := trodAll_cons r1
  obtain ⟨v3, vs3, d3, ds3, p3, q3, rfl, rfl, rfl, h3, r3⟩ := trodAll_cons r2
  obtain ⟨rfl, rfl, rfl⟩ := trodAll_nil r3
  obtain rfl : args = #[v0, v1, v2, v3] := by cases args; simp_all
  obtain ⟨rfl, rfl⟩ := trodVars_none hV
  obtain ⟨fs, hfs⟩ := uCf
  obtain ⟨⟨cl⟩, rfl, -⟩ := okWide_struct hfs (hval 0 23 v0 rfl rfl)
  obtain ⟨fuel, h0'⟩ := h0
  obtain ⟨g1, g2, g3, g4, hcl, hg1, hg2, hg3, hg4⟩ := Tryz.config_c h0'
  obtain rfl : cl = [.int .i64 g1, .int .i64 g2, .int .i64 g3, .int .i64 g4] := hcl
  obtain ⟨a1, l1, c1, rfl, hs1, hp1, hl1⟩ := open_arg (f := fun s : List UInt8 => [str s]) (Pr := fun s => s.length ≤ 9223372036854775807) (e := 9) (by kernel_rfl) (by decide +kernel) (fun n r y hy => open_str_c uStr hy) (hval 1 24 v1 rfl rfl) h1
  have kc1 : l1.length ≤ c1 := okWide_cap (e := 9) (by kernel_rfl) (hval 1 24 _ rfl rfl)
  rw [← List.map_eq_flatMap] at hs1
  obtain ⟨k2, rfl, -, -, w2⟩ := open_int (k := .u8) (by kernel_rfl) (hval 2 5 v2 rfl rfl) h2
  obtain ⟨a3, xs3, c3, rfl, hs3, hi3, hl3⟩ := open_i64s (e := 3) (by kernel_rfl) (by kernel_rfl) (by kernel_rfl) (hval 3 59 v3 rfl rfl) h3
  have hcall : Fun Tryz.prog 5 [.agg ⟨[.int .i64 g1, .int .i64 g2, .int .i64 g3, .int .i64 g4]⟩, .slice a1 l1.length c1, .int .u8 k2, .slice a3 xs3.length c3] W (.bool true) := Tryz.logCrash_w l1 g1 g2 g3 g4 k2 xs3 a1 a3 c1 c3 W hl1 hp1 hs1 (lit_in w2) hl3 hs3 hi3 (tabs_of_laid hLaid)
  exact hcall.calls.mono fun e W' ⟨he, hg⟩ => by
    subst he
    exact ⟨_, rfl, post_law (tb := 4) laidOut (by rw [Tryz.params5]; decide +kernel) hW' rfl rfl rfl (by kernel_rfl) hg⟩

theorem over : Rows.LogCrashSaid :=
  OpenClaim.holds_of_wide 5 Tryz.f5 rfl rfl rfl rfl rfl rfl rfl ⟨rfl, rfl, rfl, rfl, rfl⟩ rfl rfl rfl rfl rfl (by kernel_rfl) Tryz.func5 closed
    (of_decide_eq_true (by kernel_rfl)) (by unfold Func.isWrapper; first | (rw [if_pos (by decide +kernel)]; kernel_rfl) | (rw [if_neg (by decide +kernel)]; exact ⟨rfl, rfl⟩))
    (fun os started H enc _ => lifted os started H enc)

/-- ████ THE STATEMENT: the tied card ████ -/
theorem logCrash_card_proved : Rows.LogCrashCardSaid :=
  Claim7.holds_tied_plain_at .later [] [.data, .data, .data, .data, .data] true (true, "4c84ede0c04b58e8a5bf058dd01a137af82c8677d749da3838799b461ba38e10") false
    over (fun _ h => by cases h) (by kernel_rfl) (fun _ h => by cases h) logCrash_row_tie rfl ⟨rfl, rfl⟩ (by kernel_rfl) rfl
    (fun f fn hf hfn => by
      obtain rfl : f = 5 := Option.some.inj ((show Tryz.prog.funcNamed "engross/engrosslaw19.LogCrash" = some 5 by kernel_rfl).symm.trans hf) |>.symm
      obtain rfl : fn = Tryz.f5 := (Option.some.inj (Tryz.func5.symm.trans hfn)).symm
      exact ⟨by kernel_rfl, fun j t ht => by
        rw [Tryz.params5] at ht
        have hm : t ∈ [23, 24, 5, 59] := by simpa using Array.mem_of_getElem? ht
        have hall : ([23, 24, 5, 59].all fun u => !Tryz.prog.wantsStandIn u) = true := by kernel_rfl
        exact (show Tryz.prog.wantsStandIn t = false by simpa using List.all_eq_true.1 hall t hm)⟩)
    (by kernel_rfl)
end Go.Proofs.YtibdpdlghibijaaGreatDoor

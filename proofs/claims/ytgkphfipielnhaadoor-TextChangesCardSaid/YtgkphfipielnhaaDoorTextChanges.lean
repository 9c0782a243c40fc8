/-
  PROVED HERE: the statement TextChanges (the lines of changes are the document's) of the given program: whatever the arguments, the law's function returns true, does not panic, and leaves its input as it was; as a card that ties the listed tables to the program's text. Conditions: none beyond the given row's own.
-/
import Derived.Test.YtgkphfipielnhaaDoorRows
import Derived.Test.YtgkphfipielnhaaDoorCards
import Derived.Test.YtgkphfipielnhaaDoorTie
import Derived.Test.YtgkphfipielnhaaDoorM6
import Derived.Test.YtgkphfipielnhaaDoorM14
import Derived.Test.YtgkphfipielnhaaDoorM15
import Derived.Test.YtgkphfipielnhaaDoorM31
import Derived.Stop.LaidErr
import Derived.Lay
import Derived.Lib.LaidTab
import Derived.LaidMore
import Derived.SevenTiedAt
namespace Go.Proofs.YtgkphfipielnhaaDoor
open Go Go.Eng Go.ChangeMaps Go.ChangeShapes Go.WideShapes Go.ChangeAt Go.RowKit

theorem own : ownKnob Tryd.prog.godebug = none := by kernel_rfl
theorem laidOut : laidOutB Tryd.prog = true := by kernel_rfl
theorem gNm : Tryd.prog.globalNamed "engross/event.names" = some 1 := by kernel_rfl
theorem tNm : (Tryd.prog.globals[1]?).map (·.type) = some 146 := by kernel_rfl
theorem uNm : Tryd.prog.underlying 146 = some (.array 8 9) := by kernel_rfl
theorem gLs : Tryd.prog.globalNamed "engross/text.lists" = some 0 := by kernel_rfl
theorem tLs : (Tryd.prog.globals[0]?).map (·.type) = some 110 := by kernel_rfl
theorem uLs : Tryd.prog.underlying 110 = some (.array 6 9) := by kernel_rfl
theorem cLs : Tryd.prog.cellsOf 110 = 6 := by kernel_rfl
theorem uStr : Tryd.prog.underlying 9 = some .string := by kernel_rfl
theorem cStr : Tryd.prog.cellsOf 9 = 1 := by kernel_rfl
theorem cNm : Tryd.prog.cellsOf 146 = 8 := by kernel_rfl
theorem gPw : Tryd.prog.globalNamed "internal/strconv.uint64pow10" = some 5 := by kernel_rfl
theorem tPw : (Tryd.prog.globals[5]?).map (·.type) = some 253 := by kernel_rfl
theorem uPw : Tryd.prog.underlying 253 = some (.array 20 80) := by kernel_rfl
theorem uU64 : Tryd.prog.underlying 80 = some (.int .u64) := by kernel_rfl
theorem cU64 : Tryd.prog.cellsOf 80 = 1 := by kernel_rfl
theorem cPw : Tryd.prog.cellsOf 253 = 20 := by kernel_rfl
theorem gRg : Tryd.prog.globalNamed "strconv.ErrRange" = some 4 := by kernel_rfl
theorem tRg : (Tryd.prog.globals[4]?).map (·.type) = some 101 := by kernel_rfl
theorem gSy : Tryd.prog.globalNamed "strconv.ErrSyntax" = some 3 := by kernel_rfl
theorem tSy : (Tryd.prog.globals[3]?).map (·.type) = some 101 := by kernel_rfl
def isStructB : Option TypeDesc → Bool
  | some (.struct _) => true
  | _ => false
def isIfaceB : Option TypeDesc → Bool
  | some (.interface _) => true
  | _ => false
theorem struct_of_B : ∀ {o : Option TypeDesc}, isStructB o = true → ∃ fs, o = some (.struct fs)
  | some (.struct fs), _ => ⟨fs, rfl⟩
theorem iface_of_B : ∀ {o : Option TypeDesc}, isIfaceB o = true → ∃ ms, o = some (.interface ms)
  | some (.interface ms), _ => ⟨ms, rfl⟩
theorem uEr : ∃ ms, Tryd.prog.underlying 101 = some (.interface ms) := iface_of_B (by kernel_rfl)

/-- What the head of the laid list gives at an interface variable: its cell holds some interface value. -/
theorem iface_of_head {P : Program} {W : World} {n nm : String} {d : DataW Unit} {r : List (String × DataW Unit)} {g : Nat} {ti : TypeId} {ms : Array (String × TypeId)}
    (h : laidMet P ((n, .iface nm d) :: r) W) (hg : P.globalNamed n = some g) (ht : (P.globals[g]?).map (·.type) = some ti) (hi : P.underlying ti = some (.interface ms)) :
    ∃ T p, W.cell? ⟨g, 0, none⟩ = some (.iface T p) := by
  obtain ⟨ps, ⟨g0, t0, cs0, f0, p0, q0, hg0, ht0, hv0, hd0, _, _⟩, _, _⟩ := h
  obtain rfl := Option.some.inj (hg.symm.trans hg0)
  obtain rfl := Option.some.inj (ht.symm.trans ht0)
  obtain ⟨l0⟩ := cs0
  have hcell := World.var?_cell hg hv0 0
  cases f0 with
  | zero => simp [DataW.trod] at hd0
  | succ k =>
    simp only [DataW.trod, hi] at hd0
    cases l0 with
    | nil => simp at hd0
    | cons v vs =>
      cases v <;> cases vs <;> simp at hd0 <;> exact ⟨_, _, by simpa using hcell⟩

theorem met_plain {W : World} (h : laidMetH Tryd.prog Rows.textChangesRow.laid W) : laidMet Tryd.prog Rows.textChangesRow.laid W := by
  rwa [MakeChecks.laidMetH_plain _ _ _ (by kernel_rfl)] at h

theorem txw_of_laid {W : World} (h : laidMetH Tryd.prog Rows.textChangesRow.laid W) (hsh : W.ShapedOpen Tryd.prog) : Tryd.TxW W := by
  obtain ⟨ms, hEr⟩ := uEr
  have h0 := met_plain h
  have h3 := h0.tail.tail.tail
  have h5 := h3.tail.tail
  have h6 := h5.tail
  exact ⟨(stab_of_head (name := "engross/event.names") (ss := nameT) gNm tNm uNm uStr cStr cNm h0).sl gNm,
    Lib.tabIs_of_head (zs := Lib.pow10Tab) gPw tPw uPw uU64 cU64 cPw h3,
    cell_of_shapedOpen_int (t := 3) (zero := #[.int .i64 0]) hsh (by decide +kernel) (by kernel_rfl) rfl (by kernel_rfl) (by kernel_rfl) (by kernel_rfl),
    iface_of_head h6 gSy tSy hEr,
    iface_of_head h5 gRg tRg hEr⟩

set_option maxRecDepth 100000 in
theorem lst_of_laid {W : World} (h : laidMetH Tryd.prog Rows.textChangesRow.laid W) : Tryd.Lst W := by
  have h0 := met_plain h
  have h7 := h0.tail.tail.tail.tail.tail.tail.tail
  exact (stab_of_head (name := "engross/text.lists") (ss := listT) gLs tLs uLs uStr cStr cLs h7).sl gLs
/-- The witness: a world with every listed table laid. -/
theorem wit_met (os : Os) (args : Array Value) : laidMetH Tryd.prog Rows.textChangesRow.laid ((World.laidAll Tryd.prog os Rows.textChangesRow.laid).forCall (fun _ _ => 0) ⟨#[], args, []⟩).memory := by
  rw [MakeChecks.laidMetH_plain _ _ _ (by kernel_rfl)]; exact laidMet_laidAll _ (by kernel_rfl) (by kernel_rfl)

set_option maxRecDepth 100000 in
theorem lifted (os : Os) (started : os.Started) (H : Type) (enc : TypeId × Value → H) :
    ReturnsInHanded {} Tryd.checked os 7 .any (fun w args => (Rows.textChangesSpec.pre enc Tryd.prog Tryd.f7 [] false w args ∧ laidMetH Tryd.prog Rows.textChangesRow.laid w) ∧ sizedMet enc Tryd.prog Tryd.f7 (OpenSpec.ofChange Rows.textChangesSpec) false w args)
      (Rows.textChangesSpec.post enc Tryd.prog Tryd.f7 false true false false) := by
  refine handed_and_shaped (C := Tryd.checked) (X := fun w _ => laidMetH Tryd.prog Rows.textChangesRow.laid w) (fun _ _ _ hh h => h.of_heap hh) own started (by kernel_rfl) Tryd.func7
    (ChangeSpec.witness_shaped (enc := enc) (C := Tryd.checked) (os := os) (X := fun w _ => laidMetH Tryd.prog Rows.textChangesRow.laid w) false (World.laidAll Tryd.prog os Rows.textChangesRow.laid) #[.slice none 0 0] 8 (World.laidAll_os _ _ _) (World.shaped_of_ZipB (by kernel_rfl) (by kernel_rfl)) (by kernel_rfl) (by kernel_rfl) (by kernel_rfl) (wit_met os _)) ?_
  intro W base args ds gs before hval0 hW hLaid hsh
  have hval : ∀ (j : Nat) t v, Tryd.f7.params[j]? = some t → args[j]? = some v → Value.okWide Tryd.prog W .any base t v := hval0
  have hW' := hW
  obtain ⟨p, q, hA0, hV, rfl, hfz, hnd⟩ := hW
  have hA : DataW.TrodAll enc Tryd.prog W 0 (fun _ => true) true Tryd.f7.params.toList args.toList ds p := hA0
  rw [Tryd.params7] at hA hval
  obtain ⟨v0, vs0, d0, ds0, p0, q0, hargs, rfl, rfl, h0, r0⟩ := trodAll_cons hA
  obtain ⟨rfl, rfl, rfl⟩ := trodAll_nil r0
  obtain rfl : args = #[v0] := by cases args; simp_all
  obtain ⟨rfl, rfl⟩ := trodVars_none hV
  obtain ⟨a1, L, c1, rfl, hs1, hp1, hl1⟩ := open_arg (f := chC) (e := 46) (by kernel_rfl) (by decide +kernel) (fun n r y hy => Tryd.chg_c hy) (hval 0 43 v0 rfl rfl) h0
  have hcall : Fun Tryd.prog 7 [.slice a1 L.length c1] W (.bool true) := Tryd.changes32_w L a1 c1 W hl1 hs1 hp1 (txw_of_laid hLaid hsh) (lst_of_laid hLaid)
  exact hcall.calls.mono fun e W' ⟨he, hg⟩ => by
    subst he
    exact ⟨_, rfl, post_law (tb := 4) laidOut (by rw [Tryd.params7]; decide +kernel) hW' rfl rfl rfl (by kernel_rfl) hg⟩

theorem over : Rows.TextChangesSaid :=
  OpenClaim.holds_of_wide 7 Tryd.f7 rfl rfl rfl rfl rfl rfl rfl ⟨rfl, rfl, rfl, rfl, rfl⟩ rfl rfl rfl rfl rfl (by kernel_rfl) Tryd.func7 (by kernel_rfl)
    (of_decide_eq_true (by kernel_rfl)) (by unfold Func.isWrapper; first | (rw [if_pos (by decide +kernel)]; kernel_rfl) | (rw [if_neg (by decide +kernel)]; exact ⟨rfl, rfl⟩))
    (fun os started H enc _ => lifted os started H enc)

/-- ████ THE STATEMENT: the tied card ████ -/
theorem textChanges_card_proved : Rows.TextChangesCardSaid :=
  Claim7.holds_tied_plain_at .later [] [.data, .data, .data, .data, .data, .sentinel, .sentinel, .data, .pinned] true (true, "4da076db35c2bb1b48cfbcb3fb268102e9c7d2e4c5b5f05645e21fa6a270d04f") true
    over (fun _ h => by cases h) (by kernel_rfl) (fun _ h => by cases h) textChanges_row_tie rfl ⟨rfl, rfl⟩ (by kernel_rfl) rfl
    (fun f fn hf hfn => by
      obtain rfl : f = 7 := Option.some.inj ((show Tryd.prog.funcNamed "engross/engrosslaw32.TextChanges" = some 7 by kernel_rfl).symm.trans hf) |>.symm
      obtain rfl : fn = Tryd.f7 := (Option.some.inj (Tryd.func7.symm.trans hfn)).symm
      exact ⟨by kernel_rfl, fun j t ht => by
        rw [Tryd.params7] at ht
        have hm : t ∈ [43] := by simpa using Array.mem_of_getElem? ht
        have hall : ([43].all fun u => !Tryd.prog.wantsStandIn u) = true := by kernel_rfl
        exact (show Tryd.prog.wantsStandIn t = false by simpa using List.all_eq_true.1 hall t hm)⟩)
    (by kernel_rfl)
end Go.Proofs.YtgkphfipielnhaaDoor

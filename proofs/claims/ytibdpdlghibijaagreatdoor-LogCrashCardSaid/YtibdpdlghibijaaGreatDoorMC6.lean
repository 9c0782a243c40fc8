/-
  Engine, part 15: what a law's row asks, from a contract; arguments opened.
-/
import Derived.Test.YtibdpdlghibijaaGreatDoorMC3
import Derived.Test.YtibdpdlghibijaaGreatDoorMC5
import Derived.WideKeyArgs
import Derived.ChangeSlices
import Derived.ChangeMaps5
import Derived.RowKit
/-
  Engine, part 15: what a law's row asks, from a contract; arguments opened.
-/
namespace Go.Eng
open Go Go.ChangeShapes Go.WideShapes

theorem TrodAll_stays {H : Type} {enc : TypeId × Value → H} {P : Program} {base : Nat} (hl : laidOutB P = true) {W W' : World} {sp' : Nat → Bool} : ∀ {ts : List TypeId} {vs : List Value} {ds : List (DataW H)} {ps : List MemPlace},
    (∀ t ∈ ts, P.readableRec t = true ∧ t < P.types.size) → DataW.TrodAll enc P W base (fun _ => true) true ts vs ds ps → (∀ p ∈ ps, W.sameAt W' p) → (∀ p ∈ ps, sp' p.block = true) → DataW.TrodAll enc P W' base sp' true ts vs ds ps
  | [], [], [], _, _, h, _, _ => h
  | t :: _, _ :: _, _ :: _, _, hT, ⟨p, q, h1, h2, e⟩, hsame, hs =>
    ⟨p, q, WideElems.Trod_stays hl (hT t (List.mem_cons_self ..)).1 (hT t (List.mem_cons_self ..)).2 h1 (fun x hx => hsame x (by rw [e]; exact List.mem_append_left _ hx)) (fun x hx => hs x (by rw [e]; exact List.mem_append_left _ hx)),
      TrodAll_stays hl (fun t' ht => hT t' (List.mem_cons_of_mem _ ht)) h2 (fun x hx => hsame x (by rw [e]; exact List.mem_append_right _ hx)) (fun x hx => hs x (by rw [e]; exact List.mem_append_right _ hx)), e⟩

/-- A law's row: it returned true, and nothing that lay there turned. -/
theorem post_law {H : Type} {enc : TypeId × Value → H} {P : Program} {f : Func} {s : ChangeSpec} {apart fresh handsOn : Bool} {W W' : World} {args : Array Value} {ds gs : List (DataW H)} {before : List MemPlace} {tb : TypeId}
    (hl : laidOutB P = true) (hrd : ∀ t ∈ f.params.toList, P.readableRec t = true ∧ t < P.types.size) (hW : DataW.Whole enc P f.params.toList s.vars apart W args.toList ds gs before) (hv : s.vars = [])
    (hfn : s.fn H ds = { results := [.lit (.bool true)], args := ds }) (hr : f.resultTypes = #[tb]) (htb : P.underlying tb = some .bool) (he : Ext [] W W') : s.post enc P f apart fresh handsOn false W args (.bool true) W' := by
  have hW' := hW
  obtain ⟨p, q, hA, hV, rfl, hfz, hnd⟩ := hW
  rw [hv] at hV
  obtain ⟨rfl, rfl⟩ := trodVars_none hV
  have hb := he.below
  refine post_of_ext (pa := p) (pv := []) hW' ?_ ?_ ?_ rfl he
  · intro b sp hd
    rw [List.append_nil, hfn, hr]
    exact trodAll_cons_mk (RowKit.shut_bool htb _) trodAll_mk0
  · intro sp hsp
    rw [List.append_nil, hfn]
    exact TrodAll_stays hl hrd hA (fun x hx => hb.same (hW'.lt x (by simpa using hx))) (fun x hx => hsp x (by simpa using hx))
  · intro sp _
    rw [List.append_nil, hfn, hv]
    rfl

/-- A slice of 64-bit numbers, opened. -/
theorem open_i64s {H : Type} {enc : TypeId × Value → H} {P : Program} {w : World} {base : Nat} {sp : Nat → Bool} {held : Bool} {r : Reach} {b0 : Nat} {t e : TypeId} {v : Value} {d : DataW H} {ps : List MemPlace} (ht : P.underlying t = some (.slice e))
    (hte : P.underlying e = some (.int .i64)) (hc : P.cellsOf e = 1) (hval : Value.okWide P w r b0 t v) (h : DataW.Trod enc P w base sp held t v d ps) :
    ∃ (a : Option Addr) (xs : List Int) (cap : Nat), v = .slice a xs.length cap ∧ SlOk w a (xs.map (Value.int .i64)) ∧ (∀ x ∈ xs, inK .i64 x) ∧ xs.length ≤ 9223372036854775807 := by
  obtain ⟨a0, n0, c0, rfl⟩ := okWide_slice ht hval
  obtain ⟨fuel, hn⟩ := h
  rcases open_ints ht hte hc hn with ⟨h0, -⟩ | ⟨a, len, cap, zs, h0, -, hl, hm, hz, -, hcell, hwf⟩
  · simp [Value.cells] at h0
    obtain ⟨rfl, rfl, rfl⟩ := h0
    exact ⟨none, [], 0, rfl, .inl rfl, by simp, by simp⟩
  · simp [Value.cells] at h0
    obtain ⟨rfl, rfl, rfl⟩ := h0
    have hml : maxLen = 9223372036854775807 ∨ True := .inr trivial
    have hzl : n0 ≤ zs.length := by rw [hz]; split <;> omega
    refine ⟨some a, zs.take n0, c0, by rw [List.length_take, Nat.min_eq_left hzl], ?_, fun x hx => ?_, ?_⟩
    · by_cases h00 : n0 = 0
      · subst h00; left; simp
      · have h1 := hcell 0 (by omega)
        have hsp : a.spot = none := by
          have e0 : a.add 0 = a := by simp [Addr.add]
          rw [e0] at h1
          unfold World.cell? at h1
          split at h1
          · cases hs : a.spot with
            | none => rfl
            | some q => rw [hs] at h1; simp at h1
          · cases h1
        obtain ⟨b, o, sp⟩ := a
        simp only at hsp; subst hsp
        right
        refine ⟨b, o, rfl, fun j u hu => ?_⟩
        rw [List.getElem?_map, List.getElem?_take] at hu
        split at hu
        · rename_i hj
          have h2 := hcell j (by omega)
          rw [show (⟨b, o, none⟩ : Addr).add j = ⟨b, o + j, none⟩ by unfold Addr.add; split <;> simp_all] at h2
          rw [h2]
          rw [List.getElem?_eq_getElem (by omega)] at hu
          simp only [Option.map_some, Option.some.injEq] at hu
          rw [← hu]
          simp [List.getD, List.getElem?_eq_getElem (show j < zs.length by omega)]
        · cases hu
    · have := lit_in (hwf x (List.mem_of_mem_take hx))
      have e1 : IntKind.i64.min = -9223372036854775808 := by decide
      have e2 : IntKind.i64.max = 9223372036854775807 := by decide
      simp only [inK]; omega
    · rw [List.length_take]; have : maxLen ≤ 9223372036854775807 := by decide
      omega
end Go.Eng

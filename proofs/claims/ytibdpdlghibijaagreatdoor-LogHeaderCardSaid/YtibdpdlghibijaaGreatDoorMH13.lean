/-
  Engine, part 27: arguments opened: slices of things, by what one thing is.
-/
import Derived.Test.YtibdpdlghibijaaGreatDoorMH9
import Derived.Test.YtibdpdlghibijaaGreatDoorMH12
/-
  Engine, part 27: arguments opened: slices of things, by what one thing is.
-/
namespace Go.Eng
open Go Go.ChangeShapes Go.WideShapes

section
variable {H : Type} {enc : TypeId × Value → H} {P : Program} {w : World} {base : Nat} {sp : Nat → Bool} {held : Bool}

theorem open_str_c {t : TypeId} {fuel : Nat} {cs : List Value} {x : DataW H × List MemPlace} (ht : P.underlying t = some .string) (h : DataW.trod enc P w base sp held fuel t cs = some x) : ∃ l : List UInt8, cs = [str l] ∧ l.length ≤ 9223372036854775807 := by
  obtain ⟨s, rfl, -, hs⟩ := DataW.trod_string ht h
  have hmx : maxLen ≤ 9223372036854775807 := by decide
  refine ⟨bl s, by rw [show str (bl s) = .string s by unfold str; rw [mk_bl]], ?_⟩
  have : (bl s).length = s.size := by unfold bl; exact Array.length_toList
  omega
/-- A slice of things. -/
theorem open_list {α : Type} {f : α → List Value} {Pr : α → Prop} {t e : TypeId} {fuel : Nat} {cs : List Value} {x : DataW H × List MemPlace} (ht : P.underlying t = some (.slice e)) (hpos : 0 < P.cellsOf e)
    (hel : ∀ n r y, DataW.trod enc P w base sp held n e r = some y → ∃ z, r = f z ∧ Pr z) (h : DataW.trod enc P w base sp held fuel t cs = some x) :
    ∃ (a : Option Addr) (l : List α) (cap : Nat), cs = [.slice a l.length cap] ∧ SlOk w a (l.flatMap f) ∧ (∀ z, z ∈ l → Pr z) ∧ l.length ≤ 9223372036854775807 := by
  obtain ⟨a, rows, cap, rfl, h1, h2, h3⟩ := open_rows ht hpos h
  obtain ⟨m, h4, h5, h6⟩ := choose_mem (p := fun r z => r = f z ∧ Pr z) rows (fun r hr => by
    obtain ⟨-, n, y, hy⟩ := h3 r hr
    exact hel n r y hy)
  have hrows : rows = m.map f := by
    apply List.ext_getElem?
    intro i
    rcases Nat.lt_or_ge i rows.length with hi | hi
    · have := (h5 i _ _ (List.getElem?_eq_getElem hi) (List.getElem?_eq_getElem (show i < m.length by omega))).1
      rw [List.getElem?_eq_getElem hi, List.getElem?_map, List.getElem?_eq_getElem (show i < m.length by omega), this]; rfl
    · rw [List.getElem?_eq_none hi, List.getElem?_eq_none (by simp; omega)]
  subst hrows
  refine ⟨a, m, cap, by simp, by rw [List.flatMap_def]; exact h1, fun z hz => ?_, by simpa using h2⟩
  obtain ⟨r, -, hp⟩ := h6 z hz
  exact hp.2
/-- A slice of things among the arguments. -/
theorem open_arg {α : Type} {f : α → List Value} {Pr : α → Prop} {r : Reach} {b0 : Nat} {t e : TypeId} {v : Value} {d : DataW H} {ps : List MemPlace} (ht : P.underlying t = some (.slice e)) (hpos : 0 < P.cellsOf e)
    (hel : ∀ n r y, DataW.trod enc P w base sp held n e r = some y → ∃ z, r = f z ∧ Pr z) (hval : Value.okWide P w r b0 t v) (h : DataW.Trod enc P w base sp held t v d ps) :
    ∃ (a : Option Addr) (l : List α) (cap : Nat), v = .slice a l.length cap ∧ SlOk w a (l.flatMap f) ∧ (∀ z, z ∈ l → Pr z) ∧ l.length ≤ 9223372036854775807 := by
  obtain ⟨a0, n0, c0, rfl⟩ := okWide_slice ht hval
  obtain ⟨fuel, hn⟩ := h
  obtain ⟨a, l, cap, h1, h2, h3, h4⟩ := open_list ht hpos hel hn
  simp [Value.cells] at h1
  obtain ⟨rfl, rfl, rfl⟩ := h1
  exact ⟨_, l, _, rfl, h2, h3, h4⟩
end
end Go.Eng

/-
  Engine, part 63: an argument's slice has its length within its capacity.
-/
namespace Go.Eng
open Go

theorem okWide_cap {P : Program} {w : World} {r : Reach} {base : Nat} {t e : TypeId} {a : Option Addr} {n c : Nat} (ht : P.underlying t = some (.slice e)) (h : Value.okWide P w r base t (.slice a n c)) : n ≤ c := by
  unfold Value.okWide at h
  simp only [ht, Cell.okWide, Cell.ok] at h
  cases a with
  | none =>
    cases n with
    | zero => exact Nat.zero_le _
    | succ n => simp at h
  | some a => exact h.1
end Go.Eng

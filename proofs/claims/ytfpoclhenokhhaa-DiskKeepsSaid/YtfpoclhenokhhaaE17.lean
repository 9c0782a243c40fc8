/-
  Engine, part 17: slices that are made.
-/
import Derived.Test.YtfpoclhenokhhaaE16
import Derived.Laws.MakeOwn
namespace Go.Eng
open Go

/-- A new slice of n zeros. -/
theorem OpOk.makeSlice {C : Ctx} {env : Env} {bx : Bx} {hp : List Seg} {S : Base} {o : Oper} {K : Value → Bx → List Seg → Prop} {t e : TypeId} {x y : Operand} {k1 k2 : IntKind} {z xs : List Value} {sz sz2 by_ c : Nat} (n : Nat)
    (ho : o.op = .makeSlice t x y) (ht : elT C.P t = some e) (hz : zeroC C.P e = some (z, sz)) (hi : infoL C.P e = some (sz2, by_, c)) (hx : Env.ev env x = some (.int k1 n)) (hy : Env.ev env y = some (.int k2 n)) (hb : by_ * n ≤ 281474976710656) (h63 : n ≤ 9223372036854775807) (hcl : n * sz ≤ 16777216)
    (hl : xs.length = n * sz) (hxs : ∀ j, j < n * sz → xs[j]? = z[j % z.length]?) (hz0 : 0 < z.length)
    (hk : ∀ g, K (sv (some g) n n) bx (Seg.row (some g) e sz n n xs :: hp)) : OpOk C o env bx hp S K := by
  intro w hw ρ hρ
  obtain ⟨i, zv, hi1, hz1, hs1, hs2, hs3⟩ := infoL_ok hi
  have hzz : zv.cells = ⟨z⟩ ∧ i.size = sz := by
    unfold zeroC at hz
    rw [hi1] at hz
    simp only [hz1] at hz
    cases zv <;> simp only [Option.some.injEq, Prod.mk.injEq, reduceCtorEq] at hz <;> first | exact ⟨by rw [← hz.1]; rfl, hz.2⟩ | (obtain ⟨rfl, h⟩ := hz; exact ⟨rfl, h⟩)
  have hr := run_makeSlice (P := C.P) w t e i zv (elT_ok ht) hi1 hz1 k1 k2 (n : Int) (n : Int) (by omega) (by omega) (by rw [hzz.2, Int.toNat_natCast]; exact hcl) (by rw [hs2]; have h := Int.ofNat_le.2 hb; rw [Int.natCast_mul] at h; exact h) (by omega)
  simp only [Int.toNat_natCast, hzz.2] at hr
  have hmade : (madeCells zv.cells (n * sz)).toList = xs := by
    apply List.ext_getElem?
    intro j
    rw [hzz.1]
    by_cases hj : j < n * sz
    · rw [hxs j hj]
      have hm : j % z.length < z.length := Nat.mod_lt _ hz0
      simp [madeCells, hj, List.getElem?_eq_getElem hm]
    · rw [List.getElem?_eq_none (by rw [Array.length_toList, size_madeCells]; omega), List.getElem?_eq_none (by omega)]
  have hnew : (w.alloc (.cells (madeCells zv.cells (n * sz)) e)).heap[w.heap.size]? = some (.cells (madeCells zv.cells (n * sz)) e (0, 0)) := (MapKept.heap_alloc w _).1
  refine .inl ⟨sv (some w.heap.size) n n, _, bx, _, .inl ?_, hw.newSeg (s' := Seg.row (some w.heap.size) e sz n n xs) (w' := w.alloc (.cells (madeCells zv.cells (n * sz)) e)) ?_ ?_ (by simp [Seg.row]) ?_, hk _⟩
  · unfold execOp; simp only [ho, hρ _ _ hx, hρ _ _ hy, Sem.run_bind, hr, Result.andThen_ok]; rfl
  · exact ⟨rfl, rfl, rfl, by simp, fun k hk _ => RowKit.Below.heap_alloc w _ k hk⟩
  · refine ⟨hl, Nat.le_refl _, h63, by simp, fun g hg => ?_⟩
    cases hg
    exact ⟨_, _, hnew, size_madeCells _ _, by rw [hmade, ← hl, List.take_length], .inl rfl⟩
  · intro k hk
    simp [Seg.row] at hk; subst hk
    exact ⟨Nat.le_refl _, by simp⟩
/-- A known block is no block of the rows. -/
theorem notKey {S : Base} {g t : Nat} {cs : List Value} {bx : Bx} {s : Seg} {hp : List Seg} {w : World} (h : WOk S ((g, t, cs) :: bx) (s :: hp) w) : g ∉ kys [] [s] := by
  intro hk
  have hnd := h.nd
  simp only [kys, List.map_cons, List.cons_append, List.nodup_cons] at hnd
  apply hnd.1
  apply List.mem_append_right
  simp only [kys, List.map_nil, List.nil_append, List.flatMap_cons, List.flatMap_nil, List.append_nil] at hk
  exact List.mem_flatMap.2 ⟨s, List.mem_cons_self .., hk⟩
/-- A block that lay there is no block of the rows, where nothing of old is owned. -/
theorem baseKey {w0 : World} {bx : Bx} {s : Seg} {hp : List Seg} {w : World} {k : Nat} (h : WOk ⟨w0, kys [] []⟩ bx (s :: hp) w) (hk : k < w0.heap.size) : k ∉ kys [] [s] := by
  intro hk2
  have hmem : k ∈ kys bx (s :: hp) := by
    simp only [kys, List.map_nil, List.nil_append, List.flatMap_cons, List.flatMap_nil, List.append_nil] at hk2
    exact mem_kys_hp (List.mem_cons_self ..) hk2
  rcases h.own k hmem with h1 | h1
  · simp [kys] at h1
  · have : w0.heap.size ≤ k := h1
    omega
end Go.Eng

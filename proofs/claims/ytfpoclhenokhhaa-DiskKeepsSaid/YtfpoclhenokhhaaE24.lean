/-
  Engine, part 24: slices without elements; slices from elsewhere appended.
-/
import Derived.Test.YtfpoclhenokhhaaE23
namespace Go.Eng
open Go

theorem bl_of (l : List UInt8) : bl ⟨l.toArray⟩ = l := by simp [bl]

/-- A slice literal without elements. -/
theorem OpOk.buildNil {C : Ctx} {env : Env} {bx : Bx} {hp : List Seg} {S : Base} {o : Oper} {K : Value → Bx → List Seg → Prop} {t e : TypeId} {sz by_ c : Nat}
    (ho : bldOf o.op = some (t, 0, [])) (ht : elT C.P t = some e) (hi : infoL C.P e = some (sz, by_, c)) (hk : ∀ g, S.w0.heap.size ≤ g → K (sv (some g) 0 0) bx (Seg.row (some g) e sz 0 0 [] :: hp)) : OpOk C o env bx hp S K := by
  intro w hw ρ hρ
  obtain ⟨i, z, hi1, hz1, hs1, -, -⟩ := infoL_ok hi
  have hop : ∃ pa : Array (Nat × Operand), o.op = .buildSlice t 0 pa ∧ pa.toList = [] := by
    unfold bldOf at ho
    split at ho
    · rename_i t' n' pa hop
      simp only [Option.some.injEq, Prod.mk.injEq] at ho
      obtain ⟨rfl, rfl, h3⟩ := ho
      exact ⟨pa, hop, h3⟩
    · cases ho
  obtain ⟨pa, hop, hpa⟩ := hop
  have hpa' : pa = #[] := by apply Array.ext'; simpa using hpa
  subst hpa'
  refine .inl ⟨sv (some w.heap.size) 0 0, w.alloc (.cells #[] e), bx, _, .inl ?_, hw.newSeg (s' := Seg.row (some w.heap.size) e sz 0 0 []) ⟨rfl, rfl, rfl, by simp, fun k hk _ => RowKit.Below.heap_alloc w _ k hk⟩ ?_ (by simp [Seg.row]) ?_, hk _ hw.ext.size⟩
  · unfold execOp
    simp only [hop]
    simp [Instr.buildSlice, Sem.run_bind, run_underlying (elT_ok ht), Result.andThen_ok, sizeOf, typeInfo, hi1, Instr.fill, newRow, sv, svA, Result.andThen]
    have e0 : (Array.range 0) = #[] := by decide
    rw [e0, Array.map_empty]
  · refine ⟨by simp, Nat.le_refl _, by omega, by simp, fun g hg => ?_⟩
    cases hg
    exact ⟨#[], (0, 0), heap_alloc_new w _, by simp, by simp, .inl rfl⟩
  · intro k hk
    simp [Seg.row] at hk; subst hk
    exact ⟨Nat.le_refl _, by simp⟩

/-- A slice from elsewhere, appended to a row. -/
theorem OpOk.appendSl {C : Ctx} {env : Env} {bx : Bx} {hp : List Seg} {S : Base} {o : Oper} {K : Value → Bx → List Seg → Prop} {x y : Operand} {t u e : TypeId} {a : Option Nat} {n cap m c2 : Nat} {ad : Option Addr} {xs : List Value} (j sz by_ : Nat) (news : List Value)
    (ho : appOf o.op = some (x, y, t, u)) (ht : elT C.P t = some e) (hu : elT C.P u = some e) (hi : infoL C.P e = some (sz, by_, sz)) (hj : nth hp j = some (Seg.row a e sz n cap xs)) (hx : Env.ev env x = some (sv a n cap))
    (hy : Env.ev env y = some (.slice ad m c2)) (hsl : ∀ w, WOk S bx hp w → SlOk w ad news) (hl : news.length = m * sz) (h0 : news ≠ []) (h1 : ∀ v, v ∈ news → v.oneCell' = true)
    (h63 : n + m ≤ 9223372036854775807) (hb : (n + m) * by_ ≤ 140737488355328)
    (hk : ∀ a' cap', K (sv a' (n + m) cap') bx (setL hp j (Seg.row a' e sz (n + m) cap' (xs ++ news)))) : OpOk C o env bx hp S K := by
  intro w hw ρ hρ
  obtain ⟨b2, o2, rfl, -⟩ := (hsl w hw).get h0
  refine OpOk.append j sz by_ news ho ht hu hi hj hx hy (fun w' hw' => ?_) hl h1 h63 hb hk w hw ρ hρ
  obtain ⟨b3, o3, he, h⟩ := (hsl w' hw').get h0
  cases he
  exact h
end Go.Eng

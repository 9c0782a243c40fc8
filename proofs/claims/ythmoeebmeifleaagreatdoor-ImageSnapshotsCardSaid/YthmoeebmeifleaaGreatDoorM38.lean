/-
  Engine, part 31: packs opened and shut; what a call that turns nothing leaves is the old world, grown.
-/
import Derived.Test.YthmoeebmeifleaaGreatDoorM12
import Derived.Sort.Grow
import Derived.Deep.Draws
/-
  Engine, part 31: packs opened and shut; what a call that turns nothing leaves is the old world, grown.
-/
namespace Go.Eng
open Go

theorem WOk.unpackG {S : Base} {bx0 bx : Bx} {hp hp0 : List Seg} {w : World} (h : WOk S bx0 (Seg.pack bx hp :: hp0) w) : WOk S (bx0 ++ bx) (hp ++ hp0) w := by
  have hk : kys bx0 (Seg.pack bx hp :: hp0) = kys (bx0 ++ bx) (hp ++ hp0) := kys_pack ..
  have ho := h.toOwn.unpack
  exact ⟨h.ext, by rw [← hk]; exact h.nd, by rw [← hk]; exact h.lt, by rw [← hk]; exact h.own, ho.bx, ho.hp⟩
theorem WOk.packG {S : Base} {bx0 bx : Bx} {hp hp0 : List Seg} {w : World} (h : WOk S (bx0 ++ bx) (hp ++ hp0) w) : WOk S bx0 (Seg.pack bx hp :: hp0) w := by
  have hk : kys bx0 (Seg.pack bx hp :: hp0) = kys (bx0 ++ bx) (hp ++ hp0) := kys_pack ..
  have ho := h.toOwn.pack
  exact ⟨h.ext, by rw [hk]; exact h.nd, by rw [hk]; exact h.lt, by rw [hk]; exact h.own, ho.bx, ho.hp⟩

theorem Ext.grown {w w' : World} (h : Ext [] w w') : ∃ q os, w' = Sort.grow (w.drewN q) os := by
  refine ⟨w'.drawn - w.drawn, w'.heap.extract w.heap.size w'.heap.size, ?_⟩
  obtain ⟨h1, h2, h3, h4, h5, h6⟩ := h
  obtain ⟨heap, tape, drawn, os, output⟩ := w
  obtain ⟨heap', tape', drawn', os', output'⟩ := w'
  simp only at h1 h2 h3 h4 h5 h6
  subst h1; subst h2; subst h3
  have e1 : drawn + (drawn' - drawn) = drawn' := by omega
  have e2 : heap ++ heap'.extract heap.size heap'.size = heap' := by
    apply Array.ext_getElem?
    intro i
    rw [Array.getElem?_append]
    split
    · rename_i hi
      exact (h6 i hi (by simp)).symm
    · rename_i hi
      rw [Array.getElem?_extract]
      split
      · rw [show heap.size + (i - heap.size) = i by omega]
      · rw [Array.getElem?_eq_none (by omega)]
  simp only [Sort.grow, World.drewN, e1, e2]
end Go.Eng

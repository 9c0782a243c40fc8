/-
  Walks of the column's statements.
-/
import Derived.Test.YtdiglfjmjkhgoaaW4
import Derived.Test.YtdiglfjmjkhgoaaE12
namespace Go.Proofs
open Go Go.Eng

theorem Try.alive_w (w : World) : Fun Try.prog 6 [] w (.bool true) := by
  refine Tri.enter (bx := []) (hp := []) Try.func6 rfl (by kernel_rfl) rfl (Own.nil w) ?_
  refine At.run 100 true [] [] rfl (by (repeat' apply And.intro) <;> first | exact True.intro | omega | (simp only [inK]; omega) | (simp; done) | (simp; omega) | exact decide_eq_true (by omega) | exact decide_eq_false (by omega) | rfl | exact AggOk.mk (by kernel_rfl) (by kernel_rfl)) ?_
  refine At.step [] rfl rfl rfl rfl rfl trivial (OpOk.buildSlice rfl rfl rfl rfl rfl rfl rfl (fun b hb => ?_))
  have hcall : ∀ {hp : List Seg}, CallOb Try.prog ⟨w, kys [] []⟩ [(b, 2, [.int .i64 5, .int .i64 6, .int .i64 7, .int .i64 7])] hp 8 [sv (some b) 4 4] (.tuple #[str [4, 10, 1, 2, 2, 0, 1], .int .i64 0]) := by
    intro hp w' hw'
    have hblk := hw'.bx _ (List.mem_cons_self ..)
    rw [← colL_alive]
    exact Try.Put_w [5, 6, 7, 7] (svA (some b)) 4 w' (by simp) (SlOk.blk hblk)
  refine At.run 100 true [] [hC (.tuple #[str [4, 10, 1, 2, 2, 0, 1], .int .i64 0])] rfl ⟨hcall, trivial⟩ ?_
  refine At.run 100 true [true] [] rfl (by (repeat' apply And.intro) <;> first | exact True.intro | omega | (simp only [inK]; omega) | (simp; done) | (simp; omega) | exact decide_eq_true (by omega) | exact decide_eq_false (by omega) | rfl | exact AggOk.mk (by kernel_rfl) (by kernel_rfl)) ?_
  refine At.keep [] [] rfl ?_
  exact At.ret [] rfl Try.func6 rfl trivial ⟨rfl, rfl, rfl⟩

end Go.Proofs

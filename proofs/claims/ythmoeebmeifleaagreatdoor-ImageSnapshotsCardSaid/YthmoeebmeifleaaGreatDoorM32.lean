/-
  Walks of layer 21 and of its document: a segment's rows.
-/
import Derived.Test.YthmoeebmeifleaaGreatDoorM15
import Derived.Test.YthmoeebmeifleaaGreatDoorM7
import Derived.Test.YthmoeebmeifleaaGreatDoorM26
import Derived.Test.YthmoeebmeifleaaGreatDoorM31
import Derived.Test.YthmoeebmeifleaaGreatDoorM21
/-
  Walks of layer 21 and of its document: a segment's rows.
-/
namespace Go.Proofs
open Go Go.Eng
set_option maxRecDepth 100000
set_option maxHeartbeats 4000000
attribute [local irreducible] Tri

theorem nm_empty {c : UInt8} {k : Int} (h : nmB c k = []) : decide (bl ⟨(nmB c k).toArray⟩ = bl ⟨#[]⟩) = true := by rw [h]; rfl
theorem nm_some {c : UInt8} {k : Int} (h : nmB c k ≠ []) : decide (bl ⟨(nmB c k).toArray⟩ = bl ⟨#[]⟩) = false := decide_eq_false (by rw [bl_of]; exact h)
theorem Tryz.imSegment_w (S : FL) (k : Int) (a : Option Addr) (cap : Nat) (w : World) (hlen : S.length ≤ 60) (hS : ∀ p, p ∈ S → p.2.length ≤ 6000) (hrow : SlOk w a (fl S)) (hk : inK .i64 k) (hT : Tryz.Pow w) :
    Tri Tryz.prog 35 [.slice a S.length cap, .int .i64 k] w [] (fun v bx hp => ∃ (g : Option Nat) (c : Nat), v = .tuple #[sv g (segF S k).1.length c, .bool (segF S k).2] ∧ bx = [] ∧ hp = [Seg.row g 9 1 (segF S k).1.length c ((segF S k).1.map str)]) := by
  obtain ⟨s, hs⟩ : ∃ s, readN S (nmB 115 k) = s := ⟨_, rfl⟩
  have hsl : s.length ≤ 6000 := by rw [← hs]; exact readF_len hS
  have fR : ∀ {bx : Bx} {hp : List Seg}, CallOb Tryz.prog ⟨w, kys [] []⟩ bx hp 42 [.slice a S.length cap, str (nmB 115 k)] (str s) := fun {_ _} w' hw' => by
    have := Tryz.imRead_w S (nmB 115 k) a cap w' (by omega) (hrow.ext hw'.ext (by simp [kys])); rwa [hs] at this
  have hN : ∀ {bx : Bx} {hp : List Seg}, CallOb Tryz.prog ⟨w, kys [] []⟩ bx hp 70 [.int .i64 k] (str (nmB 115 k)) := fun {_ _} w' hw' => Tryz.shSegment_w k w' hk (tab_ext hT hw'.ext)
  refine Tri.enter (bx := []) (hp := []) Tryz.func35 rfl (by kernel_rfl) rfl (Own.nil w) ?_
  unfold segF
  rw [hs]
  by_cases h0 : nmB 115 k = []
  · rw [if_pos h0]
    refine At.go [true] [hC (.string { data := (nmB 115 k).toArray })] rfl (by and_intros <;> first | exact hN | exact nm_empty h0 | exact oK) ?_
    refine At.nilRow 9 1 ?_
    refine At.rt [] [true] [] Tryz.func35 ?_
    exact ⟨none, 0, rfl, rfl, rfl⟩
  rw [if_neg h0]
  refine At.go [false] [hC (.string { data := (nmB 115 k).toArray }), hC (.string { data := s.toArray })] rfl (by and_intros <;> first | exact hN | exact nm_some h0 | exact fR | exact oK) ?_
  refine At.step [] rfl rfl rfl rfl rfl trivial (OpOk.call rfl (fun w' hw' => Tryz.Scan_w s w' (by omega)) ?_)
  rintro _ _ _ ⟨a1, k1, rfl, rfl, rfl⟩
  refine At.go [] [] rfl (by and_intros <;> first | exact trivial | exact oK) ?_
  rw [justB_eq]
  refine At.rt [] [true] [] Tryz.func35 ?_
  exact ⟨a1, k1, rfl, rfl, rfl⟩
theorem Tryz.rfSegment_w (S : FL) (k : Int) (a : Option Addr) (cap : Nat) (w : World) (hlen : S.length ≤ 60) (hS : ∀ p, p ∈ S → p.2.length ≤ 6000) (hrow : SlOk w a (fl S)) :
    Tri Tryz.prog 54 [.slice a S.length cap, .int .i64 k] w [] (fun v bx hp => ∃ (g : Option Nat) (c : Nat), v = .tuple #[sv g (segF S k).1.length c, .bool (segF S k).2] ∧ bx = [] ∧ hp = [Seg.row g 9 1 (segF S k).1.length c ((segF S k).1.map str)]) := by
  obtain ⟨s, hs⟩ : ∃ s, readN S (nmB 115 k) = s := ⟨_, rfl⟩
  have hsl : s.length ≤ 6000 := by rw [← hs]; exact readF_len hS
  have fR : ∀ {bx : Bx} {hp : List Seg}, CallOb Tryz.prog ⟨w, kys [] []⟩ bx hp 46 [.slice a S.length cap, str (nmB 115 k)] (str s) := fun {_ _} w' hw' => by
    have := Tryz.r9Read_w S (nmB 115 k) a cap w' (by omega) (hrow.ext hw'.ext (by simp [kys])); rwa [hs] at this
  have hN : ∀ {bx : Bx} {hp : List Seg}, CallOb Tryz.prog ⟨w, kys [] []⟩ bx hp 74 [.int .i64 k] (str (nmB 115 k)) := fun {_ _} w' _ => Tryz.rSegment_w k w'
  refine Tri.enter (bx := []) (hp := []) Tryz.func54 rfl (by kernel_rfl) rfl (Own.nil w) ?_
  unfold segF
  rw [hs]
  by_cases h0 : nmB 115 k = []
  · rw [if_pos h0]
    refine At.go [true] [hC (.string { data := (nmB 115 k).toArray })] rfl (by and_intros <;> first | exact hN | exact nm_empty h0 | exact oK) ?_
    refine At.nilRow 9 1 ?_
    refine At.rt [] [true] [] Tryz.func54 ?_
    exact ⟨none, 0, rfl, rfl, rfl⟩
  rw [if_neg h0]
  refine At.go [false] [hC (.string { data := (nmB 115 k).toArray }), hC (.string { data := s.toArray })] rfl (by and_intros <;> first | exact hN | exact nm_some h0 | exact fR | exact oK) ?_
  refine At.step [] rfl rfl rfl rfl rfl trivial (OpOk.call rfl (fun w' hw' => Tryz.Just_w s w' (by omega)) ?_)
  rintro _ _ _ ⟨a1, k1, rfl, rfl, rfl⟩
  refine At.go [] [] rfl (by and_intros <;> first | exact trivial | exact oK) ?_
  refine At.rt [] [true] [] Tryz.func54 ?_
  exact ⟨a1, k1, rfl, rfl, rfl⟩
end Go.Proofs

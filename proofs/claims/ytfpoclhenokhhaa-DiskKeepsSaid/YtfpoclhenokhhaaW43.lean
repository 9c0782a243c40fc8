/-
  Walks of layer 9: writes that are pending.
-/
import Derived.Test.YtfpoclhenokhhaaW42
namespace Go.Proofs
open Go Go.Eng
set_option maxRecDepth 100000
set_option maxHeartbeats 4000000
attribute [local irreducible] Tri

def cutW (F : List FileE) (n : List UInt8) (at0 : Nat) (s : List UInt8) (k : Int) (g c : Nat) : List FileE := if 0 < k then putF F ⟨n, wrB (bytesF F n) at0 (s.take k.toNat), g, c⟩ else F

theorem Try.write1_w (b : Nat) (F : List FileE) (k : Int) (n : List UInt8) (at0 : Nat) (s : List UInt8) (b1 b2 b3 : Nat) (w : World) (hown : Own [] [Seg.files 5 b F] w)
    (h1 : w.heap[b1]? = some (.cells ([str n] : List Value).toArray 9 (0, 0))) (h2 : w.heap[b2]? = some (.cells ([.int .i64 at0] : List Value).toArray 3 (0, 0))) (h3 : w.heap[b3]? = some (.cells ([str s] : List Value).toArray 9 (0, 0)))
    (m1 : b1 ∉ kys [] [Seg.files 5 b F]) (m2 : b2 ∉ kys [] [Seg.files 5 b F]) (m3 : b3 ∉ kys [] [Seg.files 5 b F]) (hk : k ≤ s.length) (hb : at0 + s.length ≤ 16777216) (hF : (bytesF F n).length ≤ 16777216) :
    Tri Try.prog 71 [.map (some b), .int .i64 k, .pointer (some ⟨b1, 0, none⟩), .pointer (some ⟨b2, 0, none⟩), .pointer (some ⟨b3, 0, none⟩)] w (kys [] [Seg.files 5 b F])
      (fun v bx hp => v = .tuple #[] ∧ bx = [] ∧ ∃ g c, hp = [Seg.files 5 b (cutW F n at0 s k g c)]) := by
  refine Tri.enter (bx := []) (hp := [Seg.files 5 b F]) Try.func71 rfl (by kernel_rfl) rfl hown ?_
  have r1 : ∀ {bx : Bx} {hp : List Seg}, RdW ⟨w, kys [] [Seg.files 5 b F]⟩ bx hp b1 0 [str n] := fun {_ _} => RdW.blkB1 m1 h1 rfl
  have r2 : ∀ {bx : Bx} {hp : List Seg}, RdW ⟨w, kys [] [Seg.files 5 b F]⟩ bx hp b2 0 [.int .i64 at0] := fun {_ _} => RdW.blkB1 m2 h2 rfl
  have r3 : ∀ {bx : Bx} {hp : List Seg}, RdW ⟨w, kys [] [Seg.files 5 b F]⟩ bx hp b3 0 [str s] := fun {_ _} => RdW.blkB1 m3 h3 rfl
  have hsz : (bl ⟨s.toArray⟩).length = s.length := by rw [bl_of]
  by_cases hk0 : 0 < k
  · refine At.run 100 true [true] [] rfl (by (repeat' apply And.intro) <;> first | exact True.intro | omega | (simp only [inK]; omega) | (simp; done) | (simp; omega) | exact decide_eq_true (by omega) | exact decide_eq_false (by omega) | rfl | (simp [Value.oneCell']; done) | exact i64s_one _ | exact AggOk.mk (by kernel_rfl) (by kernel_rfl)) ?_
    refine At.quietT 6 1 true [] [hR [str n], hR [.int .i64 at0], hR [str s]] ⟨by kernel_rfl, by kernel_rfl, rfl, by kernel_rfl, by kernel_rfl, by kernel_rfl, rfl, rfl, rfl⟩ rfl rfl rfl (by (repeat' apply And.intro) <;> first | exact r1 | exact r2 | exact r3 | exact True.intro | omega | rfl | (simp only [inK]; omega) | exact decide_eq_true (by omega) | exact decide_eq_false (by omega) | (simp; done) | (simp; omega) | (simp [Value.oneCell']; done) | exact i64s_one _ | exact AggOk.mk (by kernel_rfl) (by kernel_rfl)) rfl ?_
    have hlt : (s.take k.toNat).length = k.toNat := by rw [List.length_take]; omega
    simp only [bl_of]
    refine AtD.fork1 6 (by kernel_rfl) (StepD.by [] rfl rfl rfl rfl trivial (OpOk.callAll rfl (fun w' hw' => Try.write_w b F n at0 (s.take k.toNat) w' hw'.toOwn (by omega) (by omega) hF) ?_))
    · rintro v bx' hp' ⟨rfl, rfl, g, c, rfl⟩
      refine AtD.done (by kernel_rfl) ?_
      refine At.run 100 true [] [] rfl (by (repeat' apply And.intro) <;> first | exact True.intro | omega | (simp only [inK]; omega) | (simp; done) | (simp; omega) | exact decide_eq_true (by omega) | exact decide_eq_false (by omega) | rfl | (simp [Value.oneCell']; done) | exact i64s_one _ | exact AggOk.mk (by kernel_rfl) (by kernel_rfl)) ?_
      exact At.ret [] rfl Try.func71 rfl trivial ⟨rfl, rfl, g, c, by rw [cutW, if_pos hk0]⟩
  · refine At.run 100 true [false] [] rfl (by (repeat' apply And.intro) <;> first | exact True.intro | omega | (simp only [inK]; omega) | (simp; done) | (simp; omega) | exact decide_eq_true (by omega) | exact decide_eq_false (by omega) | rfl | (simp [Value.oneCell']; done) | exact i64s_one _ | exact AggOk.mk (by kernel_rfl) (by kernel_rfl)) ?_
    exact At.ret [] rfl Try.func71 rfl trivial ⟨rfl, rfl, 0, 0, by rw [cutW, if_neg hk0]⟩

end Go.Proofs

/-
  Walks of layer 9: names.
-/
import Derived.Test.YtfpoclhenokhhaaW40
import Derived.Laws.RangeAny
import Derived.Laws.RangeString
namespace Go.Proofs
open Go Go.Eng
set_option maxRecDepth 100000
set_option maxHeartbeats 4000000
attribute [local irreducible] Tri

def okR (c : Nat) : Bool := decide (48 ≤ c ∧ c ≤ 57 ∨ 97 ≤ c ∧ c ≤ 122)
def namedB (s : List UInt8) : Bool := Nat.ble 1 s.length && Nat.ble s.length 16 && s.all fun b => okR b.toNat

theorem Try.named1_w (c : Nat) (w : World) (hc : c ≤ 2147483647) : Fun Try.prog 100 [.int .i32 c] w (.bool (!okR c)) := by
  refine Tri.enter (bx := []) (hp := []) Try.func100 rfl (by kernel_rfl) rfl (Own.nil w) ?_

  by_cases h1 : c < 48
  · by_cases h2 : c < 97
    · refine At.run 100 true [true, true, true] [] rfl (by (repeat' apply And.intro) <;> first | exact True.intro | omega | (simp only [inK]; omega) | (simp; done) | (simp; omega) | exact decide_eq_true (by omega) | exact decide_eq_false (by omega) | rfl | (simp [Value.oneCell']; done) | exact i64s_one _ | exact AggOk.mk (by kernel_rfl) (by kernel_rfl)) ?_
      refine At.retK [] [] [] rfl rfl Try.func100 rfl trivial ⟨?_, rfl, rfl⟩
      have : okR c = false := decide_eq_false (by omega)
      rw [this]; simp [tupV] <;> omega
    · omega
  · by_cases h2 : 57 < c
    · by_cases h3 : c < 97
      · refine At.run 100 true [false, true, true] [] rfl (by (repeat' apply And.intro) <;> first | exact True.intro | omega | (simp only [inK]; omega) | (simp; done) | (simp; omega) | exact decide_eq_true (by omega) | exact decide_eq_false (by omega) | rfl | (simp [Value.oneCell']; done) | exact i64s_one _ | exact AggOk.mk (by kernel_rfl) (by kernel_rfl)) ?_
        refine At.retK [] [] [] rfl rfl Try.func100 rfl trivial ⟨?_, rfl, rfl⟩
        have : okR c = false := decide_eq_false (by omega)
        rw [this]; simp [tupV] <;> omega
      · refine At.run 100 true [false, true, false] [] rfl (by (repeat' apply And.intro) <;> first | exact True.intro | omega | (simp only [inK]; omega) | (simp; done) | (simp; omega) | exact decide_eq_true (by omega) | exact decide_eq_false (by omega) | rfl | (simp [Value.oneCell']; done) | exact i64s_one _ | exact AggOk.mk (by kernel_rfl) (by kernel_rfl)) ?_
        refine At.retK [] [] [] rfl rfl Try.func100 rfl trivial ⟨?_, rfl, rfl⟩
        by_cases h4 : 122 < c
        · have : okR c = false := decide_eq_false (by omega)
          rw [this]; simp [tupV] <;> omega
        · have : okR c = true := decide_eq_true (by omega)
          rw [this]; simp [tupV] <;> omega
    · refine At.run 100 true [false, false] [] rfl (by (repeat' apply And.intro) <;> first | exact True.intro | omega | (simp only [inK]; omega) | (simp; done) | (simp; omega) | exact decide_eq_true (by omega) | exact decide_eq_false (by omega) | rfl | (simp [Value.oneCell']; done) | exact i64s_one _ | exact AggOk.mk (by kernel_rfl) (by kernel_rfl)) ?_
      refine At.retK [] [] [] rfl rfl Try.func100 rfl trivial ⟨?_, rfl, rfl⟩
      have : okR c = true := decide_eq_true (by omega)
      rw [this]; simp [tupV] <;> omega

/-- Where the first one lies that is not as it should be. -/
theorem Try.indexFunc_w (s : List UInt8) (w : World) (hs : s.length ≤ 9223372036854775807) :
    Tri Try.prog 156 [str s, .func (.func 100) ⟨[]⟩ ⟨[]⟩, .bool true] w [] (fun v bx hp => ∃ k : Int, v = .int .i64 k ∧ (k < 0 ↔ (s.all fun b => okR b.toNat) = true) ∧ -1 ≤ k ∧ k ≤ 9223372036854775807 ∧ bx = [] ∧ hp = []) := by
  refine Tri.enter (bx := []) (hp := []) Try.func156 rfl (by kernel_rfl) rfl (Own.nil w) ?_
  refine At.run 100 true [] [] rfl (by (repeat' apply And.intro) <;> first | exact True.intro | omega | (simp only [inK]; omega) | (simp; done) | (simp; omega) | exact decide_eq_true (by omega) | exact decide_eq_false (by omega) | rfl | (simp [Value.oneCell']; done) | exact i64s_one _ | exact AggOk.mk (by kernel_rfl) (by kernel_rfl)) ?_
  refine At.step [] rfl rfl rfl rfl rfl trivial (OpOk.rangeStr (s := ⟨s.toArray⟩) rfl rfl Try.strT fun r => ?_)
  refine At.run 100 true [] [] rfl (by (repeat' apply And.intro) <;> first | exact True.intro | omega | (simp only [inK]; omega) | (simp; done) | (simp; omega) | exact decide_eq_true (by omega) | exact decide_eq_false (by omega) | rfl | (simp [Value.oneCell']; done) | exact i64s_one _ | exact AggOk.mk (by kernel_rfl) (by kernel_rfl)) ?_
  have hsz : (⟨s.toArray⟩ : ByteArray).size = s.length := by simp [ByteArray.size]
  refine At.loop (n := s.length) (env0 := [(1, .func (.func 100) ⟨[]⟩ ⟨[]⟩), (2, .bool true), (10, .pointer (some ⟨r, 0, none⟩))]) (fun m env bx hp => ∃ pos : Nat, m = s.length - pos ∧ pos ≤ s.length ∧ ((s.take pos).all fun b => okR b.toNat) = true ∧
    env = [(1, .func (.func 100) ⟨[]⟩ ⟨[]⟩), (2, .bool true), (10, .pointer (some ⟨r, 0, none⟩))] ∧ bx = [] ∧ hp = [Seg.obj r (.stringIter ⟨s.toArray⟩ pos)]) rfl ⟨0, by simp, by omega, by simp, rfl, rfl, rfl⟩ ⟨rfl, rfl, rfl, trivial⟩ ?_
  rintro m env bx hp ⟨pos, rfl, hpos, hall, rfl, rfl, rfl⟩ ih
  refine At.run 100 true [] [] rfl trivial ?_
  refine At.step [] rfl rfl rfl rfl rfl trivial (OpOk.nextStr 0 rfl rfl rfl (fun hd => ?_) (fun hlt c width hdec => ?_))
  · rw [hsz] at hd
    have : pos = s.length := by omega
    subst this
    rw [List.take_length] at hall
    refine At.run 100 true [false] [] rfl (by (repeat' apply And.intro) <;> first | exact True.intro | omega | (simp only [inK]; omega) | (simp; done) | (simp; omega) | exact decide_eq_true (by omega) | exact decide_eq_false (by omega) | rfl | (simp [Value.oneCell']; done) | exact i64s_one _ | exact AggOk.mk (by kernel_rfl) (by kernel_rfl)) ?_
    exact At.retK [] [] [] rfl rfl Try.func156 rfl trivial ⟨-1, rfl, by simp only [hall]; simp, by omega, by omega, rfl, rfl⟩
  · have hlt' : pos < s.length := by rw [hsz] at hlt; exact hlt
    obtain ⟨x, hx⟩ : ∃ x, s[pos]? = some x := ⟨_, List.getElem?_eq_getElem hlt'⟩
    have hxe : (⟨s.toArray⟩ : ByteArray)[pos]'hlt = x := by
      have := (List.getElem?_eq_some_iff.1 hx).2
      rw [← this]; rfl
    have hcm : c ≤ 2147483647 := by have := decode_le ⟨s.toArray⟩ pos; rw [hdec] at this; exact this
    have hcall : ∀ {bx : Bx} {hp : List Seg}, CallOb Try.prog ⟨w, kys [] []⟩ bx hp 100 [.int .i32 c] (.bool (!okR c)) := fun {_ _} w' hw' => Try.named1_w c w' hcm
    have hbad : okR c = false → okR x.toNat = false := by
      intro h
      rcases Nat.lt_or_ge x.toNat 128 with h8 | h8
      · have := decode_ascii ⟨s.toArray⟩ pos hlt (by rw [hxe]; exact h8)
        rw [hdec, hxe] at this
        simp only [Prod.mk.injEq] at this
        rw [← this.1]; exact h
      · exact decide_eq_false (by omega)
    cases hok : okR c with
    | false =>
      rw [hok] at hcall
      refine At.run 100 true [true, true] [hC (.bool true)] rfl (by (repeat' apply And.intro) <;> first | exact hcall | exact True.intro | omega | rfl | (simp only [inK]; omega) | exact decide_eq_true (by omega) | exact decide_eq_false (by omega) | (simp; done) | (simp; omega) | (simp [Value.oneCell']; done) | exact i64s_one _ | exact AggOk.mk (by kernel_rfl) (by kernel_rfl)) ?_
      refine At.keep [] [] (by simp only [forceL_eq]; exact Prod.ext rfl (selL_no _)) ?_
      refine At.retK [] [] [] rfl rfl Try.func156 rfl trivial ⟨pos, rfl, ?_, by omega, by omega, rfl, rfl⟩
      constructor
      · intro h; omega
      · intro h
        have := List.all_eq_true.1 h x (List.mem_of_getElem? hx)
        rw [hbad hok] at this; cases this
    | true =>
      have h8 : x.toNat < 128 := by
        rcases Nat.lt_or_ge x.toNat 128 with h8 | h8
        · exact h8
        · have := (decode_high ⟨s.toArray⟩ pos hlt (by rw [hxe]; exact h8)).1
          rw [hdec] at this
          have := of_decide_eq_true hok; omega
      have hda := decode_ascii ⟨s.toArray⟩ pos hlt (by rw [hxe]; exact h8)
      rw [hdec, hxe] at hda
      simp only [Prod.mk.injEq] at hda
      obtain ⟨rfl, rfl⟩ := hda
      rw [hok] at hcall
      refine At.run 100 true [true, false] [hC (.bool false)] rfl (by (repeat' apply And.intro) <;> first | exact hcall | exact True.intro | omega | rfl | (simp only [inK]; omega) | exact decide_eq_true (by omega) | exact decide_eq_false (by omega) | (simp; done) | (simp; omega) | (simp [Value.oneCell']; done) | exact i64s_one _ | exact AggOk.mk (by kernel_rfl) (by kernel_rfl)) ?_
      refine At.weak (ih _ _ _ _ (by omega) ⟨pos + 1, rfl, by omega, ?_, rfl, rfl, rfl⟩) ⟨rfl, rfl, rfl, trivial⟩
      rw [List.take_add_one, hx, List.all_append, hall]
      simp [hok]

theorem Try.containsFunc_w (s : List UInt8) (w : World) (hs : s.length ≤ 9223372036854775807) :
    Fun Try.prog 101 [str s, .func (.func 100) ⟨[]⟩ ⟨[]⟩] w (.bool (!(s.all fun b => okR b.toNat))) := by
  have hI : ∀ w, Tri Try.prog 122 [str s, .func (.func 100) ⟨[]⟩ ⟨[]⟩] w [] (fun v bx hp => ∃ k : Int, v = .int .i64 k ∧ (k < 0 ↔ (s.all fun b => okR b.toNat) = true) ∧ -1 ≤ k ∧ k ≤ 9223372036854775807 ∧ bx = [] ∧ hp = []) := by
    intro w
    refine Tri.enter (bx := []) (hp := []) Try.func122 rfl (by kernel_rfl) rfl (Own.nil w) ?_
    refine At.run 100 true [] [] rfl (by (repeat' apply And.intro) <;> first | exact True.intro | omega | (simp only [inK]; omega) | (simp; done) | (simp; omega) | exact decide_eq_true (by omega) | exact decide_eq_false (by omega) | rfl | (simp [Value.oneCell']; done) | exact i64s_one _ | exact AggOk.mk (by kernel_rfl) (by kernel_rfl)) ?_
    refine At.step [] rfl rfl rfl rfl rfl trivial (OpOk.call rfl (fun w' hw' => Try.indexFunc_w s w' hs) ?_)
    rintro v bx' hp' ⟨k, rfl, hk, h1, h2, rfl, rfl⟩
    refine At.run 100 true [] [] rfl (by (repeat' apply And.intro) <;> first | exact True.intro | omega | (simp only [inK]; omega) | (simp; done) | (simp; omega) | exact decide_eq_true (by omega) | exact decide_eq_false (by omega) | rfl | (simp [Value.oneCell']; done) | exact i64s_one _ | exact AggOk.mk (by kernel_rfl) (by kernel_rfl)) ?_
    exact At.retK [] [] [] rfl rfl Try.func122 rfl trivial ⟨k, rfl, hk, h1, h2, rfl, rfl⟩
  refine Tri.enter (bx := []) (hp := []) Try.func101 rfl (by kernel_rfl) rfl (Own.nil w) ?_
  refine At.run 100 true [] [] rfl (by (repeat' apply And.intro) <;> first | exact True.intro | omega | (simp only [inK]; omega) | (simp; done) | (simp; omega) | exact decide_eq_true (by omega) | exact decide_eq_false (by omega) | rfl | (simp [Value.oneCell']; done) | exact i64s_one _ | exact AggOk.mk (by kernel_rfl) (by kernel_rfl)) ?_
  refine At.step [] rfl rfl rfl rfl rfl trivial (OpOk.call rfl (fun w' hw' => hI w') ?_)
  rintro v bx' hp' ⟨k, rfl, hk, h1, h2, rfl, rfl⟩
  refine At.run 100 true [] [] rfl (by (repeat' apply And.intro) <;> first | exact True.intro | omega | (simp only [inK]; omega) | (simp; done) | (simp; omega) | exact decide_eq_true (by omega) | exact decide_eq_false (by omega) | rfl | (simp [Value.oneCell']; done) | exact i64s_one _ | exact AggOk.mk (by kernel_rfl) (by kernel_rfl)) ?_
  refine At.retK [] [] [] rfl rfl Try.func101 rfl trivial ⟨?_, rfl, rfl⟩
  cases ha : s.all fun b => okR b.toNat with
  | true => have := hk.2 ha; simp [tupV]; omega
  | false =>
    have : ¬ k < 0 := fun h => by have := hk.1 h; rw [ha] at this; cases this
    simp [tupV]; omega

theorem Try.named_w (s : List UInt8) (w : World) (hs : s.length ≤ 9223372036854775807) : Fun Try.prog 70 [str s] w (.bool (namedB s)) := by
  refine Tri.enter (bx := []) (hp := []) Try.func70 rfl (by kernel_rfl) rfl (Own.nil w) ?_
  have hsz : (bl ⟨s.toArray⟩).length = s.length := by rw [bl_of]
  by_cases h1 : s.length < 1
  · refine At.run 100 true [true, true] [] rfl (by (repeat' apply And.intro) <;> first | exact True.intro | omega | (simp only [inK]; omega) | (simp; done) | (simp; omega) | exact decide_eq_true (by omega) | exact decide_eq_false (by omega) | rfl | (simp [Value.oneCell']; done) | exact i64s_one _ | exact AggOk.mk (by kernel_rfl) (by kernel_rfl)) ?_
    have : namedB s = false := by simp [namedB]; omega
    exact At.retK [] [] [] rfl rfl Try.func70 rfl trivial ⟨by rw [this]; rfl, rfl, rfl⟩
  · by_cases h2 : 16 < s.length
    · refine At.run 100 true [false, true] [] rfl (by (repeat' apply And.intro) <;> first | exact True.intro | omega | (simp only [inK]; omega) | (simp; done) | (simp; omega) | exact decide_eq_true (by omega) | exact decide_eq_false (by omega) | rfl | (simp [Value.oneCell']; done) | exact i64s_one _ | exact AggOk.mk (by kernel_rfl) (by kernel_rfl)) ?_
      have : namedB s = false := by simp [namedB]; omega
      exact At.retK [] [] [] rfl rfl Try.func70 rfl trivial ⟨by rw [this]; rfl, rfl, rfl⟩
    · have hC1 : ∀ {bx : Bx} {hp : List Seg}, CallOb Try.prog ⟨w, kys [] []⟩ bx hp 101 [str s, .func (.func 100) ⟨[]⟩ ⟨[]⟩] (.bool (!(s.all fun b => okR b.toNat))) := fun {_ _} w' hw' => Try.containsFunc_w s w' hs
      refine At.run 100 true [false, false] [hC (.bool (!(s.all fun b => okR b.toNat)))] rfl (by (repeat' apply And.intro) <;> first | exact hC1 | exact True.intro | omega | rfl | (simp only [inK]; omega) | exact decide_eq_true (by omega) | exact decide_eq_false (by omega) | (simp; done) | (simp; omega) | (simp [Value.oneCell']; done) | exact i64s_one _ | exact AggOk.mk (by kernel_rfl) (by kernel_rfl)) ?_
      refine At.retK [] [] [] rfl rfl Try.func70 rfl trivial ⟨?_, rfl, rfl⟩
      have h3 : Nat.ble 1 s.length = true := by simp; omega
      have h4 : Nat.ble s.length 16 = true := by simp; omega
      simp only [namedB, h3, h4, tupV, Bool.not_not, Bool.true_and]

end Go.Proofs

/-
  Walks of layer 1: bytes taken, rows.
-/
import Derived.Test.YthmoeebmeifleaaGreatDoorM15
import Derived.Test.YthmoeebmeifleaaGreatDoorM7
import Derived.Test.YthmoeebmeifleaaGreatDoorM19
import Derived.Test.YthmoeebmeifleaaGreatDoorM2
import Derived.Test.YthmoeebmeifleaaGreatDoorM8
import Derived.Test.YthmoeebmeifleaaGreatDoorM10
import Derived.Test.YthmoeebmeifleaaGreatDoorProg
import Derived.KernelRfl
/-
  Walks of layer 1: bytes taken, rows.
-/
namespace Go.Proofs
open Go Go.Eng
set_option maxRecDepth 100000
set_option maxHeartbeats 4000000
attribute [local irreducible] Tri

theorem Tryz.guardS_w (s : ByteArray) (a0 a1 : Nat) (f e : Int) (x : List UInt8) (b : Nat) (rest : Bx) (F : Nat) (cap : List Value) (w : World) (hown : Own ((b, 234, rdr s a0 f) :: rest) [] w)
    (hstep : f = 0 → StepR Tryz.prog F cap b 234 s a0 rest (str x) e a1 w) :
    Tri Tryz.prog 144 [.pointer (some ⟨b, 0, none⟩), .func (.func F) ⟨[]⟩ ⟨cap⟩] w (kys ((b, 234, rdr s a0 f) :: rest) [])
      (fun v bx hp => v = str (if f = 0 ∧ e = 0 then x else []) ∧ bx = (b, 234, if f ≠ 0 then rdr s a0 f else if e = 0 then rdr s a1 0 else rdr s a0 e) :: rest ∧ hp = []) := by
  refine Tri.enter Tryz.func144 rfl (by kernel_rfl) rfl hown ?_
  by_cases hf : f = 0
  · subst hf
    refine At.run 100 true [false, false] [hB 0, hB 0, hB 0] rfl ⟨rfl, rfl, rfl, rfl, rfl, rfl, rfl, rfl, rfl, trivial⟩ ?_
    refine At.step [] rfl rfl rfl rfl rfl trivial (OpOk.callAll (Q := fun v bx hp => v = .tuple #[str x, .int .i64 e] ∧ bx = (b, 234, rdr s a1 0) :: rest ∧ hp = []) rfl (fun w' hw' => by rw [allArgs_eq]; exact hstep rfl w' hw'.ext hw'.toOwn) ?_)
    rintro v bx' hp' ⟨rfl, rfl, rfl⟩
    by_cases he : e = 0
    · subst he
      refine At.run 100 true [false] [] rfl ⟨rfl, trivial⟩ ?_
      exact At.ret [] rfl Tryz.func144 rfl trivial ⟨rfl, rfl, rfl⟩
    · have hd : (!decide (e = 0)) = true := by simp [he]
      refine At.run 100 true [true] [hB 0, hB 0] rfl ⟨⟨rfl, rfl⟩, ⟨rfl, rfl⟩, hd, trivial⟩ ?_
      refine At.ret [] rfl Tryz.func144 rfl trivial ⟨?_, ?_, rfl⟩
      · rw [if_neg (by simp [he])]; rfl
      · rw [if_neg (by simp), if_neg he]; rfl
  · have hd : (!decide (f = 0)) = true := by simp [hf]
    refine At.run 100 true [false, true] [hB 0] rfl ⟨hd, rfl, rfl, rfl, rfl, rfl, rfl, rfl, trivial⟩ ?_
    refine At.ret [] rfl Tryz.func144 rfl trivial ⟨?_, ?_, rfl⟩
    · rw [if_neg (by simp [hf])]; rfl
    · rw [if_pos hf]
theorem Tryz.take_w (s : ByteArray) (a0 : Nat) (n : Int) (b : Nat) (w : World) (ha : a0 ≤ (bl s).length) (hlen : (bl s).length ≤ 9223372036854775807) (hown : Own [(b, 234, rdr s a0 0)] [] w) :
    FunU Tryz.prog 146 [.pointer (some ⟨b, 0, none⟩), .int .i64 n] w (.tuple #[str (rdT (bl s) a0 0 n).1, .int .i64 (rdT (bl s) a0 0 n).2.2]) (b, 234, rdr s (rdT (bl s) a0 0 n).2.1 0) := by
  refine Tri.enter (bx := [(b, 234, rdr s a0 0)]) (hp := []) Tryz.func146 rfl (by kernel_rfl) rfl hown ?_
  unfold rdr
  by_cases h0 : n < 0
  · have e : rdT (bl s) a0 0 n = ([], a0, 1) := by unfold rdT; rw [if_neg (by simp), if_pos h0]
    rw [e]
    refine At.go [true] [] rfl (by and_intros <;> first | exact decide_eq_true h0 | exact oK) ?_
    refine At.rt [true] [] [] Tryz.func146 ?_
    exact ⟨rfl, rfl, rfl⟩
  by_cases h1 : ((bl s).length : Int) - a0 < n
  · have e : rdT (bl s) a0 0 n = ([], a0, 2) := by unfold rdT; rw [if_neg (by simp), if_neg h0, if_pos h1]
    rw [e]
    refine At.go [false] [] rfl (by and_intros <;> first | exact decide_eq_false h0 | exact decide_eq_true h1 | exact oK) ?_
    refine At.qt [] [hB 0, hB 0] rfl rfl (by and_intros <;> first | exact decide_eq_false h0 | exact decide_eq_true h1 | exact oK) ?_
    refine At.go [true] [] rfl (by and_intros <;> first | exact decide_eq_false h0 | exact decide_eq_true h1 | exact oK) ?_
    refine At.rt [true] [] [] Tryz.func146 ?_
    exact ⟨rfl, rfl, rfl⟩
  obtain ⟨m, rfl⟩ : ∃ m : Nat, n = m := ⟨n.toNat, by omega⟩
  have e : rdT (bl s) a0 0 (m : Int) = (((bl s).drop a0).take m, a0 + m, 0) := by unfold rdT; rw [if_neg (by simp), if_neg h0, if_neg h1, Int.toNat_natCast]
  rw [e]
  refine At.go [false] [] rfl (by and_intros <;> first | exact decide_eq_false h0 | exact decide_eq_false h1 | exact oK) ?_
  refine At.qt [] [hB 0, hB 0] rfl rfl (by and_intros <;> first | exact decide_eq_false h0 | exact decide_eq_false h1 | exact oK) ?_
  refine At.go [false] [hB 0, hB 0] rfl (by and_intros <;> first | exact decide_eq_false h0 | exact decide_eq_false h1 | exact oK) ?_
  refine At.qt [] [hB 0, hB 0, hB 0] rfl rfl (by and_intros <;> first | exact decide_eq_false h0 | exact decide_eq_false h1 | exact oK) ?_
  refine At.go [] [] rfl (by and_intros <;> first | exact decide_eq_false h0 | exact decide_eq_false h1 | exact oK) ?_
  rw [show ((a0 : Int) + m).toNat - ((a0 : Int) + m - m).toNat = m by omega, show ((a0 : Int) + m - m).toNat = a0 by omega]
  refine At.rt [true] [] [] Tryz.func146 ?_
  exact ⟨rfl, rfl, rfl⟩
theorem Tryz.take1_w (s : ByteArray) (a0 : Nat) (n : Int) (b br bm : Nat) (w : World) (ha : a0 ≤ (bl s).length) (hlen : (bl s).length ≤ 9223372036854775807) :
    StepR Tryz.prog 145 [.pointer (some ⟨br, 0, none⟩), .pointer (some ⟨bm, 0, none⟩)] b 234 s a0 [(bm, 3, [.int .i64 n]), (br, 151, [.pointer (some ⟨b, 0, none⟩)])]
      (str (rdT (bl s) a0 0 n).1) (rdT (bl s) a0 0 n).2.2 (rdT (bl s) a0 0 n).2.1 w := by
  intro w1 hext hown
  refine Tri.enter Tryz.func145 rfl (by kernel_rfl) rfl hown ?_
  have hU1 : ∀ {bx : Bx} {hp : List Seg}, nth bx 0 = some (b, 234, rdr s a0 0) → CallU Tryz.prog ⟨w1, kys [(b, 234, rdr s a0 0), (bm, 3, [.int .i64 n]), (br, 151, [.pointer (some ⟨b, 0, none⟩)])] []⟩ bx hp 146 [.pointer (some ⟨b, 0, none⟩), .int .i64 n] (.tuple #[str (rdT (bl s) a0 0 n).1, .int .i64 (rdT (bl s) a0 0 n).2.2]) (b, 234, rdr s (rdT (bl s) a0 0 n).2.1 0) := fun {_ _} h w' hw' => Tryz.take_w s a0 n b w' ha hlen (hw'.own1 0 h)
  refine At.go [] [hB 2, hB 1, hU (.tuple { toList := [.string { data := (rdT (bl s) a0 0 n).fst.toArray }, .int .i64 (rdT (bl s) a0 0 n).snd.snd] }) 0 (rdr s (rdT (bl s) a0 0 n).snd.fst 0)] rfl (by and_intros <;> first | exact hU1 rfl | exact oK) ?_
  refine At.rt [true, true, true] [] [] Tryz.func145 ?_
  exact ⟨rfl, rfl, rfl⟩
theorem rdT_f {l : List UInt8} {a : Nat} {f n : Int} : (rdT l a f n).1 = (if f = 0 ∧ (rdT l a 0 n).2.2 = 0 then (rdT l a 0 n).1 else []) ∧ (f ≠ 0 → (rdT l a f n).2 = (a, f)) ∧ (f = 0 → (rdT l a 0 n).2.2 ≠ 0 → (rdT l a 0 n).2.1 = a) := by
  unfold rdT
  by_cases hf : f = 0
  · subst hf
    simp only [ne_eq, not_true_eq_false, if_false]
    split
    · simp
    · split <;> simp
  · simp [hf]
theorem rdW_f {l : List UInt8} {a : Nat} {f n : Int} : (rdW l a f n).1 = (if f = 0 ∧ (rdW l a 0 n).2.2 = 0 then (rdW l a 0 n).1 else []) ∧ (f ≠ 0 → (rdW l a f n).2 = (a, f)) ∧ (f = 0 → (rdW l a 0 n).2.2 ≠ 0 → (rdW l a 0 n).2.1 = a) := by
  unfold rdW
  by_cases hf : f = 0
  · subst hf
    simp only [ne_eq, not_true_eq_false, if_false]
    by_cases he : (digP (l.drop a) 0 0).2.2 = 0
    · simp only [he, not_true_eq_false, if_false]
      split
      · simp
      · split <;> simp
    · simp [he]
  · simp [hf]
theorem Tryz.Take_w (s : ByteArray) (a0 : Nat) (f n : Int) (b : Nat) (w : World) (ha : a0 ≤ (bl s).length) (hlen : (bl s).length ≤ 9223372036854775807) (_hn : inK .i64 n) (hown : Own [(b, 234, rdr s a0 f)] [] w) :
    FunU Tryz.prog 81 [.pointer (some ⟨b, 0, none⟩), .int .i64 n] w (str (rdT (bl s) a0 f n).1) (b, 234, rdr s (rdT (bl s) a0 f n).2.1 (rdT (bl s) a0 f n).2.2) := by
  refine Tri.enter (bx := [(b, 234, rdr s a0 f)]) (hp := []) Tryz.func81 rfl (by kernel_rfl) rfl hown ?_
  refine At.run 100 true [] [] rfl trivial ?_
  refine At.step [] rfl rfl rfl rfl rfl trivial (OpOk.box rfl rfl rfl fun br hbr => ?_)
  refine At.step [] rfl rfl rfl rfl rfl trivial (OpOk.box rfl rfl rfl fun bm hbm => ?_)
  refine At.run 100 true [] [hB 1] rfl oK ?_
  refine At.perm (rot3 _ _ _) (List.Perm.refl _) ?_
  refine At.step [] rfl rfl rfl rfl rfl trivial (OpOk.callAll rfl (fun w' hw' => Tryz.guardS_w s a0 _ f _ _ b _ _ _ w' hw'.toOwn (fun _ => Tryz.take1_w s a0 n b br bm w' ha hlen)) ?_)
  rintro v bx' hp' ⟨rfl, rfl, rfl⟩
  refine At.run 100 true [] [] rfl trivial ?_
  refine At.keep [true, false, false] [] rfl ?_
  obtain ⟨h1, h2, h3⟩ := rdT_f (l := bl s) (a := a0) (f := f) (n := n)
  refine At.ret [] rfl Tryz.func81 rfl trivial ⟨?_, ?_, rfl⟩
  · rw [h1]; rfl
  · by_cases hf : f = 0
    · subst hf
      by_cases he : (rdT (bl s) a0 0 n).2.2 = 0
      · simp [he]
      · simp [he, h3 rfl he]
    · have h4 := h2 hf
      simp [hf, h4]
theorem Tryz.row1_w (s : ByteArray) (a0 : Nat) (n : Int) (b br bm : Nat) (w : World) (ha : a0 ≤ (bl s).length) (hlen : (bl s).length ≤ 9223372036854775807) (hn : inK .i64 n) :
    StepR Tryz.prog 218 [.pointer (some ⟨br, 0, none⟩), .pointer (some ⟨bm, 0, none⟩)] b 234 s a0 [(bm, 3, [.int .i64 n]), (br, 151, [.pointer (some ⟨b, 0, none⟩)])]
      (str (rdW (bl s) a0 0 n).1) (rdW (bl s) a0 0 n).2.2 (if (rdW (bl s) a0 0 n).2.2 = 0 then (rdW (bl s) a0 0 n).2.1 else a0 + (digP ((bl s).drop a0) 0 0).2.1) w := by
  intro w1 hext hown
  refine Tri.enter Tryz.func218 rfl (by kernel_rfl) rfl hown ?_
  have hk := digP_k ((bl s).drop a0) 0 0
  have hlt := digP_lt ((bl s).drop a0) 0 0 (by omega) (by simp)
  rw [List.length_drop] at hk
  obtain ⟨x, k, e, hD⟩ : ∃ x k e, digP ((bl s).drop a0) 0 0 = (x, k, e) := ⟨_, _, _, rfl⟩
  have hU1 : ∀ {bx : Bx} {hp : List Seg}, nth bx 0 = some (b, 234, rdr s a0 0) → CallU Tryz.prog ⟨w1, kys [(b, 234, rdr s a0 0), (bm, 3, [.int .i64 n]), (br, 151, [.pointer (some ⟨b, 0, none⟩)])] []⟩ bx hp 141 [.pointer (some ⟨b, 0, none⟩)] (.tuple #[.int .u64 x, .int .i64 e]) (b, 234, rdr s (a0 + k) 0) := fun {_ _} h w' hw' => by
    have := Tryz.digits_w s a0 0 b w' ha hlen (hw'.own1 0 h); rw [hD] at this; exact this
  simp only [inK] at hn
  simp only [rdW, hD] at hk hlt ⊢
  by_cases he : e = 0
  · subst he
    by_cases h0 : n < 0
    · refine At.go [false, true, true] [hB 2, hU (.tuple ⟨[.int .u64 ↑x, .int .i64 ↑0]⟩) 0 (rdr s (a0 + k) 0), hB 1] rfl (by and_intros <;> first | exact hU1 rfl | exact decide_eq_true h0 | (simp; done) | exact oK) ?_
      refine At.rt [true, true, true] [] [] Tryz.func218 ?_
      exact ⟨by simp [h0, tupV, str], by simp [h0, rdr], rfl⟩
    · by_cases h1 : n < x
      · refine At.go [false, false, true] [hB 2, hU (.tuple ⟨[.int .u64 ↑x, .int .i64 ↑0]⟩) 0 (rdr s (a0 + k) 0), hB 1, hB 1] rfl (by and_intros <;> first | exact hU1 rfl | exact decide_eq_false h0 | exact decide_eq_true h1 | (simp; done) | exact oK) ?_
        refine At.rt [true, true, true] [] [] Tryz.func218 ?_
        exact ⟨by simp [h1, tupV, str], by simp [h1, rdr], rfl⟩
      · have hT : ∀ {bx : Bx} {hp : List Seg}, nth bx 0 = some (b, 234, rdr s (a0 + k) 0) → CallU Tryz.prog ⟨w1, kys [(b, 234, rdr s a0 0), (bm, 3, [.int .i64 n]), (br, 151, [.pointer (some ⟨b, 0, none⟩)])] []⟩ bx hp 146 [.pointer (some ⟨b, 0, none⟩), .int .i64 x] (.tuple #[str (rdT (bl s) (a0 + k) 0 x).1, .int .i64 (rdT (bl s) (a0 + k) 0 x).2.2]) (b, 234, rdr s (rdT (bl s) (a0 + k) 0 x).2.1 0) := fun {_ _} h w' hw' => Tryz.take_w s (a0 + k) x b w' (by omega) hlen (hw'.own1 0 h)
        refine At.go [false, false, false] [hB 2, hU (.tuple ⟨[.int .u64 ↑x, .int .i64 ↑0]⟩) 0 (rdr s (a0 + k) 0), hB 1, hB 1, hB 2, hU (.tuple { toList := [.string { data := (rdT (bl s) (a0 + k) 0 ↑x).fst.toArray }, .int .i64 (rdT (bl s) (a0 + k) 0 ↑x).snd.snd] }) 0 (rdr s (rdT (bl s) (a0 + k) 0 ↑x).snd.fst 0)] rfl (by and_intros <;> first | exact hU1 rfl | exact hT rfl | exact decide_eq_false h0 | exact decide_eq_false h1 | (simp; done) | exact oK) ?_
        have hx0 : ¬ ((x : Int) < 0) := by omega
        by_cases h2 : (bl s).length - (a0 + k) < x
        · have e2 : rdT (bl s) (a0 + k) 0 x = ([], a0 + k, 2) := by unfold rdT; rw [if_neg (by simp), if_neg hx0, if_pos (by omega)]
          rw [e2]
          refine At.rt [true, true, true] [] [] Tryz.func218 ?_
          exact ⟨by simp [h0, h1, h2, tupV, str], by simp [h0, h1, h2, rdr], rfl⟩
        · have e2 : rdT (bl s) (a0 + k) 0 x = (((bl s).drop (a0 + k)).take x, a0 + k + x, 0) := by unfold rdT; rw [if_neg (by simp), if_neg hx0, if_neg (by omega), Int.toNat_natCast]
          rw [e2]
          refine At.rt [true, true, true] [] [] Tryz.func218 ?_
          exact ⟨by simp [h0, h1, h2, tupV, str], by simp [h0, h1, h2, rdr], rfl⟩
  · refine At.go [true] [hB 2, hU (.tuple ⟨[.int .u64 ↑x, .int .i64 ↑e]⟩) 0 (rdr s (a0 + k) 0)] rfl (by and_intros <;> first | exact hU1 rfl | (simp [he]; done) | exact oK) ?_
    refine At.rt [true, true, true] [] [] Tryz.func218 ?_
    exact ⟨by simp [he, tupV, str], by simp [he, rdr], rfl⟩
theorem Tryz.Row_w (s : ByteArray) (a0 : Nat) (f n : Int) (b : Nat) (w : World) (ha : a0 ≤ (bl s).length) (hlen : (bl s).length ≤ 9223372036854775807) (hn : inK .i64 n) (hown : Own [(b, 234, rdr s a0 f)] [] w) :
    FunU Tryz.prog 134 [.pointer (some ⟨b, 0, none⟩), .int .i64 n] w (str (rdW (bl s) a0 f n).1) (b, 234, rdr s (rdW (bl s) a0 f n).2.1 (rdW (bl s) a0 f n).2.2) := by
  refine Tri.enter (bx := [(b, 234, rdr s a0 f)]) (hp := []) Tryz.func134 rfl (by kernel_rfl) rfl hown ?_
  refine At.run 100 true [] [] rfl trivial ?_
  refine At.step [] rfl rfl rfl rfl rfl trivial (OpOk.box rfl rfl rfl fun br hbr => ?_)
  refine At.step [] rfl rfl rfl rfl rfl trivial (OpOk.box rfl rfl rfl fun bm hbm => ?_)
  refine At.run 100 true [] [hB 1] rfl oK ?_
  refine At.perm (rot3 _ _ _) (List.Perm.refl _) ?_
  refine At.step [] rfl rfl rfl rfl rfl trivial (OpOk.callAll rfl (fun w' hw' => Tryz.guardS_w s a0 _ f _ _ b _ _ _ w' hw'.toOwn (fun _ => Tryz.row1_w s a0 n b br bm w' ha hlen hn)) ?_)
  rintro v bx' hp' ⟨rfl, rfl, rfl⟩
  refine At.run 100 true [] [] rfl trivial ?_
  refine At.keep [true, false, false] [] rfl ?_
  obtain ⟨h1, h2, h3⟩ := rdW_f (l := bl s) (a := a0) (f := f) (n := n)
  refine At.ret [] rfl Tryz.func134 rfl trivial ⟨?_, ?_, rfl⟩
  · rw [h1]; rfl
  · by_cases hf : f = 0
    · subst hf
      by_cases he : (rdW (bl s) a0 0 n).2.2 = 0
      · simp [he]
      · simp [he, h3 rfl he]
    · have h4 := h2 hf
      simp [hf, h4]
end Go.Proofs

/-
  Walks of layer 12: keys, and how things are held against them.
-/
namespace Go.Proofs
open Go Go.Eng
set_option maxRecDepth 100000
set_option maxHeartbeats 4000000
attribute [local irreducible] Tri

theorem Tryz.isNaN_w (x : Int) (w : World) : Fun Tryz.prog 326 [.int .i64 x] w (.bool false) := by
  refine Tri.enter (bx := []) (hp := []) Tryz.func326 rfl (by kernel_rfl) rfl (Own.nil w) ?_
  refine At.run 100 true [] [] rfl oK ?_
  exact At.ret [] rfl Tryz.func326 rfl trivial ⟨by simp [tupV], rfl, rfl⟩

theorem Tryz.compare_w (x y : Int) (w : World) : Fun Tryz.prog 287 [.int .i64 x, .int .i64 y] w (.int .i64 (cmpI x y)) := by
  refine Tri.enter (bx := []) (hp := []) Tryz.func287 rfl (by kernel_rfl) rfl (Own.nil w) ?_
  refine At.run 100 true [false, false] [hC (.bool false), hC (.bool false)] rfl (by and_intros <;> first | exact fun w' _ => Tryz.isNaN_w _ w' | exact oK) ?_
  unfold cmpI
  by_cases h1 : x < y
  · refine At.run 100 true [true] [] rfl oK ?_
    exact At.ret [] rfl Tryz.func287 rfl trivial ⟨by rw [if_pos h1]; rfl, rfl, rfl⟩
  · by_cases h2 : y < x
    · refine At.run 100 true [false, true] [] rfl oK ?_
      exact At.ret [] rfl Tryz.func287 rfl trivial ⟨by rw [if_neg h1, if_pos h2]; rfl, rfl, rfl⟩
    · refine At.run 100 true [false, false] [] rfl oK ?_
      exact At.ret [] rfl Tryz.func287 rfl trivial ⟨by rw [if_neg h1, if_neg h2]; rfl, rfl, rfl⟩

/-- The first number that is not 0. -/
def orI : List Int → Int
  | [] => 0
  | x :: l => if x = 0 then orI l else x

theorem Tryz.or_w (xs : List Int) (a : Option Addr) (cap : Nat) (w : World) (hlen : xs.length ≤ 1048576) (hrow : SlOk w a (i64s xs)) : Fun Tryz.prog 288 [.slice a xs.length cap] w (.int .i64 (orI xs)) := by
  refine Tri.enter (bx := []) (hp := []) Tryz.func288 rfl (by kernel_rfl) rfl (Own.nil w) ?_
  refine At.run 100 true [] [] rfl trivial ?_
  refine At.loop (n := xs.length) (env0 := [(3, .int .i64 0), (6, .slice a xs.length cap), (7, .int .i64 xs.length), (8, .int .i64 0)]) (fun m env bx hp => ∃ i : Nat, m = xs.length - i ∧ i ≤ xs.length ∧ orI xs = orI (xs.drop i) ∧
    env = [(3, .int .i64 0), (6, .slice a xs.length cap), (7, .int .i64 xs.length), (8, .int .i64 i)] ∧ bx = [] ∧ hp = []) rfl ⟨0, by simp, by omega, by simp, rfl, rfl, rfl⟩ ⟨rfl, rfl, rfl, rfl, trivial⟩ ?_
  rintro m env bx hp ⟨i, rfl, hi, he, rfl, rfl, rfl⟩ ih
  by_cases hlt : i < xs.length
  · obtain ⟨x, hx⟩ : ∃ x, xs[i]? = some x := ⟨_, List.getElem?_eq_getElem hlt⟩
    obtain ⟨g, o, rfl, hc⟩ := hrow.get (by intro e; simp only [i64s, List.map_eq_nil_iff] at e; rw [e] at hlt; simp at hlt)
    have hd : xs.drop i = x :: xs.drop (i + 1) := by rw [List.drop_eq_getElem_cons hlt]; congr 1; exact (List.getElem?_eq_some_iff.1 hx).2
    rw [hd, orI] at he
    have r1 : ∀ {bx : Bx} {hp : List Seg}, RdW ⟨w, kys [] []⟩ bx hp g (o + (i : Int).toNat * 1) [.int .i64 x] := fun {_ _} => RdW.base1 (by simp [kys]) (by rw [Nat.mul_one]; exact hc i _ (i64s_get hx))
    by_cases h0 : x = 0
    · refine At.run 100 true [true, false] [hR [.int .i64 x]] rfl (by and_intros <;> first | exact r1 | simp [h0]; done | exact oK) ?_
      refine At.weak (ih (xs.length - (i + 1)) _ _ _ (by omega) ⟨i + 1, rfl, by omega, by rw [he, if_pos h0], rfl, rfl, rfl⟩) ⟨rfl, rfl, rfl, some_int_eq (by omega), trivial⟩
    · refine At.run 100 true [true, true] [hR [.int .i64 x]] rfl (by and_intros <;> first | exact r1 | simp [h0]; done | exact oK) ?_
      exact At.ret [] rfl Tryz.func288 rfl trivial ⟨by rw [he, if_neg h0]; rfl, rfl, rfl⟩
  · have : i = xs.length := by omega
    subst this
    refine At.run 100 true [false] [] rfl oK ?_
    exact At.ret [] rfl Tryz.func288 rfl trivial ⟨by rw [he]; simp [orI, tupV], rfl, rfl⟩

theorem Tryz.holderKey_w (x0 x1 x2 x3 : Int) (w : World) : Fun Tryz.prog 234 [.agg ⟨[.int .i64 x0, .int .i64 x1, .int .i64 x2, .int .i64 x3]⟩] w (.int .i64 x0) := by
  refine Tri.enter (bx := []) (hp := []) Tryz.func234 rfl (by kernel_rfl) rfl (Own.nil w) ?_
  refine At.run 100 true [] [] rfl trivial ?_
  refine At.step [] rfl rfl rfl rfl rfl trivial (OpOk.box rfl rfl rfl fun bq hbq => ?_)
  refine At.run 100 true [] [hB 0] rfl oK ?_
  refine At.keep [] [] rfl ?_
  exact At.ret [] rfl Tryz.func234 rfl trivial ⟨rfl, rfl, rfl⟩

theorem Tryz.byHolder_w (x0 x1 x2 x3 k : Int) (w : World) : Fun Tryz.prog 235 [.agg ⟨[.int .i64 x0, .int .i64 x1, .int .i64 x2, .int .i64 x3]⟩, .int .i64 k] w (.int .i64 (cmp1 [x0, x1, x2, x3] k)) := by
  refine Tri.enter (bx := []) (hp := []) Tryz.func235 rfl (by kernel_rfl) rfl (Own.nil w) ?_
  refine At.run 100 true [] [] rfl trivial ?_
  refine At.step [] rfl rfl rfl rfl rfl trivial (OpOk.box rfl rfl rfl fun bq hbq => ?_)
  refine At.run 100 true [] [hB 0, hC (.int .i64 (cmpI x0 k))] rfl (by and_intros <;> first | exact fun w' _ => Tryz.compare_w x0 k w' | exact oK) ?_
  refine At.keep [] [] rfl ?_
  exact At.ret [] rfl Tryz.func235 rfl trivial ⟨rfl, rfl, rfl⟩

theorem Tryz.openKey_w (x0 x1 x2 x3 x4 x5 : Int) (w : World) : Fun Tryz.prog 237 [.agg ⟨[.int .i64 x0, .int .i64 x1, .int .i64 x2, .int .i64 x3, .int .i64 x4, .int .i64 x5]⟩] w (.int .i64 x0) := by
  refine Tri.enter (bx := []) (hp := []) Tryz.func237 rfl (by kernel_rfl) rfl (Own.nil w) ?_
  refine At.run 100 true [] [] rfl trivial ?_
  refine At.step [] rfl rfl rfl rfl rfl trivial (OpOk.box rfl rfl rfl fun bq hbq => ?_)
  refine At.run 100 true [] [hB 0] rfl oK ?_
  refine At.keep [] [] rfl ?_
  exact At.ret [] rfl Tryz.func237 rfl trivial ⟨rfl, rfl, rfl⟩

theorem Tryz.byOpen_w (x0 x1 x2 x3 x4 x5 k : Int) (w : World) : Fun Tryz.prog 238 [.agg ⟨[.int .i64 x0, .int .i64 x1, .int .i64 x2, .int .i64 x3, .int .i64 x4, .int .i64 x5]⟩, .int .i64 k] w (.int .i64 (cmp1 [x0, x1, x2, x3, x4, x5] k)) := by
  refine Tri.enter (bx := []) (hp := []) Tryz.func238 rfl (by kernel_rfl) rfl (Own.nil w) ?_
  refine At.run 100 true [] [] rfl trivial ?_
  refine At.step [] rfl rfl rfl rfl rfl trivial (OpOk.box rfl rfl rfl fun bq hbq => ?_)
  refine At.run 100 true [] [hB 0, hC (.int .i64 (cmpI x0 k))] rfl (by and_intros <;> first | exact fun w' _ => Tryz.compare_w x0 k w' | exact oK) ?_
  refine At.keep [] [] rfl ?_
  exact At.ret [] rfl Tryz.func238 rfl trivial ⟨rfl, rfl, rfl⟩

theorem Tryz.rateKey_w (x0 x1 : Int) (w : World) : Fun Tryz.prog 240 [.agg ⟨[.int .i64 x0, .int .i64 x1]⟩] w (.int .i64 x0) := by
  refine Tri.enter (bx := []) (hp := []) Tryz.func240 rfl (by kernel_rfl) rfl (Own.nil w) ?_
  refine At.run 100 true [] [] rfl trivial ?_
  refine At.step [] rfl rfl rfl rfl rfl trivial (OpOk.box rfl rfl rfl fun bq hbq => ?_)
  refine At.run 100 true [] [hB 0] rfl oK ?_
  refine At.keep [] [] rfl ?_
  exact At.ret [] rfl Tryz.func240 rfl trivial ⟨rfl, rfl, rfl⟩

theorem Tryz.byRate_w (x0 x1 k : Int) (w : World) : Fun Tryz.prog 241 [.agg ⟨[.int .i64 x0, .int .i64 x1]⟩, .int .i64 k] w (.int .i64 (cmp1 [x0, x1] k)) := by
  refine Tri.enter (bx := []) (hp := []) Tryz.func241 rfl (by kernel_rfl) rfl (Own.nil w) ?_
  refine At.run 100 true [] [] rfl trivial ?_
  refine At.step [] rfl rfl rfl rfl rfl trivial (OpOk.box rfl rfl rfl fun bq hbq => ?_)
  refine At.run 100 true [] [hB 0, hC (.int .i64 (cmpI x0 k))] rfl (by and_intros <;> first | exact fun w' _ => Tryz.compare_w x0 k w' | exact oK) ?_
  refine At.keep [] [] rfl ?_
  exact At.ret [] rfl Tryz.func241 rfl trivial ⟨rfl, rfl, rfl⟩

theorem Tryz.stakeKey_w (x0 x1 x2 : Int) (w : World) : Fun Tryz.prog 243 [.agg ⟨[.int .i64 x0, .int .i64 x1, .int .i64 x2]⟩] w (.agg ⟨[.int .i64 x0, .int .i64 x1]⟩) := by
  refine Tri.enter (bx := []) (hp := []) Tryz.func243 rfl (by kernel_rfl) rfl (Own.nil w) ?_
  refine At.run 100 true [] [] rfl trivial ?_
  refine At.step [] rfl rfl rfl rfl rfl trivial (OpOk.box rfl rfl rfl fun bq hbq => ?_)
  refine At.step [] rfl rfl rfl rfl rfl trivial (OpOk.alloc (cs := [.int .i64 0, .int .i64 0]) rfl (by kernel_rfl) fun b2 hb2 => ?_)
  refine At.run 100 true [] [hB 1, hB 1, hB 0] rfl oK ?_
  exact At.retK [] [] [hB 0] rfl rfl Tryz.func243 rfl oK ⟨rfl, rfl, rfl⟩

theorem Tryz.byStake_w (x0 x1 x2 k l : Int) (w : World) : Fun Tryz.prog 244 [.agg ⟨[.int .i64 x0, .int .i64 x1, .int .i64 x2]⟩, .agg ⟨[.int .i64 k, .int .i64 l]⟩] w (.int .i64 (cmp2 [x0, x1, x2] k l)) := by
  refine Tri.enter (bx := []) (hp := []) Tryz.func244 rfl (by kernel_rfl) rfl (Own.nil w) ?_
  refine At.run 100 true [] [] rfl trivial ?_
  refine At.step [] rfl rfl rfl rfl rfl trivial (OpOk.box rfl rfl rfl fun bq hbq => ?_)
  refine At.step [] rfl rfl rfl rfl rfl trivial (OpOk.box rfl rfl rfl fun b2 hb2 => ?_)
  refine At.run 100 true [] [] rfl oK ?_
  refine At.quietT 10 3 true [] [hB 1, hB 0, hC (.int .i64 (cmpI x0 k)), hB 1, hB 0, hC (.int .i64 (cmpI x1 l))] ⟨by kernel_rfl, by kernel_rfl, rfl, by kernel_rfl, by kernel_rfl, by kernel_rfl, rfl, rfl, rfl⟩ rfl rfl rfl (by and_intros <;> first | exact fun w' _ => Tryz.compare_w _ _ w' | exact oK) rfl ?_
  refine AtD.fork1 10 (by kernel_rfl) (StepD.by [] rfl rfl rfl rfl trivial (OpOk.buildSlice rfl rfl rfl rfl rfl rfl rfl (fun bs hbs => ?_)))
  refine AtD.fork1 11 (by kernel_rfl) (StepD.by [] rfl rfl rfl rfl trivial (OpOk.one true [] [hC (.int .i64 (orI [cmpI x0 k, cmpI x1 l]))] rfl (fun w' hw' => Tryz.or_w [cmpI x0 k, cmpI x1 l] (svA (some bs)) 2 w' (by simp) (SlOk.blk (hw'.bx _ (List.mem_cons_self ..)))) ?_))
  refine AtD.pures (ob := True) true (by kernel_rfl) [12] (fuel := 0) (by kernel_rfl) rfl trivial ?_
  refine AtD.done (by kernel_rfl) ?_
  refine At.run 100 true [] [] rfl trivial ?_
  refine At.retK [] [] [] rfl rfl Tryz.func244 rfl trivial ⟨?_, rfl, rfl⟩
  rw [show cmp2 [x0, x1, x2] k l = if cmpI x0 k = 0 then cmpI x1 l else cmpI x0 k from rfl, show tupV [Value.int .i64 (orI [cmpI x0 k, cmpI x1 l])] = .int .i64 (if cmpI x0 k = 0 then (if cmpI x1 l = 0 then 0 else cmpI x1 l) else cmpI x0 k) from rfl]
  by_cases h1 : cmpI x0 k = 0
  · rw [if_pos h1, if_pos h1]
    by_cases h2 : cmpI x1 l = 0
    · rw [if_pos h2, h2]
    · rw [if_neg h2]
  · rw [if_neg h1, if_neg h1]
end Go.Proofs

/-
  Walks of layer 12: lists searched.
-/
namespace Go.Proofs
open Go Go.Eng
set_option maxRecDepth 100000
set_option maxHeartbeats 4000000
attribute [local irreducible] Tri

theorem slNe {l : List (List Int)} {i sz : Nat} {x : List Int} (hsz : 0 < sz) (hl : ∀ x, x ∈ l → x.length = sz) (hx : l[i]? = some x) : l.flatMap i64s ≠ [] := by
  intro e
  have hm := List.mem_of_getElem? hx
  have := hl x hm
  have h1 := flat_rec_len hl
  rw [e] at h1
  have hlt := (List.getElem?_eq_some_iff.1 hx).1
  simp only [List.length_nil] at h1
  have := Nat.mul_pos (by omega : 0 < l.length) hsz
  omega
theorem any_take {p : List Int → Bool} {l : List (List Int)} {i : Nat} {x : List Int} (hx : l[i]? = some x) (h : (l.take i).any p = false) (hp : p x = false) : (l.take (i + 1)).any p = false := by
  have e : l.take (i + 1) = l.take i ++ [x] := by rw [List.take_add_one, hx]; rfl
  rw [e, List.any_append, h]; simp [hp]
theorem any_mem {p : List Int → Bool} {l : List (List Int)} {i : Nat} {x : List Int} (hx : l[i]? = some x) (hp : p x = true) : l.any p = true := List.any_eq_true.2 ⟨x, List.mem_of_getElem? hx, hp⟩
/-- The first place where it holds. -/
def idxI (p : List Int → Bool) (l : List (List Int)) : Int := if l.any p then (l.findIdx p : Int) else -1
theorem idxI_no {p : List Int → Bool} {l : List (List Int)} (h : l.any p = false) : idxI p l = -1 := by unfold idxI; rw [h]; rfl
theorem idxI_ge {p : List Int → Bool} {l : List (List Int)} : decide (0 ≤ idxI p l) = l.any p := by
  unfold idxI
  cases l.any p
  · rfl
  · exact decide_eq_true (by simp only [if_true]; omega)
theorem idxI_hit {p : List Int → Bool} {l : List (List Int)} {i : Nat} {x : List Int} (hx : l[i]? = some x) (hno : (l.take i).any p = false) (hp : p x = true) : idxI p l = i := by
  unfold idxI
  rw [any_mem hx hp, if_pos rfl]
  obtain ⟨v, hv⟩ : ∃ v, l.findIdx p = v := ⟨_, rfl⟩
  obtain ⟨hil, hie⟩ := List.getElem?_eq_some_iff.1 hx
  have hlt : v < l.length := by rw [← hv]; exact List.findIdx_lt_length_of_exists ⟨x, List.mem_of_getElem? hx, hp⟩
  have h1 : v ≤ i := by
    rw [← hv]; apply Nat.le_of_not_lt; intro hlt2
    have := List.not_of_lt_findIdx hlt2
    rw [hie, hp] at this; cases this
  have h2 : ¬ v < i := by
    intro hvi
    have hpv : p l[v] = true := by
      have := @List.findIdx_getElem _ p l (by rw [hv]; exact hlt)
      simpa only [hv] using this
    have : (l.take i).any p = true := List.any_eq_true.2 ⟨l[v], by rw [List.mem_take_iff_getElem]; exact ⟨v, by omega, rfl⟩, hpv⟩
    rw [hno] at this; cases this
  rw [hv]; omega
theorem half (i j : Nat) (h : i < j) : (i + j) / 2 < j ∧ i ≤ (i + j) / 2 := by omega
theorem shr1 (n : Nat) : (n : Int) / 2 ^ min (Int.toNat 1) IntKind.u64.bits = ((n / 2 : Nat) : Int) := by
  have : min (Int.toNat 1) IntKind.u64.bits = 1 := by decide
  rw [this]; omega

theorem Tryz.indexHolder_w (l : List (List Int)) (a : Option Addr) (cap F : Nat) (ca : List Value) (p : List Int → Bool) (w : World) (hl : ∀ x, x ∈ l → x.length = 4) (hlen : l.length ≤ 1048576) (hrow : SlOk w a (l.flatMap i64s))
    (hf : ∀ x, x ∈ l → ∀ w', Ext [] w w' → Fun Tryz.prog F ([.agg ⟨i64s x⟩] ++ ca) w' (.bool (p x))) :
    Fun Tryz.prog 247 [.slice a l.length cap, .func (.func F) ⟨[]⟩ ⟨ca⟩] w (.int .i64 (idxI p l)) := by
  refine Tri.enter (bx := []) (hp := []) Tryz.func247 rfl (by kernel_rfl) rfl (Own.nil w) ?_
  refine At.run 100 true [] [] rfl trivial ?_
  refine At.loop (n := l.length) (env0 := [(0, .slice a l.length cap), (1, .func (.func F) ⟨[]⟩ ⟨ca⟩), (7, .int .i64 l.length), (8, .int .i64 0)]) (fun m env bx hp => ∃ i : Nat, m = l.length - i ∧ i ≤ l.length ∧ (l.take i).any p = false ∧
    env = [(0, .slice a l.length cap), (1, .func (.func F) ⟨[]⟩ ⟨ca⟩), (7, .int .i64 l.length), (8, .int .i64 i)] ∧ bx = [] ∧ hp = []) rfl ⟨0, by simp, by omega, by simp, rfl, rfl, rfl⟩ ⟨rfl, rfl, rfl, rfl, trivial⟩ ?_
  rintro m env bx hp ⟨i, rfl, hi, hno, rfl, rfl, rfl⟩ ih
  by_cases hlt : i < l.length
  · obtain ⟨x, hx⟩ : ∃ x, l[i]? = some x := ⟨_, List.getElem?_eq_getElem hlt⟩
    have hmem := List.mem_of_getElem? hx
    obtain ⟨g, o, rfl, hc⟩ := hrow.get (slNe (by decide) hl hx)
    have r1 : ∀ {bx : Bx} {hp : List Seg}, RdW ⟨w, kys [] []⟩ bx hp g (o + (i : Int).toNat * 4) (i64s x) := fun {_ _} => RdW.rec hl hc (by simp [kys]) hx (by omega)
    have hcall : ∀ w', Ext [] w w' → Fun Tryz.prog F ([.agg ⟨i64s x⟩] ++ ca) w' (.bool (p x)) := fun w' he => hf x hmem w' he
    have hv3 := @idxI_hit p l i x hx hno
    have hno' := fun h => any_take (p := p) hx hno h
    obtain ⟨x0, x1, x2, x3, rfl⟩ := len4 (hl x hmem)
    have hcb : ∀ {bx : Bx} {hp : List Seg}, CallOb Tryz.prog ⟨w, kys [] []⟩ bx hp F (allArgs [] [.agg ⟨[.int .i64 x0, .int .i64 x1, .int .i64 x2, .int .i64 x3]⟩] ca) (.bool (p [x0, x1, x2, x3])) := fun {_ _} w' hw' => by rw [allArgs_eq]; exact hcall w' hw'.ext
    cases hp : p [x0, x1, x2, x3] with
    | true =>
      rw [hp] at hcb
      refine At.run 100 true [true, true] [hR [.int .i64 x0, .int .i64 x1, .int .i64 x2, .int .i64 x3], hC (.bool true)] rfl (by and_intros <;> first | exact r1 | exact hcb | exact oK) ?_
      exact At.ret [] rfl Tryz.func247 rfl trivial ⟨by rw [hv3 hp]; rfl, rfl, rfl⟩
    | false =>
      rw [hp] at hcb
      refine At.run 100 true [true, false] [hR [.int .i64 x0, .int .i64 x1, .int .i64 x2, .int .i64 x3], hC (.bool false)] rfl (by and_intros <;> first | exact r1 | exact hcb | exact oK) ?_
      refine At.weak (ih (l.length - (i + 1)) _ _ _ (by omega) ⟨i + 1, rfl, by omega, hno' hp, rfl, rfl, rfl⟩) ⟨rfl, rfl, rfl, some_int_eq (by omega), trivial⟩
  · have : i = l.length := by omega
    subst this
    rw [List.take_length] at hno
    refine At.run 100 true [false] [] rfl oK ?_
    exact At.ret [] rfl Tryz.func247 rfl trivial ⟨by rw [idxI_no hno]; rfl, rfl, rfl⟩

theorem Tryz.containsHolder_w (l : List (List Int)) (a : Option Addr) (cap F : Nat) (ca : List Value) (p : List Int → Bool) (w : World) (hl : ∀ x, x ∈ l → x.length = 4) (hlen : l.length ≤ 1048576) (hrow : SlOk w a (l.flatMap i64s))
    (hf : ∀ x, x ∈ l → ∀ w', Ext [] w w' → Fun Tryz.prog F ([.agg ⟨i64s x⟩] ++ ca) w' (.bool (p x))) :
    Fun Tryz.prog 186 [.slice a l.length cap, .func (.func F) ⟨[]⟩ ⟨ca⟩] w (.bool (l.any p)) := by
  refine Tri.enter (bx := []) (hp := []) Tryz.func186 rfl (by kernel_rfl) rfl (Own.nil w) ?_
  refine At.run 100 true [] [hC (.int .i64 (idxI p l))] rfl (by and_intros <;> first | exact fun w' hw' => Tryz.indexHolder_w l a cap F ca p w' hl hlen (hrow.ext hw'.ext (by simp [kys])) (fun x hx w2 he => hf x hx w2 (hw'.ext.trans he)) | exact oK) ?_
  exact At.ret [] rfl Tryz.func186 rfl trivial ⟨by rw [← idxI_ge]; rfl, rfl, rfl⟩

theorem Tryz.indexStake_w (l : List (List Int)) (a : Option Addr) (cap F : Nat) (ca : List Value) (p : List Int → Bool) (w : World) (hl : ∀ x, x ∈ l → x.length = 3) (hlen : l.length ≤ 1048576) (hrow : SlOk w a (l.flatMap i64s))
    (hf : ∀ x, x ∈ l → ∀ w', Ext [] w w' → Fun Tryz.prog F ([.agg ⟨i64s x⟩] ++ ca) w' (.bool (p x))) :
    Fun Tryz.prog 249 [.slice a l.length cap, .func (.func F) ⟨[]⟩ ⟨ca⟩] w (.int .i64 (idxI p l)) := by
  refine Tri.enter (bx := []) (hp := []) Tryz.func249 rfl (by kernel_rfl) rfl (Own.nil w) ?_
  refine At.run 100 true [] [] rfl trivial ?_
  refine At.loop (n := l.length) (env0 := [(0, .slice a l.length cap), (1, .func (.func F) ⟨[]⟩ ⟨ca⟩), (7, .int .i64 l.length), (8, .int .i64 0)]) (fun m env bx hp => ∃ i : Nat, m = l.length - i ∧ i ≤ l.length ∧ (l.take i).any p = false ∧
    env = [(0, .slice a l.length cap), (1, .func (.func F) ⟨[]⟩ ⟨ca⟩), (7, .int .i64 l.length), (8, .int .i64 i)] ∧ bx = [] ∧ hp = []) rfl ⟨0, by simp, by omega, by simp, rfl, rfl, rfl⟩ ⟨rfl, rfl, rfl, rfl, trivial⟩ ?_
  rintro m env bx hp ⟨i, rfl, hi, hno, rfl, rfl, rfl⟩ ih
  by_cases hlt : i < l.length
  · obtain ⟨x, hx⟩ : ∃ x, l[i]? = some x := ⟨_, List.getElem?_eq_getElem hlt⟩
    have hmem := List.mem_of_getElem? hx
    obtain ⟨g, o, rfl, hc⟩ := hrow.get (slNe (by decide) hl hx)
    have r1 : ∀ {bx : Bx} {hp : List Seg}, RdW ⟨w, kys [] []⟩ bx hp g (o + (i : Int).toNat * 3) (i64s x) := fun {_ _} => RdW.rec hl hc (by simp [kys]) hx (by omega)
    have hcall : ∀ w', Ext [] w w' → Fun Tryz.prog F ([.agg ⟨i64s x⟩] ++ ca) w' (.bool (p x)) := fun w' he => hf x hmem w' he
    have hv3 := @idxI_hit p l i x hx hno
    have hno' := fun h => any_take (p := p) hx hno h
    obtain ⟨x0, x1, x2, rfl⟩ := len3 (hl x hmem)
    have hcb : ∀ {bx : Bx} {hp : List Seg}, CallOb Tryz.prog ⟨w, kys [] []⟩ bx hp F (allArgs [] [.agg ⟨[.int .i64 x0, .int .i64 x1, .int .i64 x2]⟩] ca) (.bool (p [x0, x1, x2])) := fun {_ _} w' hw' => by rw [allArgs_eq]; exact hcall w' hw'.ext
    cases hp : p [x0, x1, x2] with
    | true =>
      rw [hp] at hcb
      refine At.run 100 true [true, true] [hR [.int .i64 x0, .int .i64 x1, .int .i64 x2], hC (.bool true)] rfl (by and_intros <;> first | exact r1 | exact hcb | exact oK) ?_
      exact At.ret [] rfl Tryz.func249 rfl trivial ⟨by rw [hv3 hp]; rfl, rfl, rfl⟩
    | false =>
      rw [hp] at hcb
      refine At.run 100 true [true, false] [hR [.int .i64 x0, .int .i64 x1, .int .i64 x2], hC (.bool false)] rfl (by and_intros <;> first | exact r1 | exact hcb | exact oK) ?_
      refine At.weak (ih (l.length - (i + 1)) _ _ _ (by omega) ⟨i + 1, rfl, by omega, hno' hp, rfl, rfl, rfl⟩) ⟨rfl, rfl, rfl, some_int_eq (by omega), trivial⟩
  · have : i = l.length := by omega
    subst this
    rw [List.take_length] at hno
    refine At.run 100 true [false] [] rfl oK ?_
    exact At.ret [] rfl Tryz.func249 rfl trivial ⟨by rw [idxI_no hno]; rfl, rfl, rfl⟩

theorem Tryz.containsStake_w (l : List (List Int)) (a : Option Addr) (cap F : Nat) (ca : List Value) (p : List Int → Bool) (w : World) (hl : ∀ x, x ∈ l → x.length = 3) (hlen : l.length ≤ 1048576) (hrow : SlOk w a (l.flatMap i64s))
    (hf : ∀ x, x ∈ l → ∀ w', Ext [] w w' → Fun Tryz.prog F ([.agg ⟨i64s x⟩] ++ ca) w' (.bool (p x))) :
    Fun Tryz.prog 188 [.slice a l.length cap, .func (.func F) ⟨[]⟩ ⟨ca⟩] w (.bool (l.any p)) := by
  refine Tri.enter (bx := []) (hp := []) Tryz.func188 rfl (by kernel_rfl) rfl (Own.nil w) ?_
  refine At.run 100 true [] [hC (.int .i64 (idxI p l))] rfl (by and_intros <;> first | exact fun w' hw' => Tryz.indexStake_w l a cap F ca p w' hl hlen (hrow.ext hw'.ext (by simp [kys])) (fun x hx w2 he => hf x hx w2 (hw'.ext.trans he)) | exact oK) ?_
  exact At.ret [] rfl Tryz.func188 rfl trivial ⟨by rw [← idxI_ge]; rfl, rfl, rfl⟩

theorem Tryz.indexOpen_w (l : List (List Int)) (a : Option Addr) (cap F : Nat) (ca : List Value) (p : List Int → Bool) (w : World) (hl : ∀ x, x ∈ l → x.length = 6) (hlen : l.length ≤ 1048576) (hrow : SlOk w a (l.flatMap i64s))
    (hf : ∀ x, x ∈ l → ∀ w', Ext [] w w' → Fun Tryz.prog F ([.agg ⟨i64s x⟩] ++ ca) w' (.bool (p x))) :
    Fun Tryz.prog 250 [.slice a l.length cap, .func (.func F) ⟨[]⟩ ⟨ca⟩] w (.int .i64 (idxI p l)) := by
  refine Tri.enter (bx := []) (hp := []) Tryz.func250 rfl (by kernel_rfl) rfl (Own.nil w) ?_
  refine At.run 100 true [] [] rfl trivial ?_
  refine At.loop (n := l.length) (env0 := [(0, .slice a l.length cap), (1, .func (.func F) ⟨[]⟩ ⟨ca⟩), (7, .int .i64 l.length), (8, .int .i64 0)]) (fun m env bx hp => ∃ i : Nat, m = l.length - i ∧ i ≤ l.length ∧ (l.take i).any p = false ∧
    env = [(0, .slice a l.length cap), (1, .func (.func F) ⟨[]⟩ ⟨ca⟩), (7, .int .i64 l.length), (8, .int .i64 i)] ∧ bx = [] ∧ hp = []) rfl ⟨0, by simp, by omega, by simp, rfl, rfl, rfl⟩ ⟨rfl, rfl, rfl, rfl, trivial⟩ ?_
  rintro m env bx hp ⟨i, rfl, hi, hno, rfl, rfl, rfl⟩ ih
  by_cases hlt : i < l.length
  · obtain ⟨x, hx⟩ : ∃ x, l[i]? = some x := ⟨_, List.getElem?_eq_getElem hlt⟩
    have hmem := List.mem_of_getElem? hx
    obtain ⟨g, o, rfl, hc⟩ := hrow.get (slNe (by decide) hl hx)
    have r1 : ∀ {bx : Bx} {hp : List Seg}, RdW ⟨w, kys [] []⟩ bx hp g (o + (i : Int).toNat * 6) (i64s x) := fun {_ _} => RdW.rec hl hc (by simp [kys]) hx (by omega)
    have hcall : ∀ w', Ext [] w w' → Fun Tryz.prog F ([.agg ⟨i64s x⟩] ++ ca) w' (.bool (p x)) := fun w' he => hf x hmem w' he
    have hv3 := @idxI_hit p l i x hx hno
    have hno' := fun h => any_take (p := p) hx hno h
    obtain ⟨x0, x1, x2, x3, x4, x5, rfl⟩ := len6 (hl x hmem)
    have hcb : ∀ {bx : Bx} {hp : List Seg}, CallOb Tryz.prog ⟨w, kys [] []⟩ bx hp F (allArgs [] [.agg ⟨[.int .i64 x0, .int .i64 x1, .int .i64 x2, .int .i64 x3, .int .i64 x4, .int .i64 x5]⟩] ca) (.bool (p [x0, x1, x2, x3, x4, x5])) := fun {_ _} w' hw' => by rw [allArgs_eq]; exact hcall w' hw'.ext
    cases hp : p [x0, x1, x2, x3, x4, x5] with
    | true =>
      rw [hp] at hcb
      refine At.run 100 true [true, true] [hR [.int .i64 x0, .int .i64 x1, .int .i64 x2, .int .i64 x3, .int .i64 x4, .int .i64 x5], hC (.bool true)] rfl (by and_intros <;> first | exact r1 | exact hcb | exact oK) ?_
      exact At.ret [] rfl Tryz.func250 rfl trivial ⟨by rw [hv3 hp]; rfl, rfl, rfl⟩
    | false =>
      rw [hp] at hcb
      refine At.run 100 true [true, false] [hR [.int .i64 x0, .int .i64 x1, .int .i64 x2, .int .i64 x3, .int .i64 x4, .int .i64 x5], hC (.bool false)] rfl (by and_intros <;> first | exact r1 | exact hcb | exact oK) ?_
      refine At.weak (ih (l.length - (i + 1)) _ _ _ (by omega) ⟨i + 1, rfl, by omega, hno' hp, rfl, rfl, rfl⟩) ⟨rfl, rfl, rfl, some_int_eq (by omega), trivial⟩
  · have : i = l.length := by omega
    subst this
    rw [List.take_length] at hno
    refine At.run 100 true [false] [] rfl oK ?_
    exact At.ret [] rfl Tryz.func250 rfl trivial ⟨by rw [idxI_no hno]; rfl, rfl, rfl⟩

theorem Tryz.containsOpen_w (l : List (List Int)) (a : Option Addr) (cap F : Nat) (ca : List Value) (p : List Int → Bool) (w : World) (hl : ∀ x, x ∈ l → x.length = 6) (hlen : l.length ≤ 1048576) (hrow : SlOk w a (l.flatMap i64s))
    (hf : ∀ x, x ∈ l → ∀ w', Ext [] w w' → Fun Tryz.prog F ([.agg ⟨i64s x⟩] ++ ca) w' (.bool (p x))) :
    Fun Tryz.prog 189 [.slice a l.length cap, .func (.func F) ⟨[]⟩ ⟨ca⟩] w (.bool (l.any p)) := by
  refine Tri.enter (bx := []) (hp := []) Tryz.func189 rfl (by kernel_rfl) rfl (Own.nil w) ?_
  refine At.run 100 true [] [hC (.int .i64 (idxI p l))] rfl (by and_intros <;> first | exact fun w' hw' => Tryz.indexOpen_w l a cap F ca p w' hl hlen (hrow.ext hw'.ext (by simp [kys])) (fun x hx w2 he => hf x hx w2 (hw'.ext.trans he)) | exact oK) ?_
  exact At.ret [] rfl Tryz.func189 rfl trivial ⟨by rw [← idxI_ge]; rfl, rfl, rfl⟩

theorem Tryz.indexRate_w (l : List (List Int)) (a : Option Addr) (cap F : Nat) (ca : List Value) (p : List Int → Bool) (w : World) (hl : ∀ x, x ∈ l → x.length = 2) (hlen : l.length ≤ 1048576) (hrow : SlOk w a (l.flatMap i64s))
    (hf : ∀ x, x ∈ l → ∀ w', Ext [] w w' → Fun Tryz.prog F ([.agg ⟨i64s x⟩] ++ ca) w' (.bool (p x))) :
    Fun Tryz.prog 248 [.slice a l.length cap, .func (.func F) ⟨[]⟩ ⟨ca⟩] w (.int .i64 (idxI p l)) := by
  refine Tri.enter (bx := []) (hp := []) Tryz.func248 rfl (by kernel_rfl) rfl (Own.nil w) ?_
  refine At.run 100 true [] [] rfl trivial ?_
  refine At.loop (n := l.length) (env0 := [(0, .slice a l.length cap), (1, .func (.func F) ⟨[]⟩ ⟨ca⟩), (7, .int .i64 l.length), (8, .int .i64 0)]) (fun m env bx hp => ∃ i : Nat, m = l.length - i ∧ i ≤ l.length ∧ (l.take i).any p = false ∧
    env = [(0, .slice a l.length cap), (1, .func (.func F) ⟨[]⟩ ⟨ca⟩), (7, .int .i64 l.length), (8, .int .i64 i)] ∧ bx = [] ∧ hp = []) rfl ⟨0, by simp, by omega, by simp, rfl, rfl, rfl⟩ ⟨rfl, rfl, rfl, rfl, trivial⟩ ?_
  rintro m env bx hp ⟨i, rfl, hi, hno, rfl, rfl, rfl⟩ ih
  by_cases hlt : i < l.length
  · obtain ⟨x, hx⟩ : ∃ x, l[i]? = some x := ⟨_, List.getElem?_eq_getElem hlt⟩
    have hmem := List.mem_of_getElem? hx
    obtain ⟨g, o, rfl, hc⟩ := hrow.get (slNe (by decide) hl hx)
    have r1 : ∀ {bx : Bx} {hp : List Seg}, RdW ⟨w, kys [] []⟩ bx hp g (o + (i : Int).toNat * 2) (i64s x) := fun {_ _} => RdW.rec hl hc (by simp [kys]) hx (by omega)
    have hcall : ∀ w', Ext [] w w' → Fun Tryz.prog F ([.agg ⟨i64s x⟩] ++ ca) w' (.bool (p x)) := fun w' he => hf x hmem w' he
    have hv3 := @idxI_hit p l i x hx hno
    have hno' := fun h => any_take (p := p) hx hno h
    obtain ⟨x0, x1, rfl⟩ := len2 (hl x hmem)
    have hcb : ∀ {bx : Bx} {hp : List Seg}, CallOb Tryz.prog ⟨w, kys [] []⟩ bx hp F (allArgs [] [.agg ⟨[.int .i64 x0, .int .i64 x1]⟩] ca) (.bool (p [x0, x1])) := fun {_ _} w' hw' => by rw [allArgs_eq]; exact hcall w' hw'.ext
    cases hp : p [x0, x1] with
    | true =>
      rw [hp] at hcb
      refine At.run 100 true [true, true] [hR [.int .i64 x0, .int .i64 x1], hC (.bool true)] rfl (by and_intros <;> first | exact r1 | exact hcb | exact oK) ?_
      exact At.ret [] rfl Tryz.func248 rfl trivial ⟨by rw [hv3 hp]; rfl, rfl, rfl⟩
    | false =>
      rw [hp] at hcb
      refine At.run 100 true [true, false] [hR [.int .i64 x0, .int .i64 x1], hC (.bool false)] rfl (by and_intros <;> first | exact r1 | exact hcb | exact oK) ?_
      refine At.weak (ih (l.length - (i + 1)) _ _ _ (by omega) ⟨i + 1, rfl, by omega, hno' hp, rfl, rfl, rfl⟩) ⟨rfl, rfl, rfl, some_int_eq (by omega), trivial⟩
  · have : i = l.length := by omega
    subst this
    rw [List.take_length] at hno
    refine At.run 100 true [false] [] rfl oK ?_
    exact At.ret [] rfl Tryz.func248 rfl trivial ⟨by rw [idxI_no hno]; rfl, rfl, rfl⟩

theorem Tryz.containsRate_w (l : List (List Int)) (a : Option Addr) (cap F : Nat) (ca : List Value) (p : List Int → Bool) (w : World) (hl : ∀ x, x ∈ l → x.length = 2) (hlen : l.length ≤ 1048576) (hrow : SlOk w a (l.flatMap i64s))
    (hf : ∀ x, x ∈ l → ∀ w', Ext [] w w' → Fun Tryz.prog F ([.agg ⟨i64s x⟩] ++ ca) w' (.bool (p x))) :
    Fun Tryz.prog 187 [.slice a l.length cap, .func (.func F) ⟨[]⟩ ⟨ca⟩] w (.bool (l.any p)) := by
  refine Tri.enter (bx := []) (hp := []) Tryz.func187 rfl (by kernel_rfl) rfl (Own.nil w) ?_
  refine At.run 100 true [] [hC (.int .i64 (idxI p l))] rfl (by and_intros <;> first | exact fun w' hw' => Tryz.indexRate_w l a cap F ca p w' hl hlen (hrow.ext hw'.ext (by simp [kys])) (fun x hx w2 he => hf x hx w2 (hw'.ext.trans he)) | exact oK) ?_
  exact At.ret [] rfl Tryz.func187 rfl trivial ⟨by rw [← idxI_ge]; rfl, rfl, rfl⟩

theorem Tryz.searchHolder_w (l : List (List Int)) (a : Option Addr) (cap : Nat) (k : Int) (w : World) (hl : ∀ x, x ∈ l → x.length = 4) (hlen : l.length ≤ 1048576) (hrow : SlOk w a (l.flatMap i64s)) (hris : ris lt1 l = true) :
    Fun Tryz.prog 289 [.slice a l.length cap, .int .i64 k, .func (.func 235) ⟨[]⟩ ⟨[]⟩] w (.tuple #[.int .i64 (bsI l k), .bool (bsF l k)]) := by
  refine Tri.enter (bx := []) (hp := []) Tryz.func289 rfl (by kernel_rfl) rfl (Own.nil w) ?_
  refine At.run 100 true [] [] rfl trivial ?_
  refine At.loop (n := l.length) (env0 := [(0, .slice a l.length cap), (1, .int .i64 k), (2, .func (.func 235) ⟨[]⟩ ⟨[]⟩), (8, .int .i64 l.length), (9, .int .i64 0), (10, .int .i64 l.length)])
    (fun m env bx hp => ∃ i j : Nat, m = j - i ∧ i ≤ j ∧ j ≤ l.length ∧ (∀ t x, t < i → l[t]? = some x → k0 x < k) ∧ (∀ x, l[j]? = some x → k ≤ k0 x) ∧
      env = [(0, .slice a l.length cap), (1, .int .i64 k), (2, .func (.func 235) ⟨[]⟩ ⟨[]⟩), (8, .int .i64 l.length), (9, .int .i64 i), (10, .int .i64 j)] ∧ bx = [] ∧ hp = []) rfl
    ⟨0, l.length, by simp, by omega, by omega, fun t x h => by omega, fun x hx => by simp at hx, rfl, rfl, rfl⟩ ⟨rfl, rfl, rfl, rfl, rfl, rfl, trivial⟩ ?_
  rintro m env bx hp ⟨i, j, rfl, hij, hj, h1, h2, rfl, rfl, rfl⟩ ih
  by_cases hlt : i < j
  · obtain ⟨h, hh⟩ : ∃ h, (i + j) / 2 = h := ⟨_, rfl⟩
    have hs : ((i : Int) + (j : Int)) / 2 ^ min (Int.toNat 1) IntKind.u64.bits = (h : Int) := by rw [← hh]; have := shr1 (i + j); rw [Int.natCast_add] at this; exact this
    have hhj : i ≤ h ∧ h < j := by omega
    have hs2 : inK .i64 (h : Int) := by simp only [inK]; omega
    obtain ⟨x, hx⟩ : ∃ x, l[h]? = some x := ⟨_, List.getElem?_eq_getElem (by omega)⟩
    have hmem := List.mem_of_getElem? hx
    obtain ⟨g, o, rfl, hc⟩ := hrow.get (slNe (by decide) hl hx)
    refine At.run 100 true [true] [] rfl (by and_intros <;> first | rw [hs]; exact hs2 | rw [hs]; omega | exact oK) ?_
    rw [hs]
    have r1 : ∀ {bx : Bx} {hp : List Seg}, RdW ⟨w, kys [] []⟩ bx hp g (o + (h : Int).toNat * 4) (i64s x) := fun {_ _} => RdW.rec hl hc (by simp [kys]) hx (by omega)
    have hmono := fun (t : Nat) (y : List Int) (ht : t < h) (hy : l[t]? = some y) => ris_mono hris (h - (t + 1)) t y x hy (by rw [show t + 1 + (h - (t + 1)) = h by omega]; exact hx)
    by_cases hlt2 : k0 x < k
    · have hd : decide (cmp1 x k < 0) = true := decide_eq_true (cmpI_lt.2 hlt2)
      have hnext : ∀ t y, t < h + 1 → l[t]? = some y → k0 y < k := by
        intro t y ht hy
        by_cases hth : t = h
        · subst hth; rw [hx] at hy; cases hy; exact hlt2
        · have := hmono t y (by omega) hy; omega
      clear hmono hlt2
      obtain ⟨x0, x1, x2, x3, rfl⟩ := len4 (hl x hmem)
      refine At.run 100 true [true] [hR [.int .i64 x0, .int .i64 x1, .int .i64 x2, .int .i64 x3], hC (.int .i64 (cmp1 [x0, x1, x2, x3] k))] rfl (by and_intros <;> first | exact r1 | exact hd | exact fun w' _ => Tryz.byHolder_w .. | exact oK) ?_
      refine At.weak (ih (j - (h + 1)) _ _ _ (by omega) ⟨h + 1, j, rfl, by omega, hj, hnext, h2, rfl, rfl, rfl⟩) ⟨rfl, rfl, rfl, rfl, some_int_eq (by omega), rfl, trivial⟩
    · have hd : decide (cmp1 x k < 0) = false := decide_eq_false (fun e => hlt2 (cmpI_lt.1 e))
      have hnext : ∀ y, l[h]? = some y → k ≤ k0 y := by
        intro y hy; rw [hx] at hy; cases hy; omega
      clear hmono
      obtain ⟨x0, x1, x2, x3, rfl⟩ := len4 (hl x hmem)
      refine At.run 100 true [false] [hR [.int .i64 x0, .int .i64 x1, .int .i64 x2, .int .i64 x3], hC (.int .i64 (cmp1 [x0, x1, x2, x3] k))] rfl (by and_intros <;> first | exact r1 | exact hd | exact fun w' _ => Tryz.byHolder_w .. | exact oK) ?_
      refine At.weak (ih (h - i) _ _ _ (by omega) ⟨i, h, rfl, by omega, by omega, h1, hnext, rfl, rfl, rfl⟩) ⟨rfl, rfl, rfl, rfl, rfl, rfl, trivial⟩
  · have : i = j := by omega
    subst this
    have hI := bsI_eq h1 h2 hj
    by_cases hn : i < l.length
    · obtain ⟨x, hx⟩ : ∃ x, l[i]? = some x := ⟨_, List.getElem?_eq_getElem hn⟩
      have hmem := List.mem_of_getElem? hx
      obtain ⟨g, o, rfl, hc⟩ := hrow.get (slNe (by decide) hl hx)
      have r1 : ∀ {bx : Bx} {hp : List Seg}, RdW ⟨w, kys [] []⟩ bx hp g (o + (i : Int).toNat * 4) (i64s x) := fun {_ _} => RdW.rec hl hc (by simp [kys]) hx (by omega)
      have hF : bsF l k = decide (cmp1 x k = 0) := by unfold bsF; rw [hI, hx]; exact decide_eq_decide.2 cmpI_eq.symm
      rw [hF, hI]
      obtain ⟨x0, x1, x2, x3, rfl⟩ := len4 (hl x hmem)
      refine At.run 100 true [false, true] [hR [.int .i64 x0, .int .i64 x1, .int .i64 x2, .int .i64 x3], hC (.int .i64 (cmp1 [x0, x1, x2, x3] k))] rfl (by and_intros <;> first | exact r1 | exact fun w' _ => Tryz.byHolder_w .. | exact oK) ?_
      exact At.ret [] rfl Tryz.func289 rfl trivial ⟨rfl, rfl, rfl⟩
    · have hF : bsF l k = false := by unfold bsF; rw [hI, List.getElem?_eq_none (by omega)]
      rw [hF, hI]
      refine At.run 100 true [false, false] [] rfl oK ?_
      exact At.ret [] rfl Tryz.func289 rfl trivial ⟨rfl, rfl, rfl⟩

theorem Tryz.searchOpen_w (l : List (List Int)) (a : Option Addr) (cap : Nat) (k : Int) (w : World) (hl : ∀ x, x ∈ l → x.length = 6) (hlen : l.length ≤ 1048576) (hrow : SlOk w a (l.flatMap i64s)) (hris : ris lt1 l = true) :
    Fun Tryz.prog 352 [.slice a l.length cap, .int .i64 k, .func (.func 238) ⟨[]⟩ ⟨[]⟩] w (.tuple #[.int .i64 (bsI l k), .bool (bsF l k)]) := by
  refine Tri.enter (bx := []) (hp := []) Tryz.func352 rfl (by kernel_rfl) rfl (Own.nil w) ?_
  refine At.run 100 true [] [] rfl trivial ?_
  refine At.loop (n := l.length) (env0 := [(0, .slice a l.length cap), (1, .int .i64 k), (2, .func (.func 238) ⟨[]⟩ ⟨[]⟩), (8, .int .i64 l.length), (9, .int .i64 0), (10, .int .i64 l.length)])
    (fun m env bx hp => ∃ i j : Nat, m = j - i ∧ i ≤ j ∧ j ≤ l.length ∧ (∀ t x, t < i → l[t]? = some x → k0 x < k) ∧ (∀ x, l[j]? = some x → k ≤ k0 x) ∧
      env = [(0, .slice a l.length cap), (1, .int .i64 k), (2, .func (.func 238) ⟨[]⟩ ⟨[]⟩), (8, .int .i64 l.length), (9, .int .i64 i), (10, .int .i64 j)] ∧ bx = [] ∧ hp = []) rfl
    ⟨0, l.length, by simp, by omega, by omega, fun t x h => by omega, fun x hx => by simp at hx, rfl, rfl, rfl⟩ ⟨rfl, rfl, rfl, rfl, rfl, rfl, trivial⟩ ?_
  rintro m env bx hp ⟨i, j, rfl, hij, hj, h1, h2, rfl, rfl, rfl⟩ ih
  by_cases hlt : i < j
  · obtain ⟨h, hh⟩ : ∃ h, (i + j) / 2 = h := ⟨_, rfl⟩
    have hs : ((i : Int) + (j : Int)) / 2 ^ min (Int.toNat 1) IntKind.u64.bits = (h : Int) := by rw [← hh]; have := shr1 (i + j); rw [Int.natCast_add] at this; exact this
    have hhj : i ≤ h ∧ h < j := by omega
    have hs2 : inK .i64 (h : Int) := by simp only [inK]; omega
    obtain ⟨x, hx⟩ : ∃ x, l[h]? = some x := ⟨_, List.getElem?_eq_getElem (by omega)⟩
    have hmem := List.mem_of_getElem? hx
    obtain ⟨g, o, rfl, hc⟩ := hrow.get (slNe (by decide) hl hx)
    refine At.run 100 true [true] [] rfl (by and_intros <;> first | rw [hs]; exact hs2 | rw [hs]; omega | exact oK) ?_
    rw [hs]
    have r1 : ∀ {bx : Bx} {hp : List Seg}, RdW ⟨w, kys [] []⟩ bx hp g (o + (h : Int).toNat * 6) (i64s x) := fun {_ _} => RdW.rec hl hc (by simp [kys]) hx (by omega)
    have hmono := fun (t : Nat) (y : List Int) (ht : t < h) (hy : l[t]? = some y) => ris_mono hris (h - (t + 1)) t y x hy (by rw [show t + 1 + (h - (t + 1)) = h by omega]; exact hx)
    by_cases hlt2 : k0 x < k
    · have hd : decide (cmp1 x k < 0) = true := decide_eq_true (cmpI_lt.2 hlt2)
      have hnext : ∀ t y, t < h + 1 → l[t]? = some y → k0 y < k := by
        intro t y ht hy
        by_cases hth : t = h
        · subst hth; rw [hx] at hy; cases hy; exact hlt2
        · have := hmono t y (by omega) hy; omega
      clear hmono hlt2
      obtain ⟨x0, x1, x2, x3, x4, x5, rfl⟩ := len6 (hl x hmem)
      refine At.run 100 true [true] [hR [.int .i64 x0, .int .i64 x1, .int .i64 x2, .int .i64 x3, .int .i64 x4, .int .i64 x5], hC (.int .i64 (cmp1 [x0, x1, x2, x3, x4, x5] k))] rfl (by and_intros <;> first | exact r1 | exact hd | exact fun w' _ => Tryz.byOpen_w .. | exact oK) ?_
      refine At.weak (ih (j - (h + 1)) _ _ _ (by omega) ⟨h + 1, j, rfl, by omega, hj, hnext, h2, rfl, rfl, rfl⟩) ⟨rfl, rfl, rfl, rfl, some_int_eq (by omega), rfl, trivial⟩
    · have hd : decide (cmp1 x k < 0) = false := decide_eq_false (fun e => hlt2 (cmpI_lt.1 e))
      have hnext : ∀ y, l[h]? = some y → k ≤ k0 y := by
        intro y hy; rw [hx] at hy; cases hy; omega
      clear hmono
      obtain ⟨x0, x1, x2, x3, x4, x5, rfl⟩ := len6 (hl x hmem)
      refine At.run 100 true [false] [hR [.int .i64 x0, .int .i64 x1, .int .i64 x2, .int .i64 x3, .int .i64 x4, .int .i64 x5], hC (.int .i64 (cmp1 [x0, x1, x2, x3, x4, x5] k))] rfl (by and_intros <;> first | exact r1 | exact hd | exact fun w' _ => Tryz.byOpen_w .. | exact oK) ?_
      refine At.weak (ih (h - i) _ _ _ (by omega) ⟨i, h, rfl, by omega, by omega, h1, hnext, rfl, rfl, rfl⟩) ⟨rfl, rfl, rfl, rfl, rfl, rfl, trivial⟩
  · have : i = j := by omega
    subst this
    have hI := bsI_eq h1 h2 hj
    by_cases hn : i < l.length
    · obtain ⟨x, hx⟩ : ∃ x, l[i]? = some x := ⟨_, List.getElem?_eq_getElem hn⟩
      have hmem := List.mem_of_getElem? hx
      obtain ⟨g, o, rfl, hc⟩ := hrow.get (slNe (by decide) hl hx)
      have r1 : ∀ {bx : Bx} {hp : List Seg}, RdW ⟨w, kys [] []⟩ bx hp g (o + (i : Int).toNat * 6) (i64s x) := fun {_ _} => RdW.rec hl hc (by simp [kys]) hx (by omega)
      have hF : bsF l k = decide (cmp1 x k = 0) := by unfold bsF; rw [hI, hx]; exact decide_eq_decide.2 cmpI_eq.symm
      rw [hF, hI]
      obtain ⟨x0, x1, x2, x3, x4, x5, rfl⟩ := len6 (hl x hmem)
      refine At.run 100 true [false, true] [hR [.int .i64 x0, .int .i64 x1, .int .i64 x2, .int .i64 x3, .int .i64 x4, .int .i64 x5], hC (.int .i64 (cmp1 [x0, x1, x2, x3, x4, x5] k))] rfl (by and_intros <;> first | exact r1 | exact fun w' _ => Tryz.byOpen_w .. | exact oK) ?_
      exact At.ret [] rfl Tryz.func352 rfl trivial ⟨rfl, rfl, rfl⟩
    · have hF : bsF l k = false := by unfold bsF; rw [hI, List.getElem?_eq_none (by omega)]
      rw [hF, hI]
      refine At.run 100 true [false, false] [] rfl oK ?_
      exact At.ret [] rfl Tryz.func352 rfl trivial ⟨rfl, rfl, rfl⟩

theorem Tryz.searchRate_w (l : List (List Int)) (a : Option Addr) (cap : Nat) (k : Int) (w : World) (hl : ∀ x, x ∈ l → x.length = 2) (hlen : l.length ≤ 1048576) (hrow : SlOk w a (l.flatMap i64s)) (hris : ris lt1 l = true) :
    Fun Tryz.prog 290 [.slice a l.length cap, .int .i64 k, .func (.func 241) ⟨[]⟩ ⟨[]⟩] w (.tuple #[.int .i64 (bsI l k), .bool (bsF l k)]) := by
  refine Tri.enter (bx := []) (hp := []) Tryz.func290 rfl (by kernel_rfl) rfl (Own.nil w) ?_
  refine At.run 100 true [] [] rfl trivial ?_
  refine At.loop (n := l.length) (env0 := [(0, .slice a l.length cap), (1, .int .i64 k), (2, .func (.func 241) ⟨[]⟩ ⟨[]⟩), (8, .int .i64 l.length), (9, .int .i64 0), (10, .int .i64 l.length)])
    (fun m env bx hp => ∃ i j : Nat, m = j - i ∧ i ≤ j ∧ j ≤ l.length ∧ (∀ t x, t < i → l[t]? = some x → k0 x < k) ∧ (∀ x, l[j]? = some x → k ≤ k0 x) ∧
      env = [(0, .slice a l.length cap), (1, .int .i64 k), (2, .func (.func 241) ⟨[]⟩ ⟨[]⟩), (8, .int .i64 l.length), (9, .int .i64 i), (10, .int .i64 j)] ∧ bx = [] ∧ hp = []) rfl
    ⟨0, l.length, by simp, by omega, by omega, fun t x h => by omega, fun x hx => by simp at hx, rfl, rfl, rfl⟩ ⟨rfl, rfl, rfl, rfl, rfl, rfl, trivial⟩ ?_
  rintro m env bx hp ⟨i, j, rfl, hij, hj, h1, h2, rfl, rfl, rfl⟩ ih
  by_cases hlt : i < j
  · obtain ⟨h, hh⟩ : ∃ h, (i + j) / 2 = h := ⟨_, rfl⟩
    have hs : ((i : Int) + (j : Int)) / 2 ^ min (Int.toNat 1) IntKind.u64.bits = (h : Int) := by rw [← hh]; have := shr1 (i + j); rw [Int.natCast_add] at this; exact this
    have hhj : i ≤ h ∧ h < j := by omega
    have hs2 : inK .i64 (h : Int) := by simp only [inK]; omega
    obtain ⟨x, hx⟩ : ∃ x, l[h]? = some x := ⟨_, List.getElem?_eq_getElem (by omega)⟩
    have hmem := List.mem_of_getElem? hx
    obtain ⟨g, o, rfl, hc⟩ := hrow.get (slNe (by decide) hl hx)
    refine At.run 100 true [true] [] rfl (by and_intros <;> first | rw [hs]; exact hs2 | rw [hs]; omega | exact oK) ?_
    rw [hs]
    have r1 : ∀ {bx : Bx} {hp : List Seg}, RdW ⟨w, kys [] []⟩ bx hp g (o + (h : Int).toNat * 2) (i64s x) := fun {_ _} => RdW.rec hl hc (by simp [kys]) hx (by omega)
    have hmono := fun (t : Nat) (y : List Int) (ht : t < h) (hy : l[t]? = some y) => ris_mono hris (h - (t + 1)) t y x hy (by rw [show t + 1 + (h - (t + 1)) = h by omega]; exact hx)
    by_cases hlt2 : k0 x < k
    · have hd : decide (cmp1 x k < 0) = true := decide_eq_true (cmpI_lt.2 hlt2)
      have hnext : ∀ t y, t < h + 1 → l[t]? = some y → k0 y < k := by
        intro t y ht hy
        by_cases hth : t = h
        · subst hth; rw [hx] at hy; cases hy; exact hlt2
        · have := hmono t y (by omega) hy; omega
      clear hmono hlt2
      obtain ⟨x0, x1, rfl⟩ := len2 (hl x hmem)
      refine At.run 100 true [true] [hR [.int .i64 x0, .int .i64 x1], hC (.int .i64 (cmp1 [x0, x1] k))] rfl (by and_intros <;> first | exact r1 | exact hd | exact fun w' _ => Tryz.byRate_w .. | exact oK) ?_
      refine At.weak (ih (j - (h + 1)) _ _ _ (by omega) ⟨h + 1, j, rfl, by omega, hj, hnext, h2, rfl, rfl, rfl⟩) ⟨rfl, rfl, rfl, rfl, some_int_eq (by omega), rfl, trivial⟩
    · have hd : decide (cmp1 x k < 0) = false := decide_eq_false (fun e => hlt2 (cmpI_lt.1 e))
      have hnext : ∀ y, l[h]? = some y → k ≤ k0 y := by
        intro y hy; rw [hx] at hy; cases hy; omega
      clear hmono
      obtain ⟨x0, x1, rfl⟩ := len2 (hl x hmem)
      refine At.run 100 true [false] [hR [.int .i64 x0, .int .i64 x1], hC (.int .i64 (cmp1 [x0, x1] k))] rfl (by and_intros <;> first | exact r1 | exact hd | exact fun w' _ => Tryz.byRate_w .. | exact oK) ?_
      refine At.weak (ih (h - i) _ _ _ (by omega) ⟨i, h, rfl, by omega, by omega, h1, hnext, rfl, rfl, rfl⟩) ⟨rfl, rfl, rfl, rfl, rfl, rfl, trivial⟩
  · have : i = j := by omega
    subst this
    have hI := bsI_eq h1 h2 hj
    by_cases hn : i < l.length
    · obtain ⟨x, hx⟩ : ∃ x, l[i]? = some x := ⟨_, List.getElem?_eq_getElem hn⟩
      have hmem := List.mem_of_getElem? hx
      obtain ⟨g, o, rfl, hc⟩ := hrow.get (slNe (by decide) hl hx)
      have r1 : ∀ {bx : Bx} {hp : List Seg}, RdW ⟨w, kys [] []⟩ bx hp g (o + (i : Int).toNat * 2) (i64s x) := fun {_ _} => RdW.rec hl hc (by simp [kys]) hx (by omega)
      have hF : bsF l k = decide (cmp1 x k = 0) := by unfold bsF; rw [hI, hx]; exact decide_eq_decide.2 cmpI_eq.symm
      rw [hF, hI]
      obtain ⟨x0, x1, rfl⟩ := len2 (hl x hmem)
      refine At.run 100 true [false, true] [hR [.int .i64 x0, .int .i64 x1], hC (.int .i64 (cmp1 [x0, x1] k))] rfl (by and_intros <;> first | exact r1 | exact fun w' _ => Tryz.byRate_w .. | exact oK) ?_
      exact At.ret [] rfl Tryz.func290 rfl trivial ⟨rfl, rfl, rfl⟩
    · have hF : bsF l k = false := by unfold bsF; rw [hI, List.getElem?_eq_none (by omega)]
      rw [hF, hI]
      refine At.run 100 true [false, false] [] rfl oK ?_
      exact At.ret [] rfl Tryz.func290 rfl trivial ⟨rfl, rfl, rfl⟩

end Go.Proofs

/-
  Walks of layer 12: books.
-/
namespace Go.Proofs
open Go Go.Eng
set_option maxRecDepth 100000
set_option maxHeartbeats 4000000
attribute [local irreducible] Tri

theorem ris_ok {lt : List Int → List Int → Bool} {l : List (List Int)} {i : Nat} (h : ∀ t x y, t + 1 < i → l[t]? = some x → l[t + 1]? = some y → lt x y = true) (hi : l.length ≤ i) : ris lt l = true :=
  (ris_iff l).2 fun t x y hx hy => h t x y (by have := (List.getElem?_eq_some_iff.1 hy).1; omega) hx hy
theorem fnd_mem {l : List (List Int)} {k : Int} {x : List Int} (h : fnd l k = some x) : x ∈ l := List.mem_of_find?_eq_some h

theorem Tryz.risingHolder_w (l : List (List Int)) (a : Option Addr) (cap : Nat) (w : World) (hl : ∀ x, x ∈ l → x.length = 4) (hlen : l.length ≤ 1048576) (hrow : SlOk w a (l.flatMap i64s)) :
    Fun Tryz.prog 233 [.slice a l.length cap, .func (.func 234) ⟨[]⟩ ⟨[]⟩, .func (.func 235) ⟨[]⟩ ⟨[]⟩] w (.bool (ris lt1 l)) := by
  refine Tri.enter (bx := []) (hp := []) Tryz.func233 rfl (by kernel_rfl) rfl (Own.nil w) ?_
  refine At.run 100 true [] [] rfl trivial ?_
  refine At.loop (n := l.length - 1) (env0 := [(0, .slice a l.length cap), (1, .func (.func 234) ⟨[]⟩ ⟨[]⟩), (2, .func (.func 235) ⟨[]⟩ ⟨[]⟩), (7, .int .i64 1)]) (fun m env bx hp => ∃ i : Nat, m = l.length - i ∧ 1 ≤ i ∧ i ≤ l.length + 1 ∧ (∀ t x y, t + 1 < i → l[t]? = some x → l[t + 1]? = some y → lt1 x y = true) ∧
    env = [(0, .slice a l.length cap), (1, .func (.func 234) ⟨[]⟩ ⟨[]⟩), (2, .func (.func 235) ⟨[]⟩ ⟨[]⟩), (7, .int .i64 i)] ∧ bx = [] ∧ hp = []) rfl ⟨1, rfl, by omega, by omega, fun t x y h => by omega, rfl, rfl, rfl⟩ ⟨rfl, rfl, rfl, rfl, trivial⟩ ?_
  rintro m env bx hp ⟨i, rfl, h1i, hi, hall, rfl, rfl, rfl⟩ ih
  by_cases hlt : i < l.length
  · obtain ⟨x, hx⟩ : ∃ x, l[i - 1]? = some x := ⟨_, List.getElem?_eq_getElem (by omega)⟩
    obtain ⟨y, hy⟩ : ∃ y, l[i]? = some y := ⟨_, List.getElem?_eq_getElem hlt⟩
    have hmx := List.mem_of_getElem? hx
    have hmy := List.mem_of_getElem? hy
    obtain ⟨g, o, rfl, hc⟩ := hrow.get (slNe (by decide) hl hx)
    have r1 : ∀ {bx : Bx} {hp : List Seg}, RdW ⟨w, kys [] []⟩ bx hp g (o + ((i : Int) - 1).toNat * 4) (i64s x) := fun {_ _} => RdW.rec hl hc (by simp [kys]) hx (by omega)
    have r2 : ∀ {bx : Bx} {hp : List Seg}, RdW ⟨w, kys [] []⟩ bx hp g (o + (i : Int).toNat * 4) (i64s y) := fun {_ _} => RdW.rec hl hc (by simp [kys]) hy (by omega)
    have hfalse := fun h => ris_false (lt := lt1) hx (by rw [show i - 1 + 1 = i by omega]; exact hy) h
    have hnext : lt1 x y = true → ∀ t u v, t + 1 < i + 1 → l[t]? = some u → l[t + 1]? = some v → lt1 u v = true := by
      intro hxy t u v ht hu hv
      by_cases hti : t = i - 1
      · subst hti
        rw [hx] at hu; cases hu
        rw [show i - 1 + 1 = i by omega, hy] at hv; cases hv; exact hxy
      · exact hall t u v (by omega) hu hv
    obtain ⟨x0, x1, x2, x3, rfl⟩ := len4 (hl x hmx)
    obtain ⟨y0, y1, y2, y3, rfl⟩ := len4 (hl y hmy)
    refine At.run 100 true [true] [] rfl oK ?_
    refine At.quiet true [] [hR [.int .i64 x0, .int .i64 x1, .int .i64 x2, .int .i64 x3], hR [.int .i64 y0, .int .i64 y1, .int .i64 y2, .int .i64 y3], hC (.int .i64 y0), hC (.int .i64 (cmp1 [x0, x1, x2, x3] y0))] ⟨by kernel_rfl, by kernel_rfl, rfl, rfl, rfl⟩ rfl rfl rfl (by and_intros <;> first | exact r1 | exact r2 | exact fun w' _ => Tryz.holderKey_w .. | exact fun w' _ => Tryz.byHolder_w .. | exact oK) ?_
    by_cases hcmp : cmp1 [x0, x1, x2, x3] y0 < 0
    · have hl2 : lt1 [x0, x1, x2, x3] [y0, y1, y2, y3] = true := decide_eq_true (cmpI_lt.1 hcmp)
      refine At.run 100 true [false] [] rfl (by and_intros <;> first | exact decide_eq_false (by omega) | exact oK) ?_
      refine At.weak (ih (l.length - (i + 1)) _ _ _ (by omega) ⟨i + 1, rfl, by omega, by omega, hnext hl2, rfl, rfl, rfl⟩) ⟨rfl, rfl, rfl, some_int_eq (by omega), trivial⟩
    · have hl2 : lt1 [x0, x1, x2, x3] [y0, y1, y2, y3] = false := decide_eq_false (fun h => hcmp (cmpI_lt.2 h))
      refine At.run 100 true [true] [] rfl (by and_intros <;> first | exact decide_eq_true (by omega) | exact oK) ?_
      exact At.ret [] rfl Tryz.func233 rfl trivial ⟨by rw [hfalse hl2]; rfl, rfl, rfl⟩
  · refine At.run 100 true [false] [] rfl oK ?_
    exact At.ret [] rfl Tryz.func233 rfl trivial ⟨by rw [ris_ok hall (by omega)]; rfl, rfl, rfl⟩

theorem Tryz.findHolder_w (l : List (List Int)) (a : Option Addr) (cap : Nat) (k : Int) (w : World) (hl : ∀ x, x ∈ l → x.length = 4) (hlen : l.length ≤ 1048576) (hrow : SlOk w a (l.flatMap i64s)) (hris : ris lt1 l = true) :
    Fun Tryz.prog 245 [.slice a l.length cap, .int .i64 k, .func (.func 235) ⟨[]⟩ ⟨[]⟩] w (.tuple #[.agg ⟨i64s ((fnd l k).getD [0, 0, 0, 0])⟩, .bool (fnd l k).isSome]) := by
  refine Tri.enter (bx := []) (hp := []) Tryz.func245 rfl (by kernel_rfl) rfl (Own.nil w) ?_
  refine At.run 100 true [] [] rfl trivial ?_
  refine At.step [] rfl rfl rfl rfl rfl trivial (OpOk.alloc (cs := i64s [0, 0, 0, 0]) rfl (by kernel_rfl) fun b1 hb1 => ?_)
  have hfb := @fnd_bs l k hris
  have hs : ∀ {bx : Bx} {hp : List Seg}, CallOb Tryz.prog ⟨w, kys [] []⟩ bx hp 289 [.slice a l.length cap, .int .i64 k, .func (.func 235) ⟨[]⟩ ⟨[]⟩] (.tuple #[.int .i64 (bsI l k), .bool (bsF l k)]) :=
    fun {_ _} w' hw' => Tryz.searchHolder_w l a cap k w' hl hlen (hrow.ext hw'.ext (by simp [kys])) hris
  cases hF : bsF l k with
  | false =>
    rw [hF] at hs hfb
    rw [hfb]
    refine At.run 100 true [true] [hC (.tuple #[.int .i64 (bsI l k), .bool false])] rfl (by and_intros <;> first | exact hs | exact oK) ?_
    refine At.step [] rfl rfl rfl rfl rfl trivial (OpOk.alloc (cs := i64s [0, 0, 0, 0]) rfl (by kernel_rfl) fun b2 hb2 => ?_)
    refine At.run 100 true [] [hB 0, hB 1] rfl oK ?_
    exact At.retK [] [] [hB 1] rfl rfl Tryz.func245 rfl oK ⟨rfl, rfl, rfl⟩
  | true =>
    rw [hF] at hs hfb
    obtain ⟨x, hx⟩ : ∃ x, l[bsI l k]? = some x := by
      unfold bsF at hF
      cases h : l[bsI l k]? with
      | none => rw [h] at hF; cases hF
      | some x => exact ⟨x, rfl⟩
    rw [hfb, hx]
    have hm := List.mem_of_getElem? hx
    obtain ⟨g, o, rfl, hc⟩ := hrow.get (slNe (by decide) hl hx)
    have r1 : ∀ {bx : Bx} {hp : List Seg}, RdW ⟨w, kys [] []⟩ bx hp g (o + ((bsI l k : Nat) : Int).toNat * 4) (i64s x) := fun {_ _} => RdW.rec hl hc (by simp [kys]) hx (by omega)
    have hbl := (List.getElem?_eq_some_iff.1 hx).1
    obtain ⟨x0, x1, x2, x3, rfl⟩ := len4 (hl x hm)
    refine At.run 100 true [false] [hC (.tuple #[.int .i64 (bsI l k), .bool true]), hR [.int .i64 x0, .int .i64 x1, .int .i64 x2, .int .i64 x3], hB 0] rfl (by and_intros <;> first | exact hs | exact r1 | exact oK) ?_
    exact At.retK [] [] [hB 0] rfl rfl Tryz.func245 rfl oK ⟨rfl, rfl, rfl⟩

theorem Tryz.risingOpen_w (l : List (List Int)) (a : Option Addr) (cap : Nat) (w : World) (hl : ∀ x, x ∈ l → x.length = 6) (hlen : l.length ≤ 1048576) (hrow : SlOk w a (l.flatMap i64s)) :
    Fun Tryz.prog 236 [.slice a l.length cap, .func (.func 237) ⟨[]⟩ ⟨[]⟩, .func (.func 238) ⟨[]⟩ ⟨[]⟩] w (.bool (ris lt1 l)) := by
  refine Tri.enter (bx := []) (hp := []) Tryz.func236 rfl (by kernel_rfl) rfl (Own.nil w) ?_
  refine At.run 100 true [] [] rfl trivial ?_
  refine At.loop (n := l.length - 1) (env0 := [(0, .slice a l.length cap), (1, .func (.func 237) ⟨[]⟩ ⟨[]⟩), (2, .func (.func 238) ⟨[]⟩ ⟨[]⟩), (7, .int .i64 1)]) (fun m env bx hp => ∃ i : Nat, m = l.length - i ∧ 1 ≤ i ∧ i ≤ l.length + 1 ∧ (∀ t x y, t + 1 < i → l[t]? = some x → l[t + 1]? = some y → lt1 x y = true) ∧
    env = [(0, .slice a l.length cap), (1, .func (.func 237) ⟨[]⟩ ⟨[]⟩), (2, .func (.func 238) ⟨[]⟩ ⟨[]⟩), (7, .int .i64 i)] ∧ bx = [] ∧ hp = []) rfl ⟨1, rfl, by omega, by omega, fun t x y h => by omega, rfl, rfl, rfl⟩ ⟨rfl, rfl, rfl, rfl, trivial⟩ ?_
  rintro m env bx hp ⟨i, rfl, h1i, hi, hall, rfl, rfl, rfl⟩ ih
  by_cases hlt : i < l.length
  · obtain ⟨x, hx⟩ : ∃ x, l[i - 1]? = some x := ⟨_, List.getElem?_eq_getElem (by omega)⟩
    obtain ⟨y, hy⟩ : ∃ y, l[i]? = some y := ⟨_, List.getElem?_eq_getElem hlt⟩
    have hmx := List.mem_of_getElem? hx
    have hmy := List.mem_of_getElem? hy
    obtain ⟨g, o, rfl, hc⟩ := hrow.get (slNe (by decide) hl hx)
    have r1 : ∀ {bx : Bx} {hp : List Seg}, RdW ⟨w, kys [] []⟩ bx hp g (o + ((i : Int) - 1).toNat * 6) (i64s x) := fun {_ _} => RdW.rec hl hc (by simp [kys]) hx (by omega)
    have r2 : ∀ {bx : Bx} {hp : List Seg}, RdW ⟨w, kys [] []⟩ bx hp g (o + (i : Int).toNat * 6) (i64s y) := fun {_ _} => RdW.rec hl hc (by simp [kys]) hy (by omega)
    have hfalse := fun h => ris_false (lt := lt1) hx (by rw [show i - 1 + 1 = i by omega]; exact hy) h
    have hnext : lt1 x y = true → ∀ t u v, t + 1 < i + 1 → l[t]? = some u → l[t + 1]? = some v → lt1 u v = true := by
      intro hxy t u v ht hu hv
      by_cases hti : t = i - 1
      · subst hti
        rw [hx] at hu; cases hu
        rw [show i - 1 + 1 = i by omega, hy] at hv; cases hv; exact hxy
      · exact hall t u v (by omega) hu hv
    obtain ⟨x0, x1, x2, x3, x4, x5, rfl⟩ := len6 (hl x hmx)
    obtain ⟨y0, y1, y2, y3, y4, y5, rfl⟩ := len6 (hl y hmy)
    refine At.run 100 true [true] [] rfl oK ?_
    refine At.quiet true [] [hR [.int .i64 x0, .int .i64 x1, .int .i64 x2, .int .i64 x3, .int .i64 x4, .int .i64 x5], hR [.int .i64 y0, .int .i64 y1, .int .i64 y2, .int .i64 y3, .int .i64 y4, .int .i64 y5], hC (.int .i64 y0), hC (.int .i64 (cmp1 [x0, x1, x2, x3, x4, x5] y0))] ⟨by kernel_rfl, by kernel_rfl, rfl, rfl, rfl⟩ rfl rfl rfl (by and_intros <;> first | exact r1 | exact r2 | exact fun w' _ => Tryz.openKey_w .. | exact fun w' _ => Tryz.byOpen_w .. | exact oK) ?_
    by_cases hcmp : cmp1 [x0, x1, x2, x3, x4, x5] y0 < 0
    · have hl2 : lt1 [x0, x1, x2, x3, x4, x5] [y0, y1, y2, y3, y4, y5] = true := decide_eq_true (cmpI_lt.1 hcmp)
      refine At.run 100 true [false] [] rfl (by and_intros <;> first | exact decide_eq_false (by omega) | exact oK) ?_
      refine At.weak (ih (l.length - (i + 1)) _ _ _ (by omega) ⟨i + 1, rfl, by omega, by omega, hnext hl2, rfl, rfl, rfl⟩) ⟨rfl, rfl, rfl, some_int_eq (by omega), trivial⟩
    · have hl2 : lt1 [x0, x1, x2, x3, x4, x5] [y0, y1, y2, y3, y4, y5] = false := decide_eq_false (fun h => hcmp (cmpI_lt.2 h))
      refine At.run 100 true [true] [] rfl (by and_intros <;> first | exact decide_eq_true (by omega) | exact oK) ?_
      exact At.ret [] rfl Tryz.func236 rfl trivial ⟨by rw [hfalse hl2]; rfl, rfl, rfl⟩
  · refine At.run 100 true [false] [] rfl oK ?_
    exact At.ret [] rfl Tryz.func236 rfl trivial ⟨by rw [ris_ok hall (by omega)]; rfl, rfl, rfl⟩

theorem Tryz.findOpen_w (l : List (List Int)) (a : Option Addr) (cap : Nat) (k : Int) (w : World) (hl : ∀ x, x ∈ l → x.length = 6) (hlen : l.length ≤ 1048576) (hrow : SlOk w a (l.flatMap i64s)) (hris : ris lt1 l = true) :
    Fun Tryz.prog 332 [.slice a l.length cap, .int .i64 k, .func (.func 238) ⟨[]⟩ ⟨[]⟩] w (.tuple #[.agg ⟨i64s ((fnd l k).getD [0, 0, 0, 0, 0, 0])⟩, .bool (fnd l k).isSome]) := by
  refine Tri.enter (bx := []) (hp := []) Tryz.func332 rfl (by kernel_rfl) rfl (Own.nil w) ?_
  refine At.run 100 true [] [] rfl trivial ?_
  refine At.step [] rfl rfl rfl rfl rfl trivial (OpOk.alloc (cs := i64s [0, 0, 0, 0, 0, 0]) rfl (by kernel_rfl) fun b1 hb1 => ?_)
  have hfb := @fnd_bs l k hris
  have hs : ∀ {bx : Bx} {hp : List Seg}, CallOb Tryz.prog ⟨w, kys [] []⟩ bx hp 352 [.slice a l.length cap, .int .i64 k, .func (.func 238) ⟨[]⟩ ⟨[]⟩] (.tuple #[.int .i64 (bsI l k), .bool (bsF l k)]) :=
    fun {_ _} w' hw' => Tryz.searchOpen_w l a cap k w' hl hlen (hrow.ext hw'.ext (by simp [kys])) hris
  cases hF : bsF l k with
  | false =>
    rw [hF] at hs hfb
    rw [hfb]
    refine At.run 100 true [true] [hC (.tuple #[.int .i64 (bsI l k), .bool false])] rfl (by and_intros <;> first | exact hs | exact oK) ?_
    refine At.step [] rfl rfl rfl rfl rfl trivial (OpOk.alloc (cs := i64s [0, 0, 0, 0, 0, 0]) rfl (by kernel_rfl) fun b2 hb2 => ?_)
    refine At.run 100 true [] [hB 0, hB 1] rfl oK ?_
    exact At.retK [] [] [hB 1] rfl rfl Tryz.func332 rfl oK ⟨rfl, rfl, rfl⟩
  | true =>
    rw [hF] at hs hfb
    obtain ⟨x, hx⟩ : ∃ x, l[bsI l k]? = some x := by
      unfold bsF at hF
      cases h : l[bsI l k]? with
      | none => rw [h] at hF; cases hF
      | some x => exact ⟨x, rfl⟩
    rw [hfb, hx]
    have hm := List.mem_of_getElem? hx
    obtain ⟨g, o, rfl, hc⟩ := hrow.get (slNe (by decide) hl hx)
    have r1 : ∀ {bx : Bx} {hp : List Seg}, RdW ⟨w, kys [] []⟩ bx hp g (o + ((bsI l k : Nat) : Int).toNat * 6) (i64s x) := fun {_ _} => RdW.rec hl hc (by simp [kys]) hx (by omega)
    have hbl := (List.getElem?_eq_some_iff.1 hx).1
    obtain ⟨x0, x1, x2, x3, x4, x5, rfl⟩ := len6 (hl x hm)
    refine At.run 100 true [false] [hC (.tuple #[.int .i64 (bsI l k), .bool true]), hR [.int .i64 x0, .int .i64 x1, .int .i64 x2, .int .i64 x3, .int .i64 x4, .int .i64 x5], hB 0] rfl (by and_intros <;> first | exact hs | exact r1 | exact oK) ?_
    exact At.retK [] [] [hB 0] rfl rfl Tryz.func332 rfl oK ⟨rfl, rfl, rfl⟩

theorem Tryz.risingRate_w (l : List (List Int)) (a : Option Addr) (cap : Nat) (w : World) (hl : ∀ x, x ∈ l → x.length = 2) (hlen : l.length ≤ 1048576) (hrow : SlOk w a (l.flatMap i64s)) :
    Fun Tryz.prog 239 [.slice a l.length cap, .func (.func 240) ⟨[]⟩ ⟨[]⟩, .func (.func 241) ⟨[]⟩ ⟨[]⟩] w (.bool (ris lt1 l)) := by
  refine Tri.enter (bx := []) (hp := []) Tryz.func239 rfl (by kernel_rfl) rfl (Own.nil w) ?_
  refine At.run 100 true [] [] rfl trivial ?_
  refine At.loop (n := l.length - 1) (env0 := [(0, .slice a l.length cap), (1, .func (.func 240) ⟨[]⟩ ⟨[]⟩), (2, .func (.func 241) ⟨[]⟩ ⟨[]⟩), (7, .int .i64 1)]) (fun m env bx hp => ∃ i : Nat, m = l.length - i ∧ 1 ≤ i ∧ i ≤ l.length + 1 ∧ (∀ t x y, t + 1 < i → l[t]? = some x → l[t + 1]? = some y → lt1 x y = true) ∧
    env = [(0, .slice a l.length cap), (1, .func (.func 240) ⟨[]⟩ ⟨[]⟩), (2, .func (.func 241) ⟨[]⟩ ⟨[]⟩), (7, .int .i64 i)] ∧ bx = [] ∧ hp = []) rfl ⟨1, rfl, by omega, by omega, fun t x y h => by omega, rfl, rfl, rfl⟩ ⟨rfl, rfl, rfl, rfl, trivial⟩ ?_
  rintro m env bx hp ⟨i, rfl, h1i, hi, hall, rfl, rfl, rfl⟩ ih
  by_cases hlt : i < l.length
  · obtain ⟨x, hx⟩ : ∃ x, l[i - 1]? = some x := ⟨_, List.getElem?_eq_getElem (by omega)⟩
    obtain ⟨y, hy⟩ : ∃ y, l[i]? = some y := ⟨_, List.getElem?_eq_getElem hlt⟩
    have hmx := List.mem_of_getElem? hx
    have hmy := List.mem_of_getElem? hy
    obtain ⟨g, o, rfl, hc⟩ := hrow.get (slNe (by decide) hl hx)
    have r1 : ∀ {bx : Bx} {hp : List Seg}, RdW ⟨w, kys [] []⟩ bx hp g (o + ((i : Int) - 1).toNat * 2) (i64s x) := fun {_ _} => RdW.rec hl hc (by simp [kys]) hx (by omega)
    have r2 : ∀ {bx : Bx} {hp : List Seg}, RdW ⟨w, kys [] []⟩ bx hp g (o + (i : Int).toNat * 2) (i64s y) := fun {_ _} => RdW.rec hl hc (by simp [kys]) hy (by omega)
    have hfalse := fun h => ris_false (lt := lt1) hx (by rw [show i - 1 + 1 = i by omega]; exact hy) h
    have hnext : lt1 x y = true → ∀ t u v, t + 1 < i + 1 → l[t]? = some u → l[t + 1]? = some v → lt1 u v = true := by
      intro hxy t u v ht hu hv
      by_cases hti : t = i - 1
      · subst hti
        rw [hx] at hu; cases hu
        rw [show i - 1 + 1 = i by omega, hy] at hv; cases hv; exact hxy
      · exact hall t u v (by omega) hu hv
    obtain ⟨x0, x1, rfl⟩ := len2 (hl x hmx)
    obtain ⟨y0, y1, rfl⟩ := len2 (hl y hmy)
    refine At.run 100 true [true] [] rfl oK ?_
    refine At.quiet true [] [hR [.int .i64 x0, .int .i64 x1], hR [.int .i64 y0, .int .i64 y1], hC (.int .i64 y0), hC (.int .i64 (cmp1 [x0, x1] y0))] ⟨by kernel_rfl, by kernel_rfl, rfl, rfl, rfl⟩ rfl rfl rfl (by and_intros <;> first | exact r1 | exact r2 | exact fun w' _ => Tryz.rateKey_w .. | exact fun w' _ => Tryz.byRate_w .. | exact oK) ?_
    by_cases hcmp : cmp1 [x0, x1] y0 < 0
    · have hl2 : lt1 [x0, x1] [y0, y1] = true := decide_eq_true (cmpI_lt.1 hcmp)
      refine At.run 100 true [false] [] rfl (by and_intros <;> first | exact decide_eq_false (by omega) | exact oK) ?_
      refine At.weak (ih (l.length - (i + 1)) _ _ _ (by omega) ⟨i + 1, rfl, by omega, by omega, hnext hl2, rfl, rfl, rfl⟩) ⟨rfl, rfl, rfl, some_int_eq (by omega), trivial⟩
    · have hl2 : lt1 [x0, x1] [y0, y1] = false := decide_eq_false (fun h => hcmp (cmpI_lt.2 h))
      refine At.run 100 true [true] [] rfl (by and_intros <;> first | exact decide_eq_true (by omega) | exact oK) ?_
      exact At.ret [] rfl Tryz.func239 rfl trivial ⟨by rw [hfalse hl2]; rfl, rfl, rfl⟩
  · refine At.run 100 true [false] [] rfl oK ?_
    exact At.ret [] rfl Tryz.func239 rfl trivial ⟨by rw [ris_ok hall (by omega)]; rfl, rfl, rfl⟩

theorem Tryz.findRate_w (l : List (List Int)) (a : Option Addr) (cap : Nat) (k : Int) (w : World) (hl : ∀ x, x ∈ l → x.length = 2) (hlen : l.length ≤ 1048576) (hrow : SlOk w a (l.flatMap i64s)) (hris : ris lt1 l = true) :
    Fun Tryz.prog 246 [.slice a l.length cap, .int .i64 k, .func (.func 241) ⟨[]⟩ ⟨[]⟩] w (.tuple #[.agg ⟨i64s ((fnd l k).getD [0, 0])⟩, .bool (fnd l k).isSome]) := by
  refine Tri.enter (bx := []) (hp := []) Tryz.func246 rfl (by kernel_rfl) rfl (Own.nil w) ?_
  refine At.run 100 true [] [] rfl trivial ?_
  refine At.step [] rfl rfl rfl rfl rfl trivial (OpOk.alloc (cs := i64s [0, 0]) rfl (by kernel_rfl) fun b1 hb1 => ?_)
  have hfb := @fnd_bs l k hris
  have hs : ∀ {bx : Bx} {hp : List Seg}, CallOb Tryz.prog ⟨w, kys [] []⟩ bx hp 290 [.slice a l.length cap, .int .i64 k, .func (.func 241) ⟨[]⟩ ⟨[]⟩] (.tuple #[.int .i64 (bsI l k), .bool (bsF l k)]) :=
    fun {_ _} w' hw' => Tryz.searchRate_w l a cap k w' hl hlen (hrow.ext hw'.ext (by simp [kys])) hris
  cases hF : bsF l k with
  | false =>
    rw [hF] at hs hfb
    rw [hfb]
    refine At.run 100 true [true] [hC (.tuple #[.int .i64 (bsI l k), .bool false])] rfl (by and_intros <;> first | exact hs | exact oK) ?_
    refine At.step [] rfl rfl rfl rfl rfl trivial (OpOk.alloc (cs := i64s [0, 0]) rfl (by kernel_rfl) fun b2 hb2 => ?_)
    refine At.run 100 true [] [hB 0, hB 1] rfl oK ?_
    exact At.retK [] [] [hB 1] rfl rfl Tryz.func246 rfl oK ⟨rfl, rfl, rfl⟩
  | true =>
    rw [hF] at hs hfb
    obtain ⟨x, hx⟩ : ∃ x, l[bsI l k]? = some x := by
      unfold bsF at hF
      cases h : l[bsI l k]? with
      | none => rw [h] at hF; cases hF
      | some x => exact ⟨x, rfl⟩
    rw [hfb, hx]
    have hm := List.mem_of_getElem? hx
    obtain ⟨g, o, rfl, hc⟩ := hrow.get (slNe (by decide) hl hx)
    have r1 : ∀ {bx : Bx} {hp : List Seg}, RdW ⟨w, kys [] []⟩ bx hp g (o + ((bsI l k : Nat) : Int).toNat * 2) (i64s x) := fun {_ _} => RdW.rec hl hc (by simp [kys]) hx (by omega)
    have hbl := (List.getElem?_eq_some_iff.1 hx).1
    obtain ⟨x0, x1, rfl⟩ := len2 (hl x hm)
    refine At.run 100 true [false] [hC (.tuple #[.int .i64 (bsI l k), .bool true]), hR [.int .i64 x0, .int .i64 x1], hB 0] rfl (by and_intros <;> first | exact hs | exact r1 | exact oK) ?_
    exact At.retK [] [] [hB 0] rfl rfl Tryz.func246 rfl oK ⟨rfl, rfl, rfl⟩

theorem Tryz.risingStake_w (l : List (List Int)) (a : Option Addr) (cap : Nat) (w : World) (hl : ∀ x, x ∈ l → x.length = 3) (hlen : l.length ≤ 1048576) (hrow : SlOk w a (l.flatMap i64s)) :
    Fun Tryz.prog 242 [.slice a l.length cap, .func (.func 243) ⟨[]⟩ ⟨[]⟩, .func (.func 244) ⟨[]⟩ ⟨[]⟩] w (.bool (ris lt2 l)) := by
  refine Tri.enter (bx := []) (hp := []) Tryz.func242 rfl (by kernel_rfl) rfl (Own.nil w) ?_
  refine At.run 100 true [] [] rfl trivial ?_
  refine At.loop (n := l.length - 1) (env0 := [(0, .slice a l.length cap), (1, .func (.func 243) ⟨[]⟩ ⟨[]⟩), (2, .func (.func 244) ⟨[]⟩ ⟨[]⟩), (7, .int .i64 1)]) (fun m env bx hp => ∃ i : Nat, m = l.length - i ∧ 1 ≤ i ∧ i ≤ l.length + 1 ∧ (∀ t x y, t + 1 < i → l[t]? = some x → l[t + 1]? = some y → lt2 x y = true) ∧
    env = [(0, .slice a l.length cap), (1, .func (.func 243) ⟨[]⟩ ⟨[]⟩), (2, .func (.func 244) ⟨[]⟩ ⟨[]⟩), (7, .int .i64 i)] ∧ bx = [] ∧ hp = []) rfl ⟨1, rfl, by omega, by omega, fun t x y h => by omega, rfl, rfl, rfl⟩ ⟨rfl, rfl, rfl, rfl, trivial⟩ ?_
  rintro m env bx hp ⟨i, rfl, h1i, hi, hall, rfl, rfl, rfl⟩ ih
  by_cases hlt : i < l.length
  · obtain ⟨x, hx⟩ : ∃ x, l[i - 1]? = some x := ⟨_, List.getElem?_eq_getElem (by omega)⟩
    obtain ⟨y, hy⟩ : ∃ y, l[i]? = some y := ⟨_, List.getElem?_eq_getElem hlt⟩
    have hmx := List.mem_of_getElem? hx
    have hmy := List.mem_of_getElem? hy
    obtain ⟨g, o, rfl, hc⟩ := hrow.get (slNe (by decide) hl hx)
    have r1 : ∀ {bx : Bx} {hp : List Seg}, RdW ⟨w, kys [] []⟩ bx hp g (o + ((i : Int) - 1).toNat * 3) (i64s x) := fun {_ _} => RdW.rec hl hc (by simp [kys]) hx (by omega)
    have r2 : ∀ {bx : Bx} {hp : List Seg}, RdW ⟨w, kys [] []⟩ bx hp g (o + (i : Int).toNat * 3) (i64s y) := fun {_ _} => RdW.rec hl hc (by simp [kys]) hy (by omega)
    have hfalse := fun h => ris_false (lt := lt2) hx (by rw [show i - 1 + 1 = i by omega]; exact hy) h
    have hnext : lt2 x y = true → ∀ t u v, t + 1 < i + 1 → l[t]? = some u → l[t + 1]? = some v → lt2 u v = true := by
      intro hxy t u v ht hu hv
      by_cases hti : t = i - 1
      · subst hti
        rw [hx] at hu; cases hu
        rw [show i - 1 + 1 = i by omega, hy] at hv; cases hv; exact hxy
      · exact hall t u v (by omega) hu hv
    obtain ⟨x0, x1, x2, rfl⟩ := len3 (hl x hmx)
    obtain ⟨y0, y1, y2, rfl⟩ := len3 (hl y hmy)
    refine At.run 100 true [true] [] rfl oK ?_
    refine At.quiet true [] [hR [.int .i64 x0, .int .i64 x1, .int .i64 x2], hR [.int .i64 y0, .int .i64 y1, .int .i64 y2], hC (.agg ⟨[.int .i64 y0, .int .i64 y1]⟩), hC (.int .i64 (cmp2 [x0, x1, x2] y0 y1))] ⟨by kernel_rfl, by kernel_rfl, rfl, rfl, rfl⟩ rfl rfl rfl (by and_intros <;> first | exact r1 | exact r2 | exact fun w' _ => Tryz.stakeKey_w .. | exact fun w' _ => Tryz.byStake_w .. | exact oK) ?_
    by_cases hcmp : cmp2 [x0, x1, x2] y0 y1 < 0
    · have hl2 : lt2 [x0, x1, x2] [y0, y1, y2] = true := decide_eq_true (cmp2_lt.1 hcmp)
      refine At.run 100 true [false] [] rfl (by and_intros <;> first | exact decide_eq_false (by omega) | exact oK) ?_
      refine At.weak (ih (l.length - (i + 1)) _ _ _ (by omega) ⟨i + 1, rfl, by omega, by omega, hnext hl2, rfl, rfl, rfl⟩) ⟨rfl, rfl, rfl, some_int_eq (by omega), trivial⟩
    · have hl2 : lt2 [x0, x1, x2] [y0, y1, y2] = false := decide_eq_false (fun h => hcmp (cmp2_lt.2 h))
      refine At.run 100 true [true] [] rfl (by and_intros <;> first | exact decide_eq_true (by omega) | exact oK) ?_
      exact At.ret [] rfl Tryz.func242 rfl trivial ⟨by rw [hfalse hl2]; rfl, rfl, rfl⟩
  · refine At.run 100 true [false] [] rfl oK ?_
    exact At.ret [] rfl Tryz.func242 rfl trivial ⟨by rw [ris_ok hall (by omega)]; rfl, rfl, rfl⟩

end Go.Proofs

/-
  Walks of layer 12: may a book be?
-/
namespace Go.Proofs
open Go Go.Eng
set_option maxRecDepth 100000
set_option maxHeartbeats 4000000
attribute [local irreducible] Tri

theorem Tryz.lists_w (b : Bk) (A : BkA) (w : World) (hi : BkIn b) (ho : BkOk w b A) : Fun Tryz.prog 178 [.agg ⟨bkV b A⟩] w (.bool (listsB b)) := by
  refine Tri.enter (bx := []) (hp := []) Tryz.func178 rfl (by kernel_rfl) rfl (Own.nil w) ?_
  refine At.run 100 true [] [] rfl trivial ?_
  refine At.step [] rfl rfl rfl rfl rfl trivial (OpOk.box rfl rfl rfl fun bq hbq => ?_)
  have h1 : ∀ {bx : Bx} {hp : List Seg}, CallOb Tryz.prog ⟨w, kys [] []⟩ bx hp 233 [.slice A.a1 b.H.length A.c1, .func (.func 234) ⟨[]⟩ ⟨[]⟩, .func (.func 235) ⟨[]⟩ ⟨[]⟩] (.bool (ris lt1 b.H)) := fun {_ _} w' hw' => Tryz.risingHolder_w b.H A.a1 A.c1 w' hi.r1.len hi.l1 (ho.ext hw'.ext (by simp [kys])).h1
  have h3 : ∀ {bx : Bx} {hp : List Seg}, CallOb Tryz.prog ⟨w, kys [] []⟩ bx hp 236 [.slice A.a3 b.O.length A.c3, .func (.func 237) ⟨[]⟩ ⟨[]⟩, .func (.func 238) ⟨[]⟩ ⟨[]⟩] (.bool (ris lt1 b.O)) := fun {_ _} w' hw' => Tryz.risingOpen_w b.O A.a3 A.c3 w' hi.r3.len hi.l3 (ho.ext hw'.ext (by simp [kys])).h3
  have h4 : ∀ {bx : Bx} {hp : List Seg}, CallOb Tryz.prog ⟨w, kys [] []⟩ bx hp 239 [.slice A.a4 b.R.length A.c4, .func (.func 240) ⟨[]⟩ ⟨[]⟩, .func (.func 241) ⟨[]⟩ ⟨[]⟩] (.bool (ris lt1 b.R)) := fun {_ _} w' hw' => Tryz.risingRate_w b.R A.a4 A.c4 w' hi.r4.len hi.l4 (ho.ext hw'.ext (by simp [kys])).h4
  have h2 : ∀ {bx : Bx} {hp : List Seg}, CallOb Tryz.prog ⟨w, kys [] []⟩ bx hp 242 [.slice A.a2 b.S.length A.c2, .func (.func 243) ⟨[]⟩ ⟨[]⟩, .func (.func 244) ⟨[]⟩ ⟨[]⟩] (.bool (ris lt2 b.S)) := fun {_ _} w' hw' => Tryz.risingStake_w b.S A.a2 A.c2 w' hi.r2.len hi.l2 (ho.ext hw'.ext (by simp [kys])).h2
  have l1 := hi.l1
  have l3 := hi.l3
  have l4 := hi.l4
  unfold listsB
  by_cases g1 : b.H.length ≤ 32
  · by_cases g2 : b.O.length ≤ 64
    · by_cases g3 : b.R.length ≤ 32
      · refine At.run 100 true [false, false, false] [hB 0, hB 0, hB 0] rfl oK ?_
        simp only [g1, g2, g3, decide_true, Bool.true_and]
        cases e1 : ris lt1 b.H with
        | false =>
          rw [e1] at h1
          refine At.run 100 true [false, false, false] [hB 0, hC (.bool false)] rfl (by and_intros <;> first | exact h1 | exact oK) ?_
          exact At.retK [] [] [] rfl rfl Tryz.func178 rfl trivial ⟨rfl, rfl, rfl⟩
        | true =>
          rw [e1] at h1
          cases e3 : ris lt1 b.O with
          | false =>
            rw [e3] at h3
            refine At.run 100 true [true, false, false] [hB 0, hC (.bool true), hB 0, hC (.bool false)] rfl (by and_intros <;> first | exact h1 | exact h3 | exact oK) ?_
            exact At.retK [] [] [] rfl rfl Tryz.func178 rfl trivial ⟨rfl, rfl, rfl⟩
          | true =>
            rw [e3] at h3
            cases e4 : ris lt1 b.R with
            | false =>
              rw [e4] at h4
              refine At.run 100 true [true, true, false] [hB 0, hC (.bool true), hB 0, hC (.bool true), hB 0, hC (.bool false)] rfl (by and_intros <;> first | exact h1 | exact h3 | exact h4 | exact oK) ?_
              exact At.retK [] [] [] rfl rfl Tryz.func178 rfl trivial ⟨rfl, rfl, rfl⟩
            | true =>
              rw [e4] at h4
              refine At.run 100 true [true, true, true] [hB 0, hC (.bool true), hB 0, hC (.bool true), hB 0, hC (.bool true), hB 0, hC (.bool (ris lt2 b.S))] rfl (by and_intros <;> first | exact h1 | exact h3 | exact h4 | exact h2 | exact oK) ?_
              exact At.retK [] [] [] rfl rfl Tryz.func178 rfl trivial ⟨rfl, rfl, rfl⟩
      · refine At.run 100 true [false, false, true] [hB 0, hB 0, hB 0] rfl oK ?_
        exact At.retK [] [] [] rfl rfl Tryz.func178 rfl trivial ⟨by simp [g3, tupV], rfl, rfl⟩
    · refine At.run 100 true [false, true, true] [hB 0, hB 0] rfl oK ?_
      exact At.retK [] [] [] rfl rfl Tryz.func178 rfl trivial ⟨by simp [g2, tupV], rfl, rfl⟩
  · refine At.run 100 true [true, true, true] [hB 0] rfl oK ?_
    exact At.retK [] [] [] rfl rfl Tryz.func178 rfl trivial ⟨by simp [g1, tupV], rfl, rfl⟩

theorem Tryz.Holder_w (b : Bk) (A : BkA) (k : Int) (w : World) (hi : BkIn b) (ho : BkOk w b A) (hr : ris lt1 b.H = true) :
    Fun Tryz.prog 180 [.agg ⟨bkV b A⟩, .int .i64 k] w (.tuple #[.agg ⟨i64s ((fnd b.H k).getD [0, 0, 0, 0])⟩, .bool (fnd b.H k).isSome]) := by
  refine Tri.enter (bx := []) (hp := []) Tryz.func180 rfl (by kernel_rfl) rfl (Own.nil w) ?_
  refine At.run 100 true [] [] rfl trivial ?_
  refine At.step [] rfl rfl rfl rfl rfl trivial (OpOk.box rfl rfl rfl fun bq hbq => ?_)
  refine At.step [] rfl rfl rfl rfl rfl trivial (OpOk.alloc (cs := i64s [0, 0, 0, 0]) rfl (by kernel_rfl) fun b2 hb2 => ?_)
  have hf : ∀ {bx : Bx} {hp : List Seg}, CallOb Tryz.prog ⟨w, kys [] []⟩ bx hp 245 [.slice A.a1 b.H.length A.c1, .int .i64 k, .func (.func 235) ⟨[]⟩ ⟨[]⟩] (.tuple #[.agg ⟨i64s ((fnd b.H k).getD [0, 0, 0, 0])⟩, .bool (fnd b.H k).isSome]) :=
    fun {_ _} w' hw' => Tryz.findHolder_w b.H A.a1 A.c1 k w' hi.r1.len hi.l1 (ho.ext hw'.ext (by simp [kys])).h1 hr
  obtain ⟨x, f, hx, hl⟩ : ∃ x f, (fnd b.H k).getD [0, 0, 0, 0] = x ∧ x.length = 4 ∧ (fnd b.H k).isSome = f := by
    refine ⟨_, _, rfl, ?_, rfl⟩
    cases h : fnd b.H k with
    | none => rfl
    | some x => exact hi.r1.len x (fnd_mem h)
  obtain ⟨hl, hf2⟩ := hl
  rw [hx, hf2] at hf ⊢
  obtain ⟨x0, x1, x2, x3, rfl⟩ := len4 hl
  refine At.run 100 true [] [hB 1, hC (.tuple #[.agg ⟨i64s [x0, x1, x2, x3]⟩, .bool f]), hB 0] rfl (by and_intros <;> first | exact hf | exact oK) ?_
  exact At.retK [] [] [hB 0] rfl rfl Tryz.func180 rfl oK ⟨rfl, rfl, rfl⟩

theorem Tryz.Rate_w (b : Bk) (A : BkA) (k : Int) (w : World) (hi : BkIn b) (ho : BkOk w b A) (hr : ris lt1 b.R = true) :
    Fun Tryz.prog 181 [.agg ⟨bkV b A⟩, .int .i64 k] w (.tuple #[.int .i64 (k1 ((fnd b.R k).getD [0, 0])), .bool (fnd b.R k).isSome]) := by
  refine Tri.enter (bx := []) (hp := []) Tryz.func181 rfl (by kernel_rfl) rfl (Own.nil w) ?_
  refine At.run 100 true [] [] rfl trivial ?_
  refine At.step [] rfl rfl rfl rfl rfl trivial (OpOk.box rfl rfl rfl fun bq hbq => ?_)
  have hf : ∀ {bx : Bx} {hp : List Seg}, CallOb Tryz.prog ⟨w, kys [] []⟩ bx hp 246 [.slice A.a4 b.R.length A.c4, .int .i64 k, .func (.func 241) ⟨[]⟩ ⟨[]⟩] (.tuple #[.agg ⟨i64s ((fnd b.R k).getD [0, 0])⟩, .bool (fnd b.R k).isSome]) :=
    fun {_ _} w' hw' => Tryz.findRate_w b.R A.a4 A.c4 k w' hi.r4.len hi.l4 (ho.ext hw'.ext (by simp [kys])).h4 hr
  obtain ⟨x, f, hx, hl⟩ : ∃ x f, (fnd b.R k).getD [0, 0] = x ∧ x.length = 2 ∧ (fnd b.R k).isSome = f := by
    refine ⟨_, _, rfl, ?_, rfl⟩
    cases h : fnd b.R k with
    | none => rfl
    | some x => exact hi.r4.len x (fnd_mem h)
  obtain ⟨hl, hf2⟩ := hl
  rw [hx, hf2] at hf ⊢
  obtain ⟨x0, x1, rfl⟩ := len2 hl
  refine At.run 100 true [] [hB 0, hC (.tuple #[.agg ⟨i64s [x0, x1]⟩, .bool f])] rfl (by and_intros <;> first | exact hf | exact oK) ?_
  refine At.step [] rfl rfl rfl rfl rfl trivial (OpOk.alloc (cs := i64s [0, 0]) rfl (by kernel_rfl) fun b2 hb2 => ?_)
  refine At.run 100 true [] [hB 0, hB 0] rfl oK ?_
  exact At.retK [] [] [] rfl rfl Tryz.func181 rfl oK ⟨rfl, rfl, rfl⟩

theorem Tryz.There_w (b : Bk) (A : BkA) (acc sym : Int) (bb : Nat) (w : World) (hi : BkIn b) (ho : BkOk w b A) (hr : ris lt1 b.H = true) (hr4 : ris lt1 b.R = true) (hb : w.heap[bb]? = some (.cells (bkV b A).toArray 50 (0, 0))) :
    Fun Tryz.prog 179 [.int .i64 acc, .int .i64 sym, .pointer (some ⟨bb, 0, none⟩)] w (.bool (thereB b acc sym)) := by
  refine Tri.enter (bx := []) (hp := []) Tryz.func179 rfl (by kernel_rfl) rfl (Own.nil w) ?_
  have hld : ∀ {bx : Bx} {hp : List Seg}, RdW ⟨w, kys [] []⟩ bx hp bb 0 (bkV b A) := fun {_ _} => RdW.blkB (by simp [kys]) hb (fun j u hu => by rw [Nat.zero_add]; exact hu)
  have h1 : ∀ {bx : Bx} {hp : List Seg}, CallOb Tryz.prog ⟨w, kys [] []⟩ bx hp 180 [.agg ⟨bkV b A⟩, .int .i64 acc] (.tuple #[.agg ⟨i64s ((fnd b.H acc).getD [0, 0, 0, 0])⟩, .bool (fnd b.H acc).isSome]) := fun {_ _} w' hw' => Tryz.Holder_w b A acc w' hi (ho.ext hw'.ext (by simp [kys])) hr
  have h4 : ∀ {bx : Bx} {hp : List Seg}, CallOb Tryz.prog ⟨w, kys [] []⟩ bx hp 181 [.agg ⟨bkV b A⟩, .int .i64 sym] (.tuple #[.int .i64 (k1 ((fnd b.R sym).getD [0, 0])), .bool (fnd b.R sym).isSome]) := fun {_ _} w' hw' => Tryz.Rate_w b A sym w' hi (ho.ext hw'.ext (by simp [kys])) hr4
  unfold thereB
  obtain ⟨x, f, hx, hl⟩ : ∃ x f, (fnd b.H acc).getD [0, 0, 0, 0] = x ∧ x.length = 4 ∧ (fnd b.H acc).isSome = f := by
    refine ⟨_, _, rfl, ?_, rfl⟩
    cases h : fnd b.H acc with
    | none => rfl
    | some x => exact hi.r1.len x (fnd_mem h)
  obtain ⟨hl, hf2⟩ := hl
  rw [hx, hf2] at h1
  rw [hf2]
  obtain ⟨x0, x1, x2, x3, rfl⟩ := len4 hl
  generalize (fnd b.R sym).isSome = f4 at *
  generalize k1 ((fnd b.R sym).getD [0, 0]) = p4 at *
  refine At.run 100 true [] [hR (bkV b A), hC (.tuple #[.agg ⟨i64s [x0, x1, x2, x3]⟩, .bool f])] rfl (by and_intros <;> first | exact hld | exact h1 | exact oK) ?_
  refine At.step [] rfl rfl rfl rfl rfl trivial (OpOk.alloc (cs := i64s [0, 0, 0, 0]) rfl (by kernel_rfl) fun b2 hb2 => ?_)
  cases f with
  | true =>
    refine At.run 100 true [true] [hB 0, hR (bkV b A), hC (.tuple #[.int .i64 p4, .bool f4])] rfl (by and_intros <;> first | exact hld | exact h4 | exact oK) ?_
    exact At.retK [] [] [] rfl rfl Tryz.func179 rfl trivial ⟨rfl, rfl, rfl⟩
  | false =>
    refine At.run 100 true [false] [hB 0, hR (bkV b A), hC (.tuple #[.int .i64 p4, .bool f4])] rfl (by and_intros <;> first | exact hld | exact h4 | exact oK) ?_
    exact At.retK [] [] [] rfl rfl Tryz.func179 rfl trivial ⟨rfl, rfl, rfl⟩

theorem Tryz.badH_w (x : List Int) (hx : x.length = 4) (w : World) : Fun Tryz.prog 182 [.agg ⟨i64s x⟩] w (.bool (badH x)) := by
  obtain ⟨x0, x1, x2, x3, rfl⟩ := len4 hx
  refine Tri.enter (bx := []) (hp := []) Tryz.func182 rfl (by kernel_rfl) rfl (Own.nil w) ?_
  refine At.run 100 true [] [] rfl trivial ?_
  refine At.step [] rfl rfl rfl rfl rfl trivial (OpOk.box rfl rfl rfl fun bq hbq => ?_)
  have e : badH [x0, x1, x2, x3] = (decide (x2 < 0) || decide (x3 < 0)) := rfl
  rw [e]
  by_cases h : x2 < 0
  · refine At.run 100 true [true] [hB 0] rfl oK ?_
    exact At.retK [] [] [] rfl rfl Tryz.func182 rfl trivial ⟨by simp [h, tupV], rfl, rfl⟩
  · refine At.run 100 true [false] [hB 0, hB 0] rfl oK ?_
    exact At.retK [] [] [] rfl rfl Tryz.func182 rfl trivial ⟨by simp [h, tupV], rfl, rfl⟩

theorem Tryz.badR_w (x : List Int) (hx : x.length = 2) (w : World) : Fun Tryz.prog 183 [.agg ⟨i64s x⟩] w (.bool (badR x)) := by
  obtain ⟨x0, x1, rfl⟩ := len2 hx
  refine Tri.enter (bx := []) (hp := []) Tryz.func183 rfl (by kernel_rfl) rfl (Own.nil w) ?_
  refine At.run 100 true [] [] rfl trivial ?_
  refine At.step [] rfl rfl rfl rfl rfl trivial (OpOk.box rfl rfl rfl fun bq hbq => ?_)
  refine At.run 100 true [] [hB 0] rfl oK ?_
  exact At.retK [] [] [] rfl rfl Tryz.func183 rfl trivial ⟨rfl, rfl, rfl⟩

theorem Tryz.badS_w (b : Bk) (A : BkA) (x : List Int) (hx : x.length = 3) (bb bt : Nat) (w : World) (hi : BkIn b) (ho : BkOk w b A) (hr : ris lt1 b.H = true) (hr4 : ris lt1 b.R = true) (hb : w.heap[bb]? = some (.cells (bkV b A).toArray 50 (0, 0)))
    (ht : w.heap[bt]? = some (.cells [Value.func (.func 179) ⟨[]⟩ ⟨[.pointer (some ⟨bb, 0, none⟩)]⟩].toArray 265 (0, 0))) :
    Fun Tryz.prog 184 [.agg ⟨i64s x⟩, .pointer (some ⟨bt, 0, none⟩)] w (.bool (badS b x)) := by
  obtain ⟨x0, x1, x2, rfl⟩ := len3 hx
  refine Tri.enter (bx := []) (hp := []) Tryz.func184 rfl (by kernel_rfl) rfl (Own.nil w) ?_
  refine At.run 100 true [] [] rfl trivial ?_
  refine At.step [] rfl rfl rfl rfl rfl trivial (OpOk.box rfl rfl rfl fun bq hbq => ?_)
  have hld : ∀ {bx : Bx} {hp : List Seg}, RdW ⟨w, kys [] []⟩ bx hp bt 0 [.func (.func 179) ⟨[]⟩ ⟨[.pointer (some ⟨bb, 0, none⟩)]⟩] := fun {_ _} => RdW.blkB (by simp [kys]) ht (fun j u hu => by rw [Nat.zero_add]; exact hu)
  have hcall : ∀ {bx : Bx} {hp : List Seg}, CallOb Tryz.prog ⟨w, kys [] []⟩ bx hp 179 (allArgs [] [.int .i64 x0, .int .i64 x1] [.pointer (some ⟨bb, 0, none⟩)]) (.bool (thereB b x0 x1)) := fun {_ _} w' hw' => Tryz.There_w b A x0 x1 bb w' hi (ho.ext hw'.ext (by simp [kys])) hr hr4 (by rw [hw'.ext.block _ (Array.getElem?_eq_some_iff.1 hb).1 (by simp [kys])]; exact hb)
  have e : badS b [x0, x1, x2] = (decide (x2 = 0) || !thereB b x0 x1) := rfl
  rw [e]
  by_cases h : x2 = 0
  · refine At.run 100 true [true] [hB 0] rfl oK ?_
    exact At.retK [] [] [] rfl rfl Tryz.func184 rfl trivial ⟨by simp [h, tupV], rfl, rfl⟩
  · refine At.run 100 true [false] [hB 0, hR [.func (.func 179) ⟨[]⟩ ⟨[.pointer (some ⟨bb, 0, none⟩)]⟩], hB 0, hB 0, hC (.bool (thereB b x0 x1))] rfl (by and_intros <;> first | exact hld | exact hcall | exact oK) ?_
    exact At.retK [] [] [] rfl rfl Tryz.func184 rfl trivial ⟨by simp [h, tupV], rfl, rfl⟩

theorem Tryz.badO_w (b : Bk) (A : BkA) (x : List Int) (hx : x.length = 6) (bb bt : Nat) (w : World) (hi : BkIn b) (ho : BkOk w b A) (hr : ris lt1 b.H = true) (hr4 : ris lt1 b.R = true) (hb : w.heap[bb]? = some (.cells (bkV b A).toArray 50 (0, 0)))
    (ht : w.heap[bt]? = some (.cells [Value.func (.func 179) ⟨[]⟩ ⟨[.pointer (some ⟨bb, 0, none⟩)]⟩].toArray 265 (0, 0))) :
    Fun Tryz.prog 185 [.agg ⟨i64s x⟩, .pointer (some ⟨bt, 0, none⟩)] w (.bool (badO b x)) := by
  obtain ⟨x0, x1, x2, x3, x4, x5, rfl⟩ := len6 hx
  refine Tri.enter (bx := []) (hp := []) Tryz.func185 rfl (by kernel_rfl) rfl (Own.nil w) ?_
  refine At.run 100 true [] [] rfl trivial ?_
  refine At.step [] rfl rfl rfl rfl rfl trivial (OpOk.box rfl rfl rfl fun bq hbq => ?_)
  have hld : ∀ {bx : Bx} {hp : List Seg}, RdW ⟨w, kys [] []⟩ bx hp bt 0 [.func (.func 179) ⟨[]⟩ ⟨[.pointer (some ⟨bb, 0, none⟩)]⟩] := fun {_ _} => RdW.blkB (by simp [kys]) ht (fun j u hu => by rw [Nat.zero_add]; exact hu)
  have hcall : ∀ {bx : Bx} {hp : List Seg}, CallOb Tryz.prog ⟨w, kys [] []⟩ bx hp 179 (allArgs [] [.int .i64 x1, .int .i64 x2] [.pointer (some ⟨bb, 0, none⟩)]) (.bool (thereB b x1 x2)) := fun {_ _} w' hw' => Tryz.There_w b A x1 x2 bb w' hi (ho.ext hw'.ext (by simp [kys])) hr hr4 (by rw [hw'.ext.block _ (Array.getElem?_eq_some_iff.1 hb).1 (by simp [kys])]; exact hb)
  have e : badO b [x0, x1, x2, x3, x4, x5] = (decide (x4 < 1) || (decide (x5 < 1) || (decide (x3 < 0) || (decide (1 < x3) || !thereB b x1 x2)))) := rfl
  rw [e]
  by_cases g1 : x4 < 1
  · refine At.run 100 true [true, true, true, true] [hB 0] rfl oK ?_
    exact At.retK [] [] [] rfl rfl Tryz.func185 rfl trivial ⟨by simp [g1, tupV], rfl, rfl⟩
  · by_cases g2 : x5 < 1
    · refine At.run 100 true [false, true, true, true] [hB 0, hB 0] rfl oK ?_
      exact At.retK [] [] [] rfl rfl Tryz.func185 rfl trivial ⟨by simp [g2, tupV], rfl, rfl⟩
    · by_cases g3 : x3 < 0
      · refine At.run 100 true [false, false, true, true] [hB 0, hB 0, hB 0] rfl oK ?_
        exact At.retK [] [] [] rfl rfl Tryz.func185 rfl trivial ⟨by simp [g3, tupV], rfl, rfl⟩
      · by_cases g4 : 1 < x3
        · refine At.run 100 true [false, false, false, true] [hB 0, hB 0, hB 0, hB 0] rfl oK ?_
          exact At.retK [] [] [] rfl rfl Tryz.func185 rfl trivial ⟨by simp [g4, tupV], rfl, rfl⟩
        · refine At.run 100 true [false, false, false, false] [hB 0, hB 0, hB 0, hB 0, hR [.func (.func 179) ⟨[]⟩ ⟨[.pointer (some ⟨bb, 0, none⟩)]⟩], hB 0, hB 0, hC (.bool (thereB b x1 x2))] rfl (by and_intros <;> first | exact hld | exact hcall | exact oK) ?_
          exact At.retK [] [] [] rfl rfl Tryz.func185 rfl trivial ⟨by simp [g1, g2, g3, g4, tupV], rfl, rfl⟩
theorem listsB_ris {b : Bk} (h : listsB b = true) : ris lt1 b.H = true ∧ ris lt1 b.O = true ∧ ris lt1 b.R = true ∧ ris lt2 b.S = true := by
  simp only [listsB, Bool.and_eq_true, decide_eq_true_eq] at h
  exact ⟨h.2.2.2.1, h.2.2.2.2.1, h.2.2.2.2.2.1, h.2.2.2.2.2.2⟩

theorem Tryz.May_w (b : Bk) (A : BkA) (w : World) (hi : BkIn b) (ho : BkOk w b A) : Fun Tryz.prog 92 [.agg ⟨bkV b A⟩] w (.bool (mayB b)) := by
  refine Tri.enter (bx := []) (hp := []) Tryz.func92 rfl (by kernel_rfl) rfl (Own.nil w) ?_
  refine At.run 100 true [] [] rfl trivial ?_
  refine At.step [] rfl rfl rfl rfl rfl trivial (OpOk.box rfl rfl rfl fun bq hbq => ?_)
  have hL : ∀ {bx : Bx} {hp : List Seg}, CallOb Tryz.prog ⟨w, kys [] []⟩ bx hp 178 [.agg ⟨bkV b A⟩] (.bool (listsB b)) := fun {_ _} w' hw' => Tryz.lists_w b A w' hi (ho.ext hw'.ext (by simp [kys]))
  unfold mayB
  cases eL : listsB b with
  | false =>
    rw [eL] at hL
    refine At.run 100 true [true, true, true] [hB 0, hC (.bool false)] rfl (by and_intros <;> first | exact hL | exact oK) ?_
    exact At.retK [] [] [] rfl rfl Tryz.func92 rfl trivial ⟨rfl, rfl, rfl⟩
  | true =>
    rw [eL] at hL
    obtain ⟨hr, -, hr4, -⟩ := listsB_ris eL
    by_cases g1 : b.c < 0
    · refine At.run 100 true [false, true, true] [hB 0, hC (.bool true), hB 0] rfl (by and_intros <;> first | exact hL | exact oK) ?_
      exact At.retK [] [] [] rfl rfl Tryz.func92 rfl trivial ⟨by rw [show decide (0 ≤ b.c ∧ b.c ≤ 1099511627776) = false from decide_eq_false (by omega)]; rfl, rfl, rfl⟩
    by_cases g2 : 1099511627776 < b.c
    · refine At.run 100 true [false, false, true] [hB 0, hC (.bool true), hB 0, hB 0] rfl (by and_intros <;> first | exact hL | exact oK) ?_
      exact At.retK [] [] [] rfl rfl Tryz.func92 rfl trivial ⟨by rw [show decide (0 ≤ b.c ∧ b.c ≤ 1099511627776) = false from decide_eq_false (by omega)]; rfl, rfl, rfl⟩
    rw [show decide (0 ≤ b.c ∧ b.c ≤ 1099511627776) = true from decide_eq_true (by omega)]
    refine At.run 100 true [false, false, false] [hB 0, hC (.bool true), hB 0, hB 0] rfl (by and_intros <;> first | exact hL | exact oK) ?_
    refine At.step [] rfl rfl rfl rfl rfl trivial (OpOk.alloc (cs := [.nilFunc]) rfl (by kernel_rfl) fun bt hbt => ?_)
    refine At.run 100 true [] [hB 0] rfl oK ?_
    have hb : ∀ {hp : List Seg} {w' : World}, WOk ⟨w, kys [] []⟩ [(bt, 265, [Value.func (.func 179) ⟨[]⟩ ⟨[.pointer (some ⟨bq, 0, none⟩)]⟩]), (bq, 50, bkV b A)] hp w' →
        w'.heap[bq]? = some (.cells (bkV b A).toArray 50 (0, 0)) ∧ w'.heap[bt]? = some (.cells [Value.func (.func 179) ⟨[]⟩ ⟨[.pointer (some ⟨bq, 0, none⟩)]⟩].toArray 265 (0, 0)) :=
      fun {hp w'} hw' => ⟨hw'.bx (bq, _, bkV b A) (by simp), hw'.bx (bt, _, _) (List.mem_cons_self ..)⟩
    have up : ∀ {w1 w2 : World} {k t : Nat} {cs : List Value}, Ext [] w1 w2 → w1.heap[k]? = some (.cells cs.toArray t (0, 0)) → w2.heap[k]? = some (.cells cs.toArray t (0, 0)) := fun {w1 w2 k t cs} he hk => by
      rw [he.block _ (Array.getElem?_eq_some_iff.1 hk).1 (by simp)]; exact hk
    have c1 : ∀ {bx : Bx} {hp : List Seg}, CallOb Tryz.prog ⟨w, kys [] []⟩ bx hp 186 [.slice A.a1 b.H.length A.c1, .func (.func 182) ⟨[]⟩ ⟨[]⟩] (.bool (b.H.any badH)) := fun {_ _} w' hw' =>
      Tryz.containsHolder_w b.H A.a1 A.c1 _ [] badH w' hi.r1.len hi.l1 (ho.ext hw'.ext (by simp [kys])).h1 (fun x hx w2 he => Tryz.badH_w x (hi.r1.len x hx) w2)
    have c4 : ∀ {bx : Bx} {hp : List Seg}, CallOb Tryz.prog ⟨w, kys [] []⟩ bx hp 187 [.slice A.a4 b.R.length A.c4, .func (.func 183) ⟨[]⟩ ⟨[]⟩] (.bool (b.R.any badR)) := fun {_ _} w' hw' =>
      Tryz.containsRate_w b.R A.a4 A.c4 _ [] badR w' hi.r4.len hi.l4 (ho.ext hw'.ext (by simp [kys])).h4 (fun x hx w2 he => Tryz.badR_w x (hi.r4.len x hx) w2)
    have c2 : ∀ {hp : List Seg}, CallOb Tryz.prog ⟨w, kys [] []⟩ [(bt, 265, [Value.func (.func 179) ⟨[]⟩ ⟨[.pointer (some ⟨bq, 0, none⟩)]⟩]), (bq, 50, bkV b A)] hp 188 [.slice A.a2 b.S.length A.c2, .func (.func 184) ⟨[]⟩ ⟨[.pointer (some ⟨bt, 0, none⟩)]⟩] (.bool (b.S.any (badS b))) := fun {_} w' hw' =>
      Tryz.containsStake_w b.S A.a2 A.c2 _ _ (badS b) w' hi.r2.len hi.l2 (ho.ext hw'.ext (by simp [kys])).h2 (fun x hx w2 he => Tryz.badS_w b A x (hi.r2.len x hx) bq bt w2 hi (ho.ext (hw'.ext.trans he) (by simp [kys])) hr hr4 (up he (hb hw').1) (up he (hb hw').2))
    have c3 : ∀ {hp : List Seg}, CallOb Tryz.prog ⟨w, kys [] []⟩ [(bt, 265, [Value.func (.func 179) ⟨[]⟩ ⟨[.pointer (some ⟨bq, 0, none⟩)]⟩]), (bq, 50, bkV b A)] hp 189 [.slice A.a3 b.O.length A.c3, .func (.func 185) ⟨[]⟩ ⟨[.pointer (some ⟨bt, 0, none⟩)]⟩] (.bool (b.O.any (badO b))) := fun {_} w' hw' =>
      Tryz.containsOpen_w b.O A.a3 A.c3 _ _ (badO b) w' hi.r3.len hi.l3 (ho.ext hw'.ext (by simp [kys])).h3 (fun x hx w2 he => Tryz.badO_w b A x (hi.r3.len x hx) bq bt w2 hi (ho.ext (hw'.ext.trans he) (by simp [kys])) hr hr4 (up he (hb hw').1) (up he (hb hw').2))
    cases e1 : b.H.any badH with
    | true =>
      rw [e1] at c1
      refine At.run 100 true [false, false, false] [hB 1, hC (.bool true)] rfl (by and_intros <;> first | exact c1 | exact oK) ?_
      exact At.retK [] [] [] rfl rfl Tryz.func92 rfl trivial ⟨rfl, rfl, rfl⟩
    | false =>
      rw [e1] at c1
      cases e4 : b.R.any badR with
      | true =>
        rw [e4] at c4
        refine At.run 100 true [true, false, false] [hB 1, hC (.bool false), hB 1, hC (.bool true)] rfl (by and_intros <;> first | exact c1 | exact c4 | exact oK) ?_
        exact At.retK [] [] [] rfl rfl Tryz.func92 rfl trivial ⟨rfl, rfl, rfl⟩
      | false =>
        rw [e4] at c4
        cases e2 : b.S.any (badS b) with
        | true =>
          rw [e2] at c2
          refine At.run 100 true [true, true, false] [hB 1, hC (.bool false), hB 1, hC (.bool false), hB 1, hC (.bool true)] rfl (by and_intros <;> first | exact c1 | exact c4 | exact c2 | exact oK) ?_
          exact At.retK [] [] [] rfl rfl Tryz.func92 rfl trivial ⟨rfl, rfl, rfl⟩
        | false =>
          rw [e2] at c2
          refine At.run 100 true [true, true, true] [hB 1, hC (.bool false), hB 1, hC (.bool false), hB 1, hC (.bool false), hB 1, hC (.bool (b.O.any (badO b)))] rfl (by and_intros <;> first | exact c1 | exact c4 | exact c2 | exact c3 | exact oK) ?_
          exact At.retK [] [] [] rfl rfl Tryz.func92 rfl trivial ⟨rfl, rfl, rfl⟩
end Go.Proofs

/-
  Walks of layer 12: the reference's books.
-/
namespace Go.Proofs
open Go Go.Eng
set_option maxRecDepth 100000
set_option maxHeartbeats 4000000
attribute [local irreducible] Tri

theorem RdW.at {S : Base} {bx : Bx} {hp : List Seg} {g off : Nat} {cs : List Value} {u : Value} (h : RdW S bx hp g off cs) (j : Nat) (hu : cs[j]? = some u) : RdW S bx hp g (off + j) [u] := fun w hw k v hv => by
  match k, hv with
  | 0, hv => simp at hv; subst hv; exact h w hw j _ hu
theorem At.cutB {ι : Type} {C : Ctx} {x : Eng.Loc} {df : List Deferred} {env : Env} {bx : Bx} {hp : List Seg} {S : Base} (y : Eng.Loc) (e : ι → Env) (b : ι → Bx)
    (hs : ∀ i, At C y df (e i) (b i) hp S) (hk : (∀ i, At C y df (e i) (b i) hp S) → At C x df env bx hp S) : At C x df env bx hp S := hk hs
theorem AtD.fork3 {C : Ctx} {p : List Nat} {df : List Deferred} {fuel : Nat} {listed : Array Bool} {env : Env} {bx : Bx} {hp : List Seg} {S : Base} (i j k : Nat) (hr : Region.ready .any (opsOf C.body p) listed = [i, j, k])
    (h1 : StepD C p df fuel listed env bx hp S i) (h2 : StepD C p df fuel listed env bx hp S j) (h3 : StepD C p df fuel listed env bx hp S k) : AtD C p df (fuel + 1) listed env bx hp S :=
  AtD.fork [i, j, k] hr (by simp) (fun l hl => by simp at hl; rcases hl with rfl | rfl | rfl <;> assumption)

theorem Tryz.rRise_w (b : Bk) (A : BkA) (w : World) (hi : BkIn b) (ho : BkOk w b A) : Fun Tryz.prog 192 [.agg ⟨bkV b A⟩] w (.bool (ris lt1 b.H && (ris lt1 b.O && (ris lt1 b.R && ris lt2 b.S)))) := by
  refine Tri.enter (bx := []) (hp := []) Tryz.func192 rfl (by kernel_rfl) rfl (Own.nil w) ?_
  obtain ⟨a1, a2, a3, a4, c1, c2, c3, c4⟩ := A
  have h1 : SlOk w a1 (b.H.flatMap i64s) := ho.h1
  have h2 : SlOk w a2 (b.S.flatMap i64s) := ho.h2
  have h3 : SlOk w a3 (b.O.flatMap i64s) := ho.h3
  have h4 : SlOk w a4 (b.R.flatMap i64s) := ho.h4
  have l1 := hi.l1
  have l2 := hi.l2
  have l3 := hi.l3
  have l4 := hi.l4
  refine At.run 100 true [] [] rfl trivial ?_
  refine At.step [] rfl rfl rfl rfl rfl trivial (OpOk.box rfl rfl rfl fun bq hbq => ?_)
  refine At.run 100 true [] [] rfl trivial ?_
  refine At.loop (n := b.H.length - 1) (env0 := [(1, .pointer (some ⟨bq, 0, none⟩)), (3, .int .i64 1)]) (fun m env bx hp => ∃ i : Nat, m = b.H.length - i ∧ 1 ≤ i ∧ i ≤ b.H.length + 1 ∧ (∀ t x y, t + 1 < i → b.H[t]? = some x → b.H[t + 1]? = some y → lt1 x y = true) ∧
    env = [(1, .pointer (some ⟨bq, 0, none⟩)), (3, .int .i64 i)] ∧ bx = [(bq, 50, bkV b ⟨a1, a2, a3, a4, c1, c2, c3, c4⟩)] ∧ hp = []) rfl ⟨1, rfl, by omega, by omega, fun t x y h => by omega, rfl, rfl, rfl⟩ ⟨rfl, rfl, trivial⟩ ?_
  rintro m env bx hp ⟨i, rfl, h1i, hi2, hall, rfl, rfl, rfl⟩ ih
  by_cases hlt : i < b.H.length
  · obtain ⟨x, hx⟩ : ∃ x, b.H[i - 1]? = some x := ⟨_, List.getElem?_eq_getElem (by omega)⟩
    obtain ⟨y, hy⟩ : ∃ y, b.H[i]? = some y := ⟨_, List.getElem?_eq_getElem hlt⟩
    have hmx := List.mem_of_getElem? hx
    have hmy := List.mem_of_getElem? hy
    obtain ⟨g, o, rfl, hc⟩ := h1.get (slNe (by decide) hi.r1.len hx)
    have r1 : ∀ {bx : Bx} {hp : List Seg}, RdW ⟨w, kys [] []⟩ bx hp g (o + ((i : Int) - 1).toNat * 4) (i64s x) := fun {_ _} => RdW.rec hi.r1.len hc (by simp [kys]) hx (by omega)
    have r2 : ∀ {bx : Bx} {hp : List Seg}, RdW ⟨w, kys [] []⟩ bx hp g (o + (i : Int).toNat * 4) (i64s y) := fun {_ _} => RdW.rec hi.r1.len hc (by simp [kys]) hy (by omega)
    have hfalse := fun h => ris_false (lt := lt1) hx (by rw [show i - 1 + 1 = i by omega]; exact hy) h
    have hnext : lt1 x y = true → ∀ t u v, t + 1 < i + 1 → b.H[t]? = some u → b.H[t + 1]? = some v → lt1 u v = true := by
      intro hxy t u v ht hu hv
      by_cases hti : t = i - 1
      · subst hti
        rw [hx] at hu; cases hu
        rw [show i - 1 + 1 = i by omega, hy] at hv; cases hv; exact hxy
      · exact hall t u v (by omega) hu hv
    obtain ⟨x0, x1, x2, x3, rfl⟩ := len4 (hi.r1.len x hmx)
    obtain ⟨y0, y1, y2, y3, rfl⟩ := len4 (hi.r1.len y hmy)
    refine At.run 100 true [true] [hB 0] rfl oK ?_
    refine At.quiet true [] [hB 0, hR [.int .i64 x0], hB 0, hR [.int .i64 y0]] ⟨by kernel_rfl, by kernel_rfl, rfl, rfl, rfl⟩ rfl rfl rfl (by and_intros <;> first | exact RdW.at r1 0 rfl | exact RdW.at r2 0 rfl | exact oK) ?_
    by_cases hcmp : x0 < y0
    · have hl2 : lt1 [x0, x1, x2, x3] [y0, y1, y2, y3] = true := decide_eq_true hcmp
      refine At.run 100 true [false] [] rfl (by and_intros <;> first | exact decide_eq_false (by omega) | exact oK) ?_
      refine At.weak (ih (b.H.length - (i + 1)) _ _ _ (by omega) ⟨i + 1, rfl, by omega, by omega, hnext hl2, rfl, rfl, rfl⟩) ⟨rfl, some_int_eq (by omega), trivial⟩
    · have hl2 : lt1 [x0, x1, x2, x3] [y0, y1, y2, y3] = false := decide_eq_false hcmp
      refine At.run 100 true [true] [] rfl (by and_intros <;> first | exact decide_eq_true (by omega) | exact oK) ?_
      exact At.retK [] [] [] rfl rfl Tryz.func192 rfl trivial ⟨by rw [hfalse hl2]; simp [tupV], rfl, rfl⟩
  · refine At.run 100 true [false] [hB 0] rfl oK ?_
    have hrH := ris_ok hall (by omega)
    clear ih hall
    refine At.loop (n := b.O.length - 1) (env0 := [(1, .pointer (some ⟨bq, 0, none⟩)), (4, .int .i64 1)]) (fun m env bx hp => ∃ i : Nat, m = b.O.length - i ∧ 1 ≤ i ∧ i ≤ b.O.length + 1 ∧ (∀ t x y, t + 1 < i → b.O[t]? = some x → b.O[t + 1]? = some y → lt1 x y = true) ∧
      env = [(1, .pointer (some ⟨bq, 0, none⟩)), (4, .int .i64 i)] ∧ bx = [(bq, 50, bkV b ⟨a1, a2, a3, a4, c1, c2, c3, c4⟩)] ∧ hp = []) rfl ⟨1, rfl, by omega, by omega, fun t x y h => by omega, rfl, rfl, rfl⟩ ⟨rfl, rfl, trivial⟩ ?_
    rintro m env bx hp ⟨i, rfl, h1i, hi2, hall, rfl, rfl, rfl⟩ ih
    by_cases hlt : i < b.O.length
    · obtain ⟨x, hx⟩ : ∃ x, b.O[i - 1]? = some x := ⟨_, List.getElem?_eq_getElem (by omega)⟩
      obtain ⟨y, hy⟩ : ∃ y, b.O[i]? = some y := ⟨_, List.getElem?_eq_getElem hlt⟩
      have hmx := List.mem_of_getElem? hx
      have hmy := List.mem_of_getElem? hy
      obtain ⟨g, o, rfl, hc⟩ := h3.get (slNe (by decide) hi.r3.len hx)
      have r1 : ∀ {bx : Bx} {hp : List Seg}, RdW ⟨w, kys [] []⟩ bx hp g (o + ((i : Int) - 1).toNat * 6) (i64s x) := fun {_ _} => RdW.rec hi.r3.len hc (by simp [kys]) hx (by omega)
      have r2 : ∀ {bx : Bx} {hp : List Seg}, RdW ⟨w, kys [] []⟩ bx hp g (o + (i : Int).toNat * 6) (i64s y) := fun {_ _} => RdW.rec hi.r3.len hc (by simp [kys]) hy (by omega)
      have hfalse := fun h => ris_false (lt := lt1) hx (by rw [show i - 1 + 1 = i by omega]; exact hy) h
      have hnext : lt1 x y = true → ∀ t u v, t + 1 < i + 1 → b.O[t]? = some u → b.O[t + 1]? = some v → lt1 u v = true := by
        intro hxy t u v ht hu hv
        by_cases hti : t = i - 1
        · subst hti
          rw [hx] at hu; cases hu
          rw [show i - 1 + 1 = i by omega, hy] at hv; cases hv; exact hxy
        · exact hall t u v (by omega) hu hv
      obtain ⟨x0, x1, x2, x3, x4, x5, rfl⟩ := len6 (hi.r3.len x hmx)
      obtain ⟨y0, y1, y2, y3, y4, y5, rfl⟩ := len6 (hi.r3.len y hmy)
      refine At.run 100 true [true] [hB 0] rfl oK ?_
      refine At.quiet true [] [hB 0, hR [.int .i64 x0], hB 0, hR [.int .i64 y0]] ⟨by kernel_rfl, by kernel_rfl, rfl, rfl, rfl⟩ rfl rfl rfl (by and_intros <;> first | exact RdW.at r1 0 rfl | exact RdW.at r2 0 rfl | exact oK) ?_
      by_cases hcmp : x0 < y0
      · have hl2 : lt1 [x0, x1, x2, x3, x4, x5] [y0, y1, y2, y3, y4, y5] = true := decide_eq_true hcmp
        refine At.run 100 true [false] [] rfl (by and_intros <;> first | exact decide_eq_false (by omega) | exact oK) ?_
        refine At.weak (ih (b.O.length - (i + 1)) _ _ _ (by omega) ⟨i + 1, rfl, by omega, by omega, hnext hl2, rfl, rfl, rfl⟩) ⟨rfl, some_int_eq (by omega), trivial⟩
      · have hl2 : lt1 [x0, x1, x2, x3, x4, x5] [y0, y1, y2, y3, y4, y5] = false := decide_eq_false hcmp
        refine At.run 100 true [true] [] rfl (by and_intros <;> first | exact decide_eq_true (by omega) | exact oK) ?_
        exact At.retK [] [] [] rfl rfl Tryz.func192 rfl trivial ⟨by rw [hfalse hl2]; simp [tupV], rfl, rfl⟩
    · refine At.run 100 true [false] [hB 0] rfl oK ?_
      have hrO := ris_ok hall (by omega)
      clear ih hall
      refine At.loop (n := b.R.length - 1) (env0 := [(1, .pointer (some ⟨bq, 0, none⟩)), (5, .int .i64 1)]) (fun m env bx hp => ∃ i : Nat, m = b.R.length - i ∧ 1 ≤ i ∧ i ≤ b.R.length + 1 ∧ (∀ t x y, t + 1 < i → b.R[t]? = some x → b.R[t + 1]? = some y → lt1 x y = true) ∧
        env = [(1, .pointer (some ⟨bq, 0, none⟩)), (5, .int .i64 i)] ∧ bx = [(bq, 50, bkV b ⟨a1, a2, a3, a4, c1, c2, c3, c4⟩)] ∧ hp = []) rfl ⟨1, rfl, by omega, by omega, fun t x y h => by omega, rfl, rfl, rfl⟩ ⟨rfl, rfl, trivial⟩ ?_
      rintro m env bx hp ⟨i, rfl, h1i, hi2, hall, rfl, rfl, rfl⟩ ih
      by_cases hlt : i < b.R.length
      · obtain ⟨x, hx⟩ : ∃ x, b.R[i - 1]? = some x := ⟨_, List.getElem?_eq_getElem (by omega)⟩
        obtain ⟨y, hy⟩ : ∃ y, b.R[i]? = some y := ⟨_, List.getElem?_eq_getElem hlt⟩
        have hmx := List.mem_of_getElem? hx
        have hmy := List.mem_of_getElem? hy
        obtain ⟨g, o, rfl, hc⟩ := h4.get (slNe (by decide) hi.r4.len hx)
        have r1 : ∀ {bx : Bx} {hp : List Seg}, RdW ⟨w, kys [] []⟩ bx hp g (o + ((i : Int) - 1).toNat * 2) (i64s x) := fun {_ _} => RdW.rec hi.r4.len hc (by simp [kys]) hx (by omega)
        have r2 : ∀ {bx : Bx} {hp : List Seg}, RdW ⟨w, kys [] []⟩ bx hp g (o + (i : Int).toNat * 2) (i64s y) := fun {_ _} => RdW.rec hi.r4.len hc (by simp [kys]) hy (by omega)
        have hfalse := fun h => ris_false (lt := lt1) hx (by rw [show i - 1 + 1 = i by omega]; exact hy) h
        have hnext : lt1 x y = true → ∀ t u v, t + 1 < i + 1 → b.R[t]? = some u → b.R[t + 1]? = some v → lt1 u v = true := by
          intro hxy t u v ht hu hv
          by_cases hti : t = i - 1
          · subst hti
            rw [hx] at hu; cases hu
            rw [show i - 1 + 1 = i by omega, hy] at hv; cases hv; exact hxy
          · exact hall t u v (by omega) hu hv
        obtain ⟨x0, x1, rfl⟩ := len2 (hi.r4.len x hmx)
        obtain ⟨y0, y1, rfl⟩ := len2 (hi.r4.len y hmy)
        refine At.run 100 true [true] [hB 0] rfl oK ?_
        refine At.quiet true [] [hB 0, hR [.int .i64 x0], hB 0, hR [.int .i64 y0]] ⟨by kernel_rfl, by kernel_rfl, rfl, rfl, rfl⟩ rfl rfl rfl (by and_intros <;> first | exact RdW.at r1 0 rfl | exact RdW.at r2 0 rfl | exact oK) ?_
        by_cases hcmp : x0 < y0
        · have hl2 : lt1 [x0, x1] [y0, y1] = true := decide_eq_true hcmp
          refine At.run 100 true [false] [] rfl (by and_intros <;> first | exact decide_eq_false (by omega) | exact oK) ?_
          refine At.weak (ih (b.R.length - (i + 1)) _ _ _ (by omega) ⟨i + 1, rfl, by omega, by omega, hnext hl2, rfl, rfl, rfl⟩) ⟨rfl, some_int_eq (by omega), trivial⟩
        · have hl2 : lt1 [x0, x1] [y0, y1] = false := decide_eq_false hcmp
          refine At.run 100 true [true] [] rfl (by and_intros <;> first | exact decide_eq_true (by omega) | exact oK) ?_
          exact At.retK [] [] [] rfl rfl Tryz.func192 rfl trivial ⟨by rw [hfalse hl2]; simp [tupV], rfl, rfl⟩
      · refine At.run 100 true [false] [hB 0] rfl oK ?_
        have hrR := ris_ok hall (by omega)
        clear ih hall
        refine At.loop (n := b.S.length - 1) (env0 := [(1, .pointer (some ⟨bq, 0, none⟩)), (6, .int .i64 1)]) (fun m env bx hp => ∃ i : Nat, m = b.S.length - i ∧ 1 ≤ i ∧ i ≤ b.S.length + 1 ∧ (∀ t x y, t + 1 < i → b.S[t]? = some x → b.S[t + 1]? = some y → lt2 x y = true) ∧
          env = [(1, .pointer (some ⟨bq, 0, none⟩)), (6, .int .i64 i)] ∧ bx = [(bq, 50, bkV b ⟨a1, a2, a3, a4, c1, c2, c3, c4⟩)] ∧ hp = []) rfl ⟨1, rfl, by omega, by omega, fun t x y h => by omega, rfl, rfl, rfl⟩ ⟨rfl, rfl, trivial⟩ ?_
        rintro m env bx hp ⟨i, rfl, h1i, hi2, hall, rfl, rfl, rfl⟩ ih
        by_cases hlt : i < b.S.length
        · obtain ⟨x, hx⟩ : ∃ x, b.S[i - 1]? = some x := ⟨_, List.getElem?_eq_getElem (by omega)⟩
          obtain ⟨y, hy⟩ : ∃ y, b.S[i]? = some y := ⟨_, List.getElem?_eq_getElem hlt⟩
          have hmx := List.mem_of_getElem? hx
          have hmy := List.mem_of_getElem? hy
          obtain ⟨g, o, rfl, hc⟩ := h2.get (slNe (by decide) hi.r2.len hx)
          have r1 : ∀ {bx : Bx} {hp : List Seg}, RdW ⟨w, kys [] []⟩ bx hp g (o + ((i : Int) - 1).toNat * 3) (i64s x) := fun {_ _} => RdW.rec hi.r2.len hc (by simp [kys]) hx (by omega)
          have r2 : ∀ {bx : Bx} {hp : List Seg}, RdW ⟨w, kys [] []⟩ bx hp g (o + (i : Int).toNat * 3) (i64s y) := fun {_ _} => RdW.rec hi.r2.len hc (by simp [kys]) hy (by omega)
          have hfalse := fun h => ris_false (lt := lt2) hx (by rw [show i - 1 + 1 = i by omega]; exact hy) h
          have hnext : lt2 x y = true → ∀ t u v, t + 1 < i + 1 → b.S[t]? = some u → b.S[t + 1]? = some v → lt2 u v = true := by
            intro hxy t u v ht hu hv
            by_cases hti : t = i - 1
            · subst hti
              rw [hx] at hu; cases hu
              rw [show i - 1 + 1 = i by omega, hy] at hv; cases hv; exact hxy
            · exact hall t u v (by omega) hu hv
          obtain ⟨x0, x1, x2, rfl⟩ := len3 (hi.r2.len x hmx)
          obtain ⟨y0, y1, y2, rfl⟩ := len3 (hi.r2.len y hmy)
          refine At.run 100 true [true] [hB 0] rfl oK ?_
          refine At.cutB (ι := Nat × Nat) ⟨1, [0, 0, 0, 1, 0, 0, 1, 0, 1, 1, 1, 1], []⟩ (fun ⟨b7, b8⟩ => [(1, .pointer (some ⟨bq, 0, none⟩)), (6, .int .i64 i), (7, .pointer (some ⟨b7, 0, none⟩)), (8, .pointer (some ⟨b8, 0, none⟩))]) (fun ⟨b7, b8⟩ => [(b7, 105, [.int .i64 x0, .int .i64 x1, .int .i64 x2]), (b8, 105, [.int .i64 y0, .int .i64 y1, .int .i64 y2]), (bq, 50, bkV b ⟨a1, some ⟨g, o, none⟩, a3, a4, c1, c2, c3, c4⟩)]) ?_ (fun hs => ?_)
          · rintro ⟨b7, b8⟩
            by_cases g1 : y0 < x0
            · have hl2 : lt2 [x0, x1, x2] [y0, y1, y2] = false := decide_eq_false (by show ¬ (x0 < y0 ∨ x0 = y0 ∧ x1 < y1); omega)
              refine At.run 100 true [true, true] [hB 0, hB 1] rfl oK ?_
              exact At.retK [] [] [] rfl rfl Tryz.func192 rfl trivial ⟨by rw [hfalse hl2]; simp [tupV], rfl, rfl⟩
            · by_cases g2 : x0 = y0
              · by_cases g3 : y1 ≤ x1
                · have hl2 : lt2 [x0, x1, x2] [y0, y1, y2] = false := decide_eq_false (by show ¬ (x0 < y0 ∨ x0 = y0 ∧ x1 < y1); omega)
                  refine At.run 100 true [false, true, true] [hB 0, hB 1, hB 0, hB 1, hB 0, hB 1] rfl oK ?_
                  exact At.retK [] [] [] rfl rfl Tryz.func192 rfl trivial ⟨by rw [hfalse hl2]; simp [tupV], rfl, rfl⟩
                · have hl2 : lt2 [x0, x1, x2] [y0, y1, y2] = true := decide_eq_true (by show x0 < y0 ∨ x0 = y0 ∧ x1 < y1; omega)
                  refine At.run 100 true [false, true, false] [hB 0, hB 1, hB 0, hB 1, hB 0, hB 1] rfl oK ?_
                  refine At.keep [false, false, true] [] rfl ?_
                  refine At.weak (ih (b.S.length - (i + 1)) _ _ _ (by omega) ⟨i + 1, rfl, by omega, by omega, hnext hl2, rfl, rfl, rfl⟩) ⟨rfl, some_int_eq (by omega), trivial⟩
              · have hl2 : lt2 [x0, x1, x2] [y0, y1, y2] = true := decide_eq_true (by show x0 < y0 ∨ x0 = y0 ∧ x1 < y1; omega)
                refine At.run 100 true [false, false, false] [hB 0, hB 1, hB 0, hB 1] rfl oK ?_
                refine At.keep [false, false, true] [] rfl ?_
                refine At.weak (ih (b.S.length - (i + 1)) _ _ _ (by omega) ⟨i + 1, rfl, by omega, by omega, hnext hl2, rfl, rfl, rfl⟩) ⟨rfl, some_int_eq (by omega), trivial⟩
          refine At.draw 15 rfl rfl rfl rfl ?_
          refine AtD.cut (ι := Nat × Nat) 0 #[true, true, true, true, true, true, true, true, true, true, true, true, true, true, true] (fun ⟨b7, b8⟩ => [(1, .pointer (some ⟨bq, 0, none⟩)), (6, .int .i64 i), (79, .pointer (some ⟨bq, 1, none⟩)), (80, .slice (some ⟨g, o, none⟩) b.S.length c2), (81, .int .i64 i), (82, .int .i64 ((i : Int) - 1)), (83, .pointer (some ⟨g, o + ((i : Int) - 1).toNat * 3, none⟩)), (84, .agg ⟨[.int .i64 x0, .int .i64 x1, .int .i64 x2]⟩), (85, .pointer (some ⟨bq, 1, none⟩)), (86, .slice (some ⟨g, o, none⟩) b.S.length c2), (87, .int .i64 i), (88, .pointer (some ⟨g, o + (i : Int).toNat * 3, none⟩)), (89, .agg ⟨[.int .i64 y0, .int .i64 y1, .int .i64 y2]⟩), (7, .pointer (some ⟨b7, 0, none⟩)), (8, .pointer (some ⟨b8, 0, none⟩))]) (fun ⟨b7, b8⟩ => [(b7, 105, [.int .i64 x0, .int .i64 x1, .int .i64 x2]), (b8, 105, [.int .i64 y0, .int .i64 y1, .int .i64 y2]), (bq, 50, bkV b ⟨a1, some ⟨g, o, none⟩, a3, a4, c1, c2, c3, c4⟩)]) ?_ (fun hd8 => ?_)
          · rintro ⟨b7, b8⟩
            refine AtD.done (by kernel_rfl) ?_
            exact At.weak (hs (b7, b8)) ⟨rfl, rfl, rfl, rfl, trivial⟩
          refine AtD.cut (ι := Nat × Nat) 1 #[true, true, true, true, true, true, true, true, true, true, true, true, true, true, false] (fun ⟨b7, b8⟩ => [(1, .pointer (some ⟨bq, 0, none⟩)), (6, .int .i64 i), (79, .pointer (some ⟨bq, 1, none⟩)), (80, .slice (some ⟨g, o, none⟩) b.S.length c2), (81, .int .i64 i), (82, .int .i64 ((i : Int) - 1)), (83, .pointer (some ⟨g, o + ((i : Int) - 1).toNat * 3, none⟩)), (84, .agg ⟨[.int .i64 x0, .int .i64 x1, .int .i64 x2]⟩), (85, .pointer (some ⟨bq, 1, none⟩)), (86, .slice (some ⟨g, o, none⟩) b.S.length c2), (87, .int .i64 i), (88, .pointer (some ⟨g, o + (i : Int).toNat * 3, none⟩)), (89, .agg ⟨[.int .i64 y0, .int .i64 y1, .int .i64 y2]⟩), (7, .pointer (some ⟨b7, 0, none⟩)), (8, .pointer (some ⟨b8, 0, none⟩))]) (fun ⟨b7, b8⟩ => [(b7, 105, [.int .i64 x0, .int .i64 x1, .int .i64 x2]), (b8, 105, i64s [0, 0, 0]), (bq, 50, bkV b ⟨a1, some ⟨g, o, none⟩, a3, a4, c1, c2, c3, c4⟩)]) ?_ (fun hd7 => ?_)
          · rintro ⟨b7, b8⟩
            refine AtD.fork1 14 (by kernel_rfl) ?_
            refine StepD.by0 [] rfl rfl rfl trivial (OpOk.one true [] [hB 1] rfl oK ?_)
            exact AtD.weak (hd8 (b7, b8)) ⟨rfl, rfl, rfl, rfl, rfl, rfl, rfl, rfl, rfl, rfl, rfl, rfl, rfl, rfl, rfl, trivial⟩
          refine AtD.cut (ι := Nat × Nat) 2 #[true, true, true, true, true, true, true, true, true, true, true, true, true, false, false] (fun ⟨b7, b8⟩ => [(1, .pointer (some ⟨bq, 0, none⟩)), (6, .int .i64 i), (79, .pointer (some ⟨bq, 1, none⟩)), (80, .slice (some ⟨g, o, none⟩) b.S.length c2), (81, .int .i64 i), (82, .int .i64 ((i : Int) - 1)), (83, .pointer (some ⟨g, o + ((i : Int) - 1).toNat * 3, none⟩)), (84, .agg ⟨[.int .i64 x0, .int .i64 x1, .int .i64 x2]⟩), (85, .pointer (some ⟨bq, 1, none⟩)), (86, .slice (some ⟨g, o, none⟩) b.S.length c2), (87, .int .i64 i), (88, .pointer (some ⟨g, o + (i : Int).toNat * 3, none⟩)), (89, .agg ⟨[.int .i64 y0, .int .i64 y1, .int .i64 y2]⟩), (7, .pointer (some ⟨b7, 0, none⟩)), (8, .pointer (some ⟨b8, 0, none⟩))]) (fun ⟨b7, b8⟩ => [(b7, 105, i64s [0, 0, 0]), (b8, 105, i64s [0, 0, 0]), (bq, 50, bkV b ⟨a1, some ⟨g, o, none⟩, a3, a4, c1, c2, c3, c4⟩)]) ?_ (fun hd6 => ?_)
          · rintro ⟨b7, b8⟩
            refine AtD.fork1 13 (by kernel_rfl) ?_
            refine StepD.by0 [] rfl rfl rfl trivial (OpOk.one true [] [hB 0] rfl oK ?_)
            exact AtD.weak (hd7 (b7, b8)) ⟨rfl, rfl, rfl, rfl, rfl, rfl, rfl, rfl, rfl, rfl, rfl, rfl, rfl, rfl, rfl, trivial⟩
          refine AtD.cut (ι := Nat) 3 #[true, true, true, true, true, true, true, true, true, true, true, true, false, false, false] (fun b7 => [(1, .pointer (some ⟨bq, 0, none⟩)), (6, .int .i64 i), (79, .pointer (some ⟨bq, 1, none⟩)), (80, .slice (some ⟨g, o, none⟩) b.S.length c2), (81, .int .i64 i), (82, .int .i64 ((i : Int) - 1)), (83, .pointer (some ⟨g, o + ((i : Int) - 1).toNat * 3, none⟩)), (84, .agg ⟨[.int .i64 x0, .int .i64 x1, .int .i64 x2]⟩), (85, .pointer (some ⟨bq, 1, none⟩)), (86, .slice (some ⟨g, o, none⟩) b.S.length c2), (87, .int .i64 i), (88, .pointer (some ⟨g, o + (i : Int).toNat * 3, none⟩)), (89, .agg ⟨[.int .i64 y0, .int .i64 y1, .int .i64 y2]⟩), (7, .pointer (some ⟨b7, 0, none⟩))]) (fun b7 => [(b7, 105, i64s [0, 0, 0]), (bq, 50, bkV b ⟨a1, some ⟨g, o, none⟩, a3, a4, c1, c2, c3, c4⟩)]) ?_ (fun hd5 => ?_)
          · rintro b7
            refine AtD.fork1 12 (by kernel_rfl) ?_
            refine StepD.by [] rfl rfl rfl rfl trivial (OpOk.alloc (cs := i64s [0, 0, 0]) rfl (by kernel_rfl) fun b8 hb8 => ?_)
            refine AtD.perm (List.Perm.swap _ _ _) ?_
            exact AtD.weak (hd6 (b7, b8)) ⟨rfl, rfl, rfl, rfl, rfl, rfl, rfl, rfl, rfl, rfl, rfl, rfl, rfl, rfl, rfl, trivial⟩
          refine AtD.cut (ι := Nat) 3 #[true, true, true, true, true, true, true, true, true, true, true, false, true, false, false] (fun b8 => [(1, .pointer (some ⟨bq, 0, none⟩)), (6, .int .i64 i), (79, .pointer (some ⟨bq, 1, none⟩)), (80, .slice (some ⟨g, o, none⟩) b.S.length c2), (81, .int .i64 i), (82, .int .i64 ((i : Int) - 1)), (83, .pointer (some ⟨g, o + ((i : Int) - 1).toNat * 3, none⟩)), (84, .agg ⟨[.int .i64 x0, .int .i64 x1, .int .i64 x2]⟩), (85, .pointer (some ⟨bq, 1, none⟩)), (86, .slice (some ⟨g, o, none⟩) b.S.length c2), (87, .int .i64 i), (88, .pointer (some ⟨g, o + (i : Int).toNat * 3, none⟩)), (89, .agg ⟨[.int .i64 y0, .int .i64 y1, .int .i64 y2]⟩), (8, .pointer (some ⟨b8, 0, none⟩))]) (fun b8 => [(b8, 105, i64s [0, 0, 0]), (bq, 50, bkV b ⟨a1, some ⟨g, o, none⟩, a3, a4, c1, c2, c3, c4⟩)]) ?_ (fun hd9 => ?_)
          · rintro b8
            refine AtD.fork1 11 (by kernel_rfl) ?_
            refine StepD.by [] rfl rfl rfl rfl trivial (OpOk.alloc (cs := i64s [0, 0, 0]) rfl (by kernel_rfl) fun b7 hb7 => ?_)
            exact AtD.weak (hd6 (b7, b8)) ⟨rfl, rfl, rfl, rfl, rfl, rfl, rfl, rfl, rfl, rfl, rfl, rfl, rfl, rfl, rfl, trivial⟩
          refine AtD.cut (ι := Unit) 4 #[true, true, true, true, true, true, true, true, true, true, true, false, false, false, false] (fun _ => [(1, .pointer (some ⟨bq, 0, none⟩)), (6, .int .i64 i), (79, .pointer (some ⟨bq, 1, none⟩)), (80, .slice (some ⟨g, o, none⟩) b.S.length c2), (81, .int .i64 i), (82, .int .i64 ((i : Int) - 1)), (83, .pointer (some ⟨g, o + ((i : Int) - 1).toNat * 3, none⟩)), (84, .agg ⟨[.int .i64 x0, .int .i64 x1, .int .i64 x2]⟩), (85, .pointer (some ⟨bq, 1, none⟩)), (86, .slice (some ⟨g, o, none⟩) b.S.length c2), (87, .int .i64 i), (88, .pointer (some ⟨g, o + (i : Int).toNat * 3, none⟩)), (89, .agg ⟨[.int .i64 y0, .int .i64 y1, .int .i64 y2]⟩)]) (fun _ => [(bq, 50, bkV b ⟨a1, some ⟨g, o, none⟩, a3, a4, c1, c2, c3, c4⟩)]) ?_ (fun hd4 => ?_)
          · rintro ⟨⟩
            refine AtD.fork [11, 12] (by kernel_rfl) (by simp) (fun i hi => ?_)
            simp only [List.mem_cons, List.not_mem_nil, or_false] at hi
            rcases hi with rfl | rfl
            · refine StepD.by [] rfl rfl rfl rfl trivial (OpOk.alloc (cs := i64s [0, 0, 0]) rfl (by kernel_rfl) fun b7 hb7 => ?_)
              exact AtD.weak (hd5 (b7)) ⟨rfl, rfl, rfl, rfl, rfl, rfl, rfl, rfl, rfl, rfl, rfl, rfl, rfl, rfl, trivial⟩
            · refine StepD.by [] rfl rfl rfl rfl trivial (OpOk.alloc (cs := i64s [0, 0, 0]) rfl (by kernel_rfl) fun b8 hb8 => ?_)
              exact AtD.weak (hd9 (b8)) ⟨rfl, rfl, rfl, rfl, rfl, rfl, rfl, rfl, rfl, rfl, rfl, rfl, rfl, rfl, trivial⟩
          refine AtD.cut (ι := Nat × Nat) 2 #[true, true, true, true, true, true, true, true, true, true, false, true, true, true, false] (fun ⟨b7, b8⟩ => [(1, .pointer (some ⟨bq, 0, none⟩)), (6, .int .i64 i), (79, .pointer (some ⟨bq, 1, none⟩)), (80, .slice (some ⟨g, o, none⟩) b.S.length c2), (81, .int .i64 i), (82, .int .i64 ((i : Int) - 1)), (83, .pointer (some ⟨g, o + ((i : Int) - 1).toNat * 3, none⟩)), (84, .agg ⟨[.int .i64 x0, .int .i64 x1, .int .i64 x2]⟩), (85, .pointer (some ⟨bq, 1, none⟩)), (86, .slice (some ⟨g, o, none⟩) b.S.length c2), (87, .int .i64 i), (88, .pointer (some ⟨g, o + (i : Int).toNat * 3, none⟩)), (7, .pointer (some ⟨b7, 0, none⟩)), (8, .pointer (some ⟨b8, 0, none⟩))]) (fun ⟨b7, b8⟩ => [(b7, 105, [.int .i64 x0, .int .i64 x1, .int .i64 x2]), (b8, 105, i64s [0, 0, 0]), (bq, 50, bkV b ⟨a1, some ⟨g, o, none⟩, a3, a4, c1, c2, c3, c4⟩)]) ?_ (fun hd12 => ?_)
          · rintro ⟨b7, b8⟩
            refine AtD.fork1 10 (by kernel_rfl) ?_
            refine StepD.by [] rfl rfl rfl rfl trivial (OpOk.one true [] [hR [.int .i64 y0, .int .i64 y1, .int .i64 y2]] rfl r2 ?_)
            exact AtD.weak (hd7 (b7, b8)) ⟨rfl, rfl, rfl, rfl, rfl, rfl, rfl, rfl, rfl, rfl, rfl, rfl, rfl, rfl, rfl, trivial⟩
          refine AtD.cut (ι := Nat × Nat) 3 #[true, true, true, true, true, true, true, true, true, true, false, true, true, false, false] (fun ⟨b7, b8⟩ => [(1, .pointer (some ⟨bq, 0, none⟩)), (6, .int .i64 i), (79, .pointer (some ⟨bq, 1, none⟩)), (80, .slice (some ⟨g, o, none⟩) b.S.length c2), (81, .int .i64 i), (82, .int .i64 ((i : Int) - 1)), (83, .pointer (some ⟨g, o + ((i : Int) - 1).toNat * 3, none⟩)), (84, .agg ⟨[.int .i64 x0, .int .i64 x1, .int .i64 x2]⟩), (85, .pointer (some ⟨bq, 1, none⟩)), (86, .slice (some ⟨g, o, none⟩) b.S.length c2), (87, .int .i64 i), (88, .pointer (some ⟨g, o + (i : Int).toNat * 3, none⟩)), (7, .pointer (some ⟨b7, 0, none⟩)), (8, .pointer (some ⟨b8, 0, none⟩))]) (fun ⟨b7, b8⟩ => [(b7, 105, i64s [0, 0, 0]), (b8, 105, i64s [0, 0, 0]), (bq, 50, bkV b ⟨a1, some ⟨g, o, none⟩, a3, a4, c1, c2, c3, c4⟩)]) ?_ (fun hd11 => ?_)
          · rintro ⟨b7, b8⟩
            refine AtD.fork [10, 13] (by kernel_rfl) (by simp) (fun i hi => ?_)
            simp only [List.mem_cons, List.not_mem_nil, or_false] at hi
            rcases hi with rfl | rfl
            · refine StepD.by [] rfl rfl rfl rfl trivial (OpOk.one true [] [hR [.int .i64 y0, .int .i64 y1, .int .i64 y2]] rfl r2 ?_)
              exact AtD.weak (hd6 (b7, b8)) ⟨rfl, rfl, rfl, rfl, rfl, rfl, rfl, rfl, rfl, rfl, rfl, rfl, rfl, rfl, rfl, trivial⟩
            · refine StepD.by0 [] rfl rfl rfl trivial (OpOk.one true [] [hB 0] rfl oK ?_)
              exact AtD.weak (hd12 (b7, b8)) ⟨rfl, rfl, rfl, rfl, rfl, rfl, rfl, rfl, rfl, rfl, rfl, rfl, rfl, rfl, trivial⟩
          refine AtD.cut (ι := Nat) 4 #[true, true, true, true, true, true, true, true, true, true, false, true, false, false, false] (fun b7 => [(1, .pointer (some ⟨bq, 0, none⟩)), (6, .int .i64 i), (79, .pointer (some ⟨bq, 1, none⟩)), (80, .slice (some ⟨g, o, none⟩) b.S.length c2), (81, .int .i64 i), (82, .int .i64 ((i : Int) - 1)), (83, .pointer (some ⟨g, o + ((i : Int) - 1).toNat * 3, none⟩)), (84, .agg ⟨[.int .i64 x0, .int .i64 x1, .int .i64 x2]⟩), (85, .pointer (some ⟨bq, 1, none⟩)), (86, .slice (some ⟨g, o, none⟩) b.S.length c2), (87, .int .i64 i), (88, .pointer (some ⟨g, o + (i : Int).toNat * 3, none⟩)), (7, .pointer (some ⟨b7, 0, none⟩))]) (fun b7 => [(b7, 105, i64s [0, 0, 0]), (bq, 50, bkV b ⟨a1, some ⟨g, o, none⟩, a3, a4, c1, c2, c3, c4⟩)]) ?_ (fun hd10 => ?_)
          · rintro b7
            refine AtD.fork [10, 12] (by kernel_rfl) (by simp) (fun i hi => ?_)
            simp only [List.mem_cons, List.not_mem_nil, or_false] at hi
            rcases hi with rfl | rfl
            · refine StepD.by [] rfl rfl rfl rfl trivial (OpOk.one true [] [hR [.int .i64 y0, .int .i64 y1, .int .i64 y2]] rfl r2 ?_)
              exact AtD.weak (hd5 (b7)) ⟨rfl, rfl, rfl, rfl, rfl, rfl, rfl, rfl, rfl, rfl, rfl, rfl, rfl, rfl, trivial⟩
            · refine StepD.by [] rfl rfl rfl rfl trivial (OpOk.alloc (cs := i64s [0, 0, 0]) rfl (by kernel_rfl) fun b8 hb8 => ?_)
              refine AtD.perm (List.Perm.swap _ _ _) ?_
              exact AtD.weak (hd11 (b7, b8)) ⟨rfl, rfl, rfl, rfl, rfl, rfl, rfl, rfl, rfl, rfl, rfl, rfl, rfl, rfl, trivial⟩
          refine AtD.cut (ι := Nat) 4 #[true, true, true, true, true, true, true, true, true, true, false, false, true, false, false] (fun b8 => [(1, .pointer (some ⟨bq, 0, none⟩)), (6, .int .i64 i), (79, .pointer (some ⟨bq, 1, none⟩)), (80, .slice (some ⟨g, o, none⟩) b.S.length c2), (81, .int .i64 i), (82, .int .i64 ((i : Int) - 1)), (83, .pointer (some ⟨g, o + ((i : Int) - 1).toNat * 3, none⟩)), (84, .agg ⟨[.int .i64 x0, .int .i64 x1, .int .i64 x2]⟩), (85, .pointer (some ⟨bq, 1, none⟩)), (86, .slice (some ⟨g, o, none⟩) b.S.length c2), (87, .int .i64 i), (88, .pointer (some ⟨g, o + (i : Int).toNat * 3, none⟩)), (8, .pointer (some ⟨b8, 0, none⟩))]) (fun b8 => [(b8, 105, i64s [0, 0, 0]), (bq, 50, bkV b ⟨a1, some ⟨g, o, none⟩, a3, a4, c1, c2, c3, c4⟩)]) ?_ (fun hd13 => ?_)
          · rintro b8
            refine AtD.fork [10, 11] (by kernel_rfl) (by simp) (fun i hi => ?_)
            simp only [List.mem_cons, List.not_mem_nil, or_false] at hi
            rcases hi with rfl | rfl
            · refine StepD.by [] rfl rfl rfl rfl trivial (OpOk.one true [] [hR [.int .i64 y0, .int .i64 y1, .int .i64 y2]] rfl r2 ?_)
              exact AtD.weak (hd9 (b8)) ⟨rfl, rfl, rfl, rfl, rfl, rfl, rfl, rfl, rfl, rfl, rfl, rfl, rfl, rfl, trivial⟩
            · refine StepD.by [] rfl rfl rfl rfl trivial (OpOk.alloc (cs := i64s [0, 0, 0]) rfl (by kernel_rfl) fun b7 hb7 => ?_)
              exact AtD.weak (hd11 (b7, b8)) ⟨rfl, rfl, rfl, rfl, rfl, rfl, rfl, rfl, rfl, rfl, rfl, rfl, rfl, rfl, trivial⟩
          refine AtD.cut (ι := Unit) 5 #[true, true, true, true, true, true, true, true, true, true, false, false, false, false, false] (fun _ => [(1, .pointer (some ⟨bq, 0, none⟩)), (6, .int .i64 i), (79, .pointer (some ⟨bq, 1, none⟩)), (80, .slice (some ⟨g, o, none⟩) b.S.length c2), (81, .int .i64 i), (82, .int .i64 ((i : Int) - 1)), (83, .pointer (some ⟨g, o + ((i : Int) - 1).toNat * 3, none⟩)), (84, .agg ⟨[.int .i64 x0, .int .i64 x1, .int .i64 x2]⟩), (85, .pointer (some ⟨bq, 1, none⟩)), (86, .slice (some ⟨g, o, none⟩) b.S.length c2), (87, .int .i64 i), (88, .pointer (some ⟨g, o + (i : Int).toNat * 3, none⟩))]) (fun _ => [(bq, 50, bkV b ⟨a1, some ⟨g, o, none⟩, a3, a4, c1, c2, c3, c4⟩)]) ?_ (fun hd3 => ?_)
          · rintro ⟨⟩
            refine AtD.fork [10, 11, 12] (by kernel_rfl) (by simp) (fun i hi => ?_)
            simp only [List.mem_cons, List.not_mem_nil, or_false] at hi
            rcases hi with rfl | rfl | rfl
            · refine StepD.by [] rfl rfl rfl rfl trivial (OpOk.one true [] [hR [.int .i64 y0, .int .i64 y1, .int .i64 y2]] rfl r2 ?_)
              exact AtD.weak (hd4 ()) ⟨rfl, rfl, rfl, rfl, rfl, rfl, rfl, rfl, rfl, rfl, rfl, rfl, rfl, trivial⟩
            · refine StepD.by [] rfl rfl rfl rfl trivial (OpOk.alloc (cs := i64s [0, 0, 0]) rfl (by kernel_rfl) fun b7 hb7 => ?_)
              exact AtD.weak (hd10 (b7)) ⟨rfl, rfl, rfl, rfl, rfl, rfl, rfl, rfl, rfl, rfl, rfl, rfl, rfl, trivial⟩
            · refine StepD.by [] rfl rfl rfl rfl trivial (OpOk.alloc (cs := i64s [0, 0, 0]) rfl (by kernel_rfl) fun b8 hb8 => ?_)
              exact AtD.weak (hd13 (b8)) ⟨rfl, rfl, rfl, rfl, rfl, rfl, rfl, rfl, rfl, rfl, rfl, rfl, rfl, trivial⟩
          refine AtD.cut (ι := Nat × Nat) 4 #[true, true, true, true, true, true, true, false, true, false, false, true, true, true, false] (fun ⟨b7, b8⟩ => [(1, .pointer (some ⟨bq, 0, none⟩)), (6, .int .i64 i), (79, .pointer (some ⟨bq, 1, none⟩)), (80, .slice (some ⟨g, o, none⟩) b.S.length c2), (81, .int .i64 i), (82, .int .i64 ((i : Int) - 1)), (83, .pointer (some ⟨g, o + ((i : Int) - 1).toNat * 3, none⟩)), (84, .agg ⟨[.int .i64 x0, .int .i64 x1, .int .i64 x2]⟩), (85, .pointer (some ⟨bq, 1, none⟩)), (87, .int .i64 i), (7, .pointer (some ⟨b7, 0, none⟩)), (8, .pointer (some ⟨b8, 0, none⟩))]) (fun ⟨b7, b8⟩ => [(b7, 105, [.int .i64 x0, .int .i64 x1, .int .i64 x2]), (b8, 105, i64s [0, 0, 0]), (bq, 50, bkV b ⟨a1, some ⟨g, o, none⟩, a3, a4, c1, c2, c3, c4⟩)]) ?_ (fun hd16 => ?_)
          · rintro ⟨b7, b8⟩
            refine AtD.fork1 7 (by kernel_rfl) ?_
            refine StepD.by [] rfl rfl rfl rfl trivial (OpOk.one true [] [hB 2] rfl rfl ?_)
            refine AtD.pures (ob := True) true (by kernel_rfl) [9] (fuel := 2) (by kernel_rfl) rfl oK ?_
            exact AtD.weak (hd12 (b7, b8)) ⟨rfl, rfl, rfl, rfl, rfl, rfl, rfl, rfl, rfl, rfl, rfl, rfl, rfl, rfl, trivial⟩
          refine AtD.cut (ι := Nat × Nat) 5 #[true, true, true, true, true, true, true, false, true, false, false, true, true, false, false] (fun ⟨b7, b8⟩ => [(1, .pointer (some ⟨bq, 0, none⟩)), (6, .int .i64 i), (79, .pointer (some ⟨bq, 1, none⟩)), (80, .slice (some ⟨g, o, none⟩) b.S.length c2), (81, .int .i64 i), (82, .int .i64 ((i : Int) - 1)), (83, .pointer (some ⟨g, o + ((i : Int) - 1).toNat * 3, none⟩)), (84, .agg ⟨[.int .i64 x0, .int .i64 x1, .int .i64 x2]⟩), (85, .pointer (some ⟨bq, 1, none⟩)), (87, .int .i64 i), (7, .pointer (some ⟨b7, 0, none⟩)), (8, .pointer (some ⟨b8, 0, none⟩))]) (fun ⟨b7, b8⟩ => [(b7, 105, i64s [0, 0, 0]), (b8, 105, i64s [0, 0, 0]), (bq, 50, bkV b ⟨a1, some ⟨g, o, none⟩, a3, a4, c1, c2, c3, c4⟩)]) ?_ (fun hd15 => ?_)
          · rintro ⟨b7, b8⟩
            refine AtD.fork [7, 13] (by kernel_rfl) (by simp) (fun i hi => ?_)
            simp only [List.mem_cons, List.not_mem_nil, or_false] at hi
            rcases hi with rfl | rfl
            · refine StepD.by [] rfl rfl rfl rfl trivial (OpOk.one true [] [hB 2] rfl rfl ?_)
              refine AtD.pures (ob := True) true (by kernel_rfl) [9] (fuel := 3) (by kernel_rfl) rfl oK ?_
              exact AtD.weak (hd11 (b7, b8)) ⟨rfl, rfl, rfl, rfl, rfl, rfl, rfl, rfl, rfl, rfl, rfl, rfl, rfl, rfl, trivial⟩
            · refine StepD.by0 [] rfl rfl rfl trivial (OpOk.one true [] [hB 0] rfl oK ?_)
              exact AtD.weak (hd16 (b7, b8)) ⟨rfl, rfl, rfl, rfl, rfl, rfl, rfl, rfl, rfl, rfl, rfl, rfl, trivial⟩
          refine AtD.cut (ι := Nat) 6 #[true, true, true, true, true, true, true, false, true, false, false, true, false, false, false] (fun b7 => [(1, .pointer (some ⟨bq, 0, none⟩)), (6, .int .i64 i), (79, .pointer (some ⟨bq, 1, none⟩)), (80, .slice (some ⟨g, o, none⟩) b.S.length c2), (81, .int .i64 i), (82, .int .i64 ((i : Int) - 1)), (83, .pointer (some ⟨g, o + ((i : Int) - 1).toNat * 3, none⟩)), (84, .agg ⟨[.int .i64 x0, .int .i64 x1, .int .i64 x2]⟩), (85, .pointer (some ⟨bq, 1, none⟩)), (87, .int .i64 i), (7, .pointer (some ⟨b7, 0, none⟩))]) (fun b7 => [(b7, 105, i64s [0, 0, 0]), (bq, 50, bkV b ⟨a1, some ⟨g, o, none⟩, a3, a4, c1, c2, c3, c4⟩)]) ?_ (fun hd14 => ?_)
          · rintro b7
            refine AtD.fork [7, 12] (by kernel_rfl) (by simp) (fun i hi => ?_)
            simp only [List.mem_cons, List.not_mem_nil, or_false] at hi
            rcases hi with rfl | rfl
            · refine StepD.by [] rfl rfl rfl rfl trivial (OpOk.one true [] [hB 1] rfl rfl ?_)
              refine AtD.pures (ob := True) true (by kernel_rfl) [9] (fuel := 4) (by kernel_rfl) rfl oK ?_
              exact AtD.weak (hd10 (b7)) ⟨rfl, rfl, rfl, rfl, rfl, rfl, rfl, rfl, rfl, rfl, rfl, rfl, rfl, trivial⟩
            · refine StepD.by [] rfl rfl rfl rfl trivial (OpOk.alloc (cs := i64s [0, 0, 0]) rfl (by kernel_rfl) fun b8 hb8 => ?_)
              refine AtD.perm (List.Perm.swap _ _ _) ?_
              exact AtD.weak (hd15 (b7, b8)) ⟨rfl, rfl, rfl, rfl, rfl, rfl, rfl, rfl, rfl, rfl, rfl, rfl, trivial⟩
          refine AtD.cut (ι := Nat) 6 #[true, true, true, true, true, true, true, false, true, false, false, false, true, false, false] (fun b8 => [(1, .pointer (some ⟨bq, 0, none⟩)), (6, .int .i64 i), (79, .pointer (some ⟨bq, 1, none⟩)), (80, .slice (some ⟨g, o, none⟩) b.S.length c2), (81, .int .i64 i), (82, .int .i64 ((i : Int) - 1)), (83, .pointer (some ⟨g, o + ((i : Int) - 1).toNat * 3, none⟩)), (84, .agg ⟨[.int .i64 x0, .int .i64 x1, .int .i64 x2]⟩), (85, .pointer (some ⟨bq, 1, none⟩)), (87, .int .i64 i), (8, .pointer (some ⟨b8, 0, none⟩))]) (fun b8 => [(b8, 105, i64s [0, 0, 0]), (bq, 50, bkV b ⟨a1, some ⟨g, o, none⟩, a3, a4, c1, c2, c3, c4⟩)]) ?_ (fun hd17 => ?_)
          · rintro b8
            refine AtD.fork [7, 11] (by kernel_rfl) (by simp) (fun i hi => ?_)
            simp only [List.mem_cons, List.not_mem_nil, or_false] at hi
            rcases hi with rfl | rfl
            · refine StepD.by [] rfl rfl rfl rfl trivial (OpOk.one true [] [hB 1] rfl rfl ?_)
              refine AtD.pures (ob := True) true (by kernel_rfl) [9] (fuel := 4) (by kernel_rfl) rfl oK ?_
              exact AtD.weak (hd13 (b8)) ⟨rfl, rfl, rfl, rfl, rfl, rfl, rfl, rfl, rfl, rfl, rfl, rfl, rfl, trivial⟩
            · refine StepD.by [] rfl rfl rfl rfl trivial (OpOk.alloc (cs := i64s [0, 0, 0]) rfl (by kernel_rfl) fun b7 hb7 => ?_)
              exact AtD.weak (hd15 (b7, b8)) ⟨rfl, rfl, rfl, rfl, rfl, rfl, rfl, rfl, rfl, rfl, rfl, rfl, trivial⟩
          refine AtD.cut (ι := Unit) 7 #[true, true, true, true, true, true, true, false, true, false, false, false, false, false, false] (fun _ => [(1, .pointer (some ⟨bq, 0, none⟩)), (6, .int .i64 i), (79, .pointer (some ⟨bq, 1, none⟩)), (80, .slice (some ⟨g, o, none⟩) b.S.length c2), (81, .int .i64 i), (82, .int .i64 ((i : Int) - 1)), (83, .pointer (some ⟨g, o + ((i : Int) - 1).toNat * 3, none⟩)), (84, .agg ⟨[.int .i64 x0, .int .i64 x1, .int .i64 x2]⟩), (85, .pointer (some ⟨bq, 1, none⟩)), (87, .int .i64 i)]) (fun _ => [(bq, 50, bkV b ⟨a1, some ⟨g, o, none⟩, a3, a4, c1, c2, c3, c4⟩)]) ?_ (fun hd2 => ?_)
          · rintro ⟨⟩
            refine AtD.fork [7, 11, 12] (by kernel_rfl) (by simp) (fun i hi => ?_)
            simp only [List.mem_cons, List.not_mem_nil, or_false] at hi
            rcases hi with rfl | rfl | rfl
            · refine StepD.by [] rfl rfl rfl rfl trivial (OpOk.one true [] [hB 0] rfl rfl ?_)
              refine AtD.pures (ob := True) true (by kernel_rfl) [9] (fuel := 5) (by kernel_rfl) rfl oK ?_
              exact AtD.weak (hd3 ()) ⟨rfl, rfl, rfl, rfl, rfl, rfl, rfl, rfl, rfl, rfl, rfl, rfl, trivial⟩
            · refine StepD.by [] rfl rfl rfl rfl trivial (OpOk.alloc (cs := i64s [0, 0, 0]) rfl (by kernel_rfl) fun b7 hb7 => ?_)
              exact AtD.weak (hd14 (b7)) ⟨rfl, rfl, rfl, rfl, rfl, rfl, rfl, rfl, rfl, rfl, rfl, trivial⟩
            · refine StepD.by [] rfl rfl rfl rfl trivial (OpOk.alloc (cs := i64s [0, 0, 0]) rfl (by kernel_rfl) fun b8 hb8 => ?_)
              exact AtD.weak (hd17 (b8)) ⟨rfl, rfl, rfl, rfl, rfl, rfl, rfl, rfl, rfl, rfl, rfl, trivial⟩
          refine AtD.cut (ι := Nat × Nat) 3 #[true, true, true, true, true, false, true, true, true, true, true, true, true, false, false] (fun ⟨b7, b8⟩ => [(1, .pointer (some ⟨bq, 0, none⟩)), (6, .int .i64 i), (79, .pointer (some ⟨bq, 1, none⟩)), (80, .slice (some ⟨g, o, none⟩) b.S.length c2), (81, .int .i64 i), (82, .int .i64 ((i : Int) - 1)), (83, .pointer (some ⟨g, o + ((i : Int) - 1).toNat * 3, none⟩)), (85, .pointer (some ⟨bq, 1, none⟩)), (86, .slice (some ⟨g, o, none⟩) b.S.length c2), (87, .int .i64 i), (88, .pointer (some ⟨g, o + (i : Int).toNat * 3, none⟩)), (89, .agg ⟨[.int .i64 y0, .int .i64 y1, .int .i64 y2]⟩), (7, .pointer (some ⟨b7, 0, none⟩)), (8, .pointer (some ⟨b8, 0, none⟩))]) (fun ⟨b7, b8⟩ => [(b7, 105, i64s [0, 0, 0]), (b8, 105, i64s [0, 0, 0]), (bq, 50, bkV b ⟨a1, some ⟨g, o, none⟩, a3, a4, c1, c2, c3, c4⟩)]) ?_ (fun hd21 => ?_)
          · rintro ⟨b7, b8⟩
            refine AtD.fork1 5 (by kernel_rfl) ?_
            refine StepD.by [] rfl rfl rfl rfl trivial (OpOk.one true [] [hR [.int .i64 x0, .int .i64 x1, .int .i64 x2]] rfl r1 ?_)
            exact AtD.weak (hd6 (b7, b8)) ⟨rfl, rfl, rfl, rfl, rfl, rfl, rfl, rfl, rfl, rfl, rfl, rfl, rfl, rfl, rfl, trivial⟩
          refine AtD.cut (ι := Nat) 4 #[true, true, true, true, true, false, true, true, true, true, true, true, false, false, false] (fun b7 => [(1, .pointer (some ⟨bq, 0, none⟩)), (6, .int .i64 i), (79, .pointer (some ⟨bq, 1, none⟩)), (80, .slice (some ⟨g, o, none⟩) b.S.length c2), (81, .int .i64 i), (82, .int .i64 ((i : Int) - 1)), (83, .pointer (some ⟨g, o + ((i : Int) - 1).toNat * 3, none⟩)), (85, .pointer (some ⟨bq, 1, none⟩)), (86, .slice (some ⟨g, o, none⟩) b.S.length c2), (87, .int .i64 i), (88, .pointer (some ⟨g, o + (i : Int).toNat * 3, none⟩)), (89, .agg ⟨[.int .i64 y0, .int .i64 y1, .int .i64 y2]⟩), (7, .pointer (some ⟨b7, 0, none⟩))]) (fun b7 => [(b7, 105, i64s [0, 0, 0]), (bq, 50, bkV b ⟨a1, some ⟨g, o, none⟩, a3, a4, c1, c2, c3, c4⟩)]) ?_ (fun hd20 => ?_)
          · rintro b7
            refine AtD.fork [5, 12] (by kernel_rfl) (by simp) (fun i hi => ?_)
            simp only [List.mem_cons, List.not_mem_nil, or_false] at hi
            rcases hi with rfl | rfl
            · refine StepD.by [] rfl rfl rfl rfl trivial (OpOk.one true [] [hR [.int .i64 x0, .int .i64 x1, .int .i64 x2]] rfl r1 ?_)
              exact AtD.weak (hd5 (b7)) ⟨rfl, rfl, rfl, rfl, rfl, rfl, rfl, rfl, rfl, rfl, rfl, rfl, rfl, rfl, trivial⟩
            · refine StepD.by [] rfl rfl rfl rfl trivial (OpOk.alloc (cs := i64s [0, 0, 0]) rfl (by kernel_rfl) fun b8 hb8 => ?_)
              refine AtD.perm (List.Perm.swap _ _ _) ?_
              exact AtD.weak (hd21 (b7, b8)) ⟨rfl, rfl, rfl, rfl, rfl, rfl, rfl, rfl, rfl, rfl, rfl, rfl, rfl, rfl, trivial⟩
          refine AtD.cut (ι := Nat) 4 #[true, true, true, true, true, false, true, true, true, true, true, false, true, false, false] (fun b8 => [(1, .pointer (some ⟨bq, 0, none⟩)), (6, .int .i64 i), (79, .pointer (some ⟨bq, 1, none⟩)), (80, .slice (some ⟨g, o, none⟩) b.S.length c2), (81, .int .i64 i), (82, .int .i64 ((i : Int) - 1)), (83, .pointer (some ⟨g, o + ((i : Int) - 1).toNat * 3, none⟩)), (85, .pointer (some ⟨bq, 1, none⟩)), (86, .slice (some ⟨g, o, none⟩) b.S.length c2), (87, .int .i64 i), (88, .pointer (some ⟨g, o + (i : Int).toNat * 3, none⟩)), (89, .agg ⟨[.int .i64 y0, .int .i64 y1, .int .i64 y2]⟩), (8, .pointer (some ⟨b8, 0, none⟩))]) (fun b8 => [(b8, 105, i64s [0, 0, 0]), (bq, 50, bkV b ⟨a1, some ⟨g, o, none⟩, a3, a4, c1, c2, c3, c4⟩)]) ?_ (fun hd22 => ?_)
          · rintro b8
            refine AtD.fork [5, 11] (by kernel_rfl) (by simp) (fun i hi => ?_)
            simp only [List.mem_cons, List.not_mem_nil, or_false] at hi
            rcases hi with rfl | rfl
            · refine StepD.by [] rfl rfl rfl rfl trivial (OpOk.one true [] [hR [.int .i64 x0, .int .i64 x1, .int .i64 x2]] rfl r1 ?_)
              exact AtD.weak (hd9 (b8)) ⟨rfl, rfl, rfl, rfl, rfl, rfl, rfl, rfl, rfl, rfl, rfl, rfl, rfl, rfl, trivial⟩
            · refine StepD.by [] rfl rfl rfl rfl trivial (OpOk.alloc (cs := i64s [0, 0, 0]) rfl (by kernel_rfl) fun b7 hb7 => ?_)
              exact AtD.weak (hd21 (b7, b8)) ⟨rfl, rfl, rfl, rfl, rfl, rfl, rfl, rfl, rfl, rfl, rfl, rfl, rfl, rfl, trivial⟩
          refine AtD.cut (ι := Unit) 5 #[true, true, true, true, true, false, true, true, true, true, true, false, false, false, false] (fun _ => [(1, .pointer (some ⟨bq, 0, none⟩)), (6, .int .i64 i), (79, .pointer (some ⟨bq, 1, none⟩)), (80, .slice (some ⟨g, o, none⟩) b.S.length c2), (81, .int .i64 i), (82, .int .i64 ((i : Int) - 1)), (83, .pointer (some ⟨g, o + ((i : Int) - 1).toNat * 3, none⟩)), (85, .pointer (some ⟨bq, 1, none⟩)), (86, .slice (some ⟨g, o, none⟩) b.S.length c2), (87, .int .i64 i), (88, .pointer (some ⟨g, o + (i : Int).toNat * 3, none⟩)), (89, .agg ⟨[.int .i64 y0, .int .i64 y1, .int .i64 y2]⟩)]) (fun _ => [(bq, 50, bkV b ⟨a1, some ⟨g, o, none⟩, a3, a4, c1, c2, c3, c4⟩)]) ?_ (fun hd19 => ?_)
          · rintro ⟨⟩
            refine AtD.fork [5, 11, 12] (by kernel_rfl) (by simp) (fun i hi => ?_)
            simp only [List.mem_cons, List.not_mem_nil, or_false] at hi
            rcases hi with rfl | rfl | rfl
            · refine StepD.by [] rfl rfl rfl rfl trivial (OpOk.one true [] [hR [.int .i64 x0, .int .i64 x1, .int .i64 x2]] rfl r1 ?_)
              exact AtD.weak (hd4 ()) ⟨rfl, rfl, rfl, rfl, rfl, rfl, rfl, rfl, rfl, rfl, rfl, rfl, rfl, trivial⟩
            · refine StepD.by [] rfl rfl rfl rfl trivial (OpOk.alloc (cs := i64s [0, 0, 0]) rfl (by kernel_rfl) fun b7 hb7 => ?_)
              exact AtD.weak (hd20 (b7)) ⟨rfl, rfl, rfl, rfl, rfl, rfl, rfl, rfl, rfl, rfl, rfl, rfl, rfl, trivial⟩
            · refine StepD.by [] rfl rfl rfl rfl trivial (OpOk.alloc (cs := i64s [0, 0, 0]) rfl (by kernel_rfl) fun b8 hb8 => ?_)
              exact AtD.weak (hd22 (b8)) ⟨rfl, rfl, rfl, rfl, rfl, rfl, rfl, rfl, rfl, rfl, rfl, rfl, rfl, trivial⟩
          refine AtD.cut (ι := Nat × Nat) 4 #[true, true, true, true, true, false, true, true, true, true, false, true, true, false, false] (fun ⟨b7, b8⟩ => [(1, .pointer (some ⟨bq, 0, none⟩)), (6, .int .i64 i), (79, .pointer (some ⟨bq, 1, none⟩)), (80, .slice (some ⟨g, o, none⟩) b.S.length c2), (81, .int .i64 i), (82, .int .i64 ((i : Int) - 1)), (83, .pointer (some ⟨g, o + ((i : Int) - 1).toNat * 3, none⟩)), (85, .pointer (some ⟨bq, 1, none⟩)), (86, .slice (some ⟨g, o, none⟩) b.S.length c2), (87, .int .i64 i), (88, .pointer (some ⟨g, o + (i : Int).toNat * 3, none⟩)), (7, .pointer (some ⟨b7, 0, none⟩)), (8, .pointer (some ⟨b8, 0, none⟩))]) (fun ⟨b7, b8⟩ => [(b7, 105, i64s [0, 0, 0]), (b8, 105, i64s [0, 0, 0]), (bq, 50, bkV b ⟨a1, some ⟨g, o, none⟩, a3, a4, c1, c2, c3, c4⟩)]) ?_ (fun hd24 => ?_)
          · rintro ⟨b7, b8⟩
            refine AtD.fork [5, 10] (by kernel_rfl) (by simp) (fun i hi => ?_)
            simp only [List.mem_cons, List.not_mem_nil, or_false] at hi
            rcases hi with rfl | rfl
            · refine StepD.by [] rfl rfl rfl rfl trivial (OpOk.one true [] [hR [.int .i64 x0, .int .i64 x1, .int .i64 x2]] rfl r1 ?_)
              exact AtD.weak (hd11 (b7, b8)) ⟨rfl, rfl, rfl, rfl, rfl, rfl, rfl, rfl, rfl, rfl, rfl, rfl, rfl, rfl, trivial⟩
            · refine StepD.by [] rfl rfl rfl rfl trivial (OpOk.one true [] [hR [.int .i64 y0, .int .i64 y1, .int .i64 y2]] rfl r2 ?_)
              exact AtD.weak (hd21 (b7, b8)) ⟨rfl, rfl, rfl, rfl, rfl, rfl, rfl, rfl, rfl, rfl, rfl, rfl, rfl, rfl, trivial⟩
          refine AtD.cut (ι := Nat) 5 #[true, true, true, true, true, false, true, true, true, true, false, true, false, false, false] (fun b7 => [(1, .pointer (some ⟨bq, 0, none⟩)), (6, .int .i64 i), (79, .pointer (some ⟨bq, 1, none⟩)), (80, .slice (some ⟨g, o, none⟩) b.S.length c2), (81, .int .i64 i), (82, .int .i64 ((i : Int) - 1)), (83, .pointer (some ⟨g, o + ((i : Int) - 1).toNat * 3, none⟩)), (85, .pointer (some ⟨bq, 1, none⟩)), (86, .slice (some ⟨g, o, none⟩) b.S.length c2), (87, .int .i64 i), (88, .pointer (some ⟨g, o + (i : Int).toNat * 3, none⟩)), (7, .pointer (some ⟨b7, 0, none⟩))]) (fun b7 => [(b7, 105, i64s [0, 0, 0]), (bq, 50, bkV b ⟨a1, some ⟨g, o, none⟩, a3, a4, c1, c2, c3, c4⟩)]) ?_ (fun hd23 => ?_)
          · rintro b7
            refine AtD.fork [5, 10, 12] (by kernel_rfl) (by simp) (fun i hi => ?_)
            simp only [List.mem_cons, List.not_mem_nil, or_false] at hi
            rcases hi with rfl | rfl | rfl
            · refine StepD.by [] rfl rfl rfl rfl trivial (OpOk.one true [] [hR [.int .i64 x0, .int .i64 x1, .int .i64 x2]] rfl r1 ?_)
              exact AtD.weak (hd10 (b7)) ⟨rfl, rfl, rfl, rfl, rfl, rfl, rfl, rfl, rfl, rfl, rfl, rfl, rfl, trivial⟩
            · refine StepD.by [] rfl rfl rfl rfl trivial (OpOk.one true [] [hR [.int .i64 y0, .int .i64 y1, .int .i64 y2]] rfl r2 ?_)
              exact AtD.weak (hd20 (b7)) ⟨rfl, rfl, rfl, rfl, rfl, rfl, rfl, rfl, rfl, rfl, rfl, rfl, rfl, trivial⟩
            · refine StepD.by [] rfl rfl rfl rfl trivial (OpOk.alloc (cs := i64s [0, 0, 0]) rfl (by kernel_rfl) fun b8 hb8 => ?_)
              refine AtD.perm (List.Perm.swap _ _ _) ?_
              exact AtD.weak (hd24 (b7, b8)) ⟨rfl, rfl, rfl, rfl, rfl, rfl, rfl, rfl, rfl, rfl, rfl, rfl, rfl, trivial⟩
          refine AtD.cut (ι := Nat) 5 #[true, true, true, true, true, false, true, true, true, true, false, false, true, false, false] (fun b8 => [(1, .pointer (some ⟨bq, 0, none⟩)), (6, .int .i64 i), (79, .pointer (some ⟨bq, 1, none⟩)), (80, .slice (some ⟨g, o, none⟩) b.S.length c2), (81, .int .i64 i), (82, .int .i64 ((i : Int) - 1)), (83, .pointer (some ⟨g, o + ((i : Int) - 1).toNat * 3, none⟩)), (85, .pointer (some ⟨bq, 1, none⟩)), (86, .slice (some ⟨g, o, none⟩) b.S.length c2), (87, .int .i64 i), (88, .pointer (some ⟨g, o + (i : Int).toNat * 3, none⟩)), (8, .pointer (some ⟨b8, 0, none⟩))]) (fun b8 => [(b8, 105, i64s [0, 0, 0]), (bq, 50, bkV b ⟨a1, some ⟨g, o, none⟩, a3, a4, c1, c2, c3, c4⟩)]) ?_ (fun hd25 => ?_)
          · rintro b8
            refine AtD.fork [5, 10, 11] (by kernel_rfl) (by simp) (fun i hi => ?_)
            simp only [List.mem_cons, List.not_mem_nil, or_false] at hi
            rcases hi with rfl | rfl | rfl
            · refine StepD.by [] rfl rfl rfl rfl trivial (OpOk.one true [] [hR [.int .i64 x0, .int .i64 x1, .int .i64 x2]] rfl r1 ?_)
              exact AtD.weak (hd13 (b8)) ⟨rfl, rfl, rfl, rfl, rfl, rfl, rfl, rfl, rfl, rfl, rfl, rfl, rfl, trivial⟩
            · refine StepD.by [] rfl rfl rfl rfl trivial (OpOk.one true [] [hR [.int .i64 y0, .int .i64 y1, .int .i64 y2]] rfl r2 ?_)
              exact AtD.weak (hd22 (b8)) ⟨rfl, rfl, rfl, rfl, rfl, rfl, rfl, rfl, rfl, rfl, rfl, rfl, rfl, trivial⟩
            · refine StepD.by [] rfl rfl rfl rfl trivial (OpOk.alloc (cs := i64s [0, 0, 0]) rfl (by kernel_rfl) fun b7 hb7 => ?_)
              exact AtD.weak (hd24 (b7, b8)) ⟨rfl, rfl, rfl, rfl, rfl, rfl, rfl, rfl, rfl, rfl, rfl, rfl, rfl, trivial⟩
          refine AtD.cut (ι := Unit) 6 #[true, true, true, true, true, false, true, true, true, true, false, false, false, false, false] (fun _ => [(1, .pointer (some ⟨bq, 0, none⟩)), (6, .int .i64 i), (79, .pointer (some ⟨bq, 1, none⟩)), (80, .slice (some ⟨g, o, none⟩) b.S.length c2), (81, .int .i64 i), (82, .int .i64 ((i : Int) - 1)), (83, .pointer (some ⟨g, o + ((i : Int) - 1).toNat * 3, none⟩)), (85, .pointer (some ⟨bq, 1, none⟩)), (86, .slice (some ⟨g, o, none⟩) b.S.length c2), (87, .int .i64 i), (88, .pointer (some ⟨g, o + (i : Int).toNat * 3, none⟩))]) (fun _ => [(bq, 50, bkV b ⟨a1, some ⟨g, o, none⟩, a3, a4, c1, c2, c3, c4⟩)]) ?_ (fun hd18 => ?_)
          · rintro ⟨⟩
            refine AtD.fork [5, 10, 11, 12] (by kernel_rfl) (by simp) (fun i hi => ?_)
            simp only [List.mem_cons, List.not_mem_nil, or_false] at hi
            rcases hi with rfl | rfl | rfl | rfl
            · refine StepD.by [] rfl rfl rfl rfl trivial (OpOk.one true [] [hR [.int .i64 x0, .int .i64 x1, .int .i64 x2]] rfl r1 ?_)
              exact AtD.weak (hd3 ()) ⟨rfl, rfl, rfl, rfl, rfl, rfl, rfl, rfl, rfl, rfl, rfl, rfl, trivial⟩
            · refine StepD.by [] rfl rfl rfl rfl trivial (OpOk.one true [] [hR [.int .i64 y0, .int .i64 y1, .int .i64 y2]] rfl r2 ?_)
              exact AtD.weak (hd19 ()) ⟨rfl, rfl, rfl, rfl, rfl, rfl, rfl, rfl, rfl, rfl, rfl, rfl, trivial⟩
            · refine StepD.by [] rfl rfl rfl rfl trivial (OpOk.alloc (cs := i64s [0, 0, 0]) rfl (by kernel_rfl) fun b7 hb7 => ?_)
              exact AtD.weak (hd23 (b7)) ⟨rfl, rfl, rfl, rfl, rfl, rfl, rfl, rfl, rfl, rfl, rfl, rfl, trivial⟩
            · refine StepD.by [] rfl rfl rfl rfl trivial (OpOk.alloc (cs := i64s [0, 0, 0]) rfl (by kernel_rfl) fun b8 hb8 => ?_)
              exact AtD.weak (hd25 (b8)) ⟨rfl, rfl, rfl, rfl, rfl, rfl, rfl, rfl, rfl, rfl, rfl, rfl, trivial⟩
          refine AtD.cut (ι := Nat × Nat) 6 #[true, true, true, true, true, false, true, false, true, false, false, true, true, false, false] (fun ⟨b7, b8⟩ => [(1, .pointer (some ⟨bq, 0, none⟩)), (6, .int .i64 i), (79, .pointer (some ⟨bq, 1, none⟩)), (80, .slice (some ⟨g, o, none⟩) b.S.length c2), (81, .int .i64 i), (82, .int .i64 ((i : Int) - 1)), (83, .pointer (some ⟨g, o + ((i : Int) - 1).toNat * 3, none⟩)), (85, .pointer (some ⟨bq, 1, none⟩)), (87, .int .i64 i), (7, .pointer (some ⟨b7, 0, none⟩)), (8, .pointer (some ⟨b8, 0, none⟩))]) (fun ⟨b7, b8⟩ => [(b7, 105, i64s [0, 0, 0]), (b8, 105, i64s [0, 0, 0]), (bq, 50, bkV b ⟨a1, some ⟨g, o, none⟩, a3, a4, c1, c2, c3, c4⟩)]) ?_ (fun hd27 => ?_)
          · rintro ⟨b7, b8⟩
            refine AtD.fork [5, 7] (by kernel_rfl) (by simp) (fun i hi => ?_)
            simp only [List.mem_cons, List.not_mem_nil, or_false] at hi
            rcases hi with rfl | rfl
            · refine StepD.by [] rfl rfl rfl rfl trivial (OpOk.one true [] [hR [.int .i64 x0, .int .i64 x1, .int .i64 x2]] rfl r1 ?_)
              exact AtD.weak (hd15 (b7, b8)) ⟨rfl, rfl, rfl, rfl, rfl, rfl, rfl, rfl, rfl, rfl, rfl, rfl, trivial⟩
            · refine StepD.by [] rfl rfl rfl rfl trivial (OpOk.one true [] [hB 2] rfl rfl ?_)
              refine AtD.pures (ob := True) true (by kernel_rfl) [9] (fuel := 4) (by kernel_rfl) rfl oK ?_
              exact AtD.weak (hd24 (b7, b8)) ⟨rfl, rfl, rfl, rfl, rfl, rfl, rfl, rfl, rfl, rfl, rfl, rfl, rfl, trivial⟩
          refine AtD.cut (ι := Nat) 7 #[true, true, true, true, true, false, true, false, true, false, false, true, false, false, false] (fun b7 => [(1, .pointer (some ⟨bq, 0, none⟩)), (6, .int .i64 i), (79, .pointer (some ⟨bq, 1, none⟩)), (80, .slice (some ⟨g, o, none⟩) b.S.length c2), (81, .int .i64 i), (82, .int .i64 ((i : Int) - 1)), (83, .pointer (some ⟨g, o + ((i : Int) - 1).toNat * 3, none⟩)), (85, .pointer (some ⟨bq, 1, none⟩)), (87, .int .i64 i), (7, .pointer (some ⟨b7, 0, none⟩))]) (fun b7 => [(b7, 105, i64s [0, 0, 0]), (bq, 50, bkV b ⟨a1, some ⟨g, o, none⟩, a3, a4, c1, c2, c3, c4⟩)]) ?_ (fun hd26 => ?_)
          · rintro b7
            refine AtD.fork [5, 7, 12] (by kernel_rfl) (by simp) (fun i hi => ?_)
            simp only [List.mem_cons, List.not_mem_nil, or_false] at hi
            rcases hi with rfl | rfl | rfl
            · refine StepD.by [] rfl rfl rfl rfl trivial (OpOk.one true [] [hR [.int .i64 x0, .int .i64 x1, .int .i64 x2]] rfl r1 ?_)
              exact AtD.weak (hd14 (b7)) ⟨rfl, rfl, rfl, rfl, rfl, rfl, rfl, rfl, rfl, rfl, rfl, trivial⟩
            · refine StepD.by [] rfl rfl rfl rfl trivial (OpOk.one true [] [hB 1] rfl rfl ?_)
              refine AtD.pures (ob := True) true (by kernel_rfl) [9] (fuel := 5) (by kernel_rfl) rfl oK ?_
              exact AtD.weak (hd23 (b7)) ⟨rfl, rfl, rfl, rfl, rfl, rfl, rfl, rfl, rfl, rfl, rfl, rfl, trivial⟩
            · refine StepD.by [] rfl rfl rfl rfl trivial (OpOk.alloc (cs := i64s [0, 0, 0]) rfl (by kernel_rfl) fun b8 hb8 => ?_)
              refine AtD.perm (List.Perm.swap _ _ _) ?_
              exact AtD.weak (hd27 (b7, b8)) ⟨rfl, rfl, rfl, rfl, rfl, rfl, rfl, rfl, rfl, rfl, rfl, trivial⟩
          refine AtD.cut (ι := Nat) 7 #[true, true, true, true, true, false, true, false, true, false, false, false, true, false, false] (fun b8 => [(1, .pointer (some ⟨bq, 0, none⟩)), (6, .int .i64 i), (79, .pointer (some ⟨bq, 1, none⟩)), (80, .slice (some ⟨g, o, none⟩) b.S.length c2), (81, .int .i64 i), (82, .int .i64 ((i : Int) - 1)), (83, .pointer (some ⟨g, o + ((i : Int) - 1).toNat * 3, none⟩)), (85, .pointer (some ⟨bq, 1, none⟩)), (87, .int .i64 i), (8, .pointer (some ⟨b8, 0, none⟩))]) (fun b8 => [(b8, 105, i64s [0, 0, 0]), (bq, 50, bkV b ⟨a1, some ⟨g, o, none⟩, a3, a4, c1, c2, c3, c4⟩)]) ?_ (fun hd28 => ?_)
          · rintro b8
            refine AtD.fork [5, 7, 11] (by kernel_rfl) (by simp) (fun i hi => ?_)
            simp only [List.mem_cons, List.not_mem_nil, or_false] at hi
            rcases hi with rfl | rfl | rfl
            · refine StepD.by [] rfl rfl rfl rfl trivial (OpOk.one true [] [hR [.int .i64 x0, .int .i64 x1, .int .i64 x2]] rfl r1 ?_)
              exact AtD.weak (hd17 (b8)) ⟨rfl, rfl, rfl, rfl, rfl, rfl, rfl, rfl, rfl, rfl, rfl, trivial⟩
            · refine StepD.by [] rfl rfl rfl rfl trivial (OpOk.one true [] [hB 1] rfl rfl ?_)
              refine AtD.pures (ob := True) true (by kernel_rfl) [9] (fuel := 5) (by kernel_rfl) rfl oK ?_
              exact AtD.weak (hd25 (b8)) ⟨rfl, rfl, rfl, rfl, rfl, rfl, rfl, rfl, rfl, rfl, rfl, rfl, trivial⟩
            · refine StepD.by [] rfl rfl rfl rfl trivial (OpOk.alloc (cs := i64s [0, 0, 0]) rfl (by kernel_rfl) fun b7 hb7 => ?_)
              exact AtD.weak (hd27 (b7, b8)) ⟨rfl, rfl, rfl, rfl, rfl, rfl, rfl, rfl, rfl, rfl, rfl, trivial⟩
          refine AtD.cut (ι := Unit) 8 #[true, true, true, true, true, false, true, false, true, false, false, false, false, false, false] (fun _ => [(1, .pointer (some ⟨bq, 0, none⟩)), (6, .int .i64 i), (79, .pointer (some ⟨bq, 1, none⟩)), (80, .slice (some ⟨g, o, none⟩) b.S.length c2), (81, .int .i64 i), (82, .int .i64 ((i : Int) - 1)), (83, .pointer (some ⟨g, o + ((i : Int) - 1).toNat * 3, none⟩)), (85, .pointer (some ⟨bq, 1, none⟩)), (87, .int .i64 i)]) (fun _ => [(bq, 50, bkV b ⟨a1, some ⟨g, o, none⟩, a3, a4, c1, c2, c3, c4⟩)]) ?_ (fun hd1 => ?_)
          · rintro ⟨⟩
            refine AtD.fork [5, 7, 11, 12] (by kernel_rfl) (by simp) (fun i hi => ?_)
            simp only [List.mem_cons, List.not_mem_nil, or_false] at hi
            rcases hi with rfl | rfl | rfl | rfl
            · refine StepD.by [] rfl rfl rfl rfl trivial (OpOk.one true [] [hR [.int .i64 x0, .int .i64 x1, .int .i64 x2]] rfl r1 ?_)
              exact AtD.weak (hd2 ()) ⟨rfl, rfl, rfl, rfl, rfl, rfl, rfl, rfl, rfl, rfl, trivial⟩
            · refine StepD.by [] rfl rfl rfl rfl trivial (OpOk.one true [] [hB 0] rfl rfl ?_)
              refine AtD.pures (ob := True) true (by kernel_rfl) [9] (fuel := 6) (by kernel_rfl) rfl oK ?_
              exact AtD.weak (hd18 ()) ⟨rfl, rfl, rfl, rfl, rfl, rfl, rfl, rfl, rfl, rfl, rfl, trivial⟩
            · refine StepD.by [] rfl rfl rfl rfl trivial (OpOk.alloc (cs := i64s [0, 0, 0]) rfl (by kernel_rfl) fun b7 hb7 => ?_)
              exact AtD.weak (hd26 (b7)) ⟨rfl, rfl, rfl, rfl, rfl, rfl, rfl, rfl, rfl, rfl, trivial⟩
            · refine StepD.by [] rfl rfl rfl rfl trivial (OpOk.alloc (cs := i64s [0, 0, 0]) rfl (by kernel_rfl) fun b8 hb8 => ?_)
              exact AtD.weak (hd28 (b8)) ⟨rfl, rfl, rfl, rfl, rfl, rfl, rfl, rfl, rfl, rfl, trivial⟩
          refine AtD.cut (ι := Nat × Nat) 5 #[true, false, true, true, false, false, true, true, true, true, true, true, true, false, false] (fun ⟨b7, b8⟩ => [(1, .pointer (some ⟨bq, 0, none⟩)), (6, .int .i64 i), (79, .pointer (some ⟨bq, 1, none⟩)), (81, .int .i64 i), (82, .int .i64 ((i : Int) - 1)), (85, .pointer (some ⟨bq, 1, none⟩)), (86, .slice (some ⟨g, o, none⟩) b.S.length c2), (87, .int .i64 i), (88, .pointer (some ⟨g, o + (i : Int).toNat * 3, none⟩)), (89, .agg ⟨[.int .i64 y0, .int .i64 y1, .int .i64 y2]⟩), (7, .pointer (some ⟨b7, 0, none⟩)), (8, .pointer (some ⟨b8, 0, none⟩))]) (fun ⟨b7, b8⟩ => [(b7, 105, i64s [0, 0, 0]), (b8, 105, i64s [0, 0, 0]), (bq, 50, bkV b ⟨a1, some ⟨g, o, none⟩, a3, a4, c1, c2, c3, c4⟩)]) ?_ (fun hd32 => ?_)
          · rintro ⟨b7, b8⟩
            refine AtD.fork1 1 (by kernel_rfl) ?_
            refine StepD.by [] rfl rfl rfl rfl trivial (OpOk.one true [] [hB 2] rfl rfl ?_)
            refine AtD.pures (ob := True) true (by kernel_rfl) [4] (fuel := 3) (by kernel_rfl) rfl oK ?_
            exact AtD.weak (hd21 (b7, b8)) ⟨rfl, rfl, rfl, rfl, rfl, rfl, rfl, rfl, rfl, rfl, rfl, rfl, rfl, rfl, trivial⟩
          refine AtD.cut (ι := Nat) 6 #[true, false, true, true, false, false, true, true, true, true, true, true, false, false, false] (fun b7 => [(1, .pointer (some ⟨bq, 0, none⟩)), (6, .int .i64 i), (79, .pointer (some ⟨bq, 1, none⟩)), (81, .int .i64 i), (82, .int .i64 ((i : Int) - 1)), (85, .pointer (some ⟨bq, 1, none⟩)), (86, .slice (some ⟨g, o, none⟩) b.S.length c2), (87, .int .i64 i), (88, .pointer (some ⟨g, o + (i : Int).toNat * 3, none⟩)), (89, .agg ⟨[.int .i64 y0, .int .i64 y1, .int .i64 y2]⟩), (7, .pointer (some ⟨b7, 0, none⟩))]) (fun b7 => [(b7, 105, i64s [0, 0, 0]), (bq, 50, bkV b ⟨a1, some ⟨g, o, none⟩, a3, a4, c1, c2, c3, c4⟩)]) ?_ (fun hd31 => ?_)
          · rintro b7
            refine AtD.fork [1, 12] (by kernel_rfl) (by simp) (fun i hi => ?_)
            simp only [List.mem_cons, List.not_mem_nil, or_false] at hi
            rcases hi with rfl | rfl
            · refine StepD.by [] rfl rfl rfl rfl trivial (OpOk.one true [] [hB 1] rfl rfl ?_)
              refine AtD.pures (ob := True) true (by kernel_rfl) [4] (fuel := 4) (by kernel_rfl) rfl oK ?_
              exact AtD.weak (hd20 (b7)) ⟨rfl, rfl, rfl, rfl, rfl, rfl, rfl, rfl, rfl, rfl, rfl, rfl, rfl, trivial⟩
            · refine StepD.by [] rfl rfl rfl rfl trivial (OpOk.alloc (cs := i64s [0, 0, 0]) rfl (by kernel_rfl) fun b8 hb8 => ?_)
              refine AtD.perm (List.Perm.swap _ _ _) ?_
              exact AtD.weak (hd32 (b7, b8)) ⟨rfl, rfl, rfl, rfl, rfl, rfl, rfl, rfl, rfl, rfl, rfl, rfl, trivial⟩
          refine AtD.cut (ι := Nat) 6 #[true, false, true, true, false, false, true, true, true, true, true, false, true, false, false] (fun b8 => [(1, .pointer (some ⟨bq, 0, none⟩)), (6, .int .i64 i), (79, .pointer (some ⟨bq, 1, none⟩)), (81, .int .i64 i), (82, .int .i64 ((i : Int) - 1)), (85, .pointer (some ⟨bq, 1, none⟩)), (86, .slice (some ⟨g, o, none⟩) b.S.length c2), (87, .int .i64 i), (88, .pointer (some ⟨g, o + (i : Int).toNat * 3, none⟩)), (89, .agg ⟨[.int .i64 y0, .int .i64 y1, .int .i64 y2]⟩), (8, .pointer (some ⟨b8, 0, none⟩))]) (fun b8 => [(b8, 105, i64s [0, 0, 0]), (bq, 50, bkV b ⟨a1, some ⟨g, o, none⟩, a3, a4, c1, c2, c3, c4⟩)]) ?_ (fun hd33 => ?_)
          · rintro b8
            refine AtD.fork [1, 11] (by kernel_rfl) (by simp) (fun i hi => ?_)
            simp only [List.mem_cons, List.not_mem_nil, or_false] at hi
            rcases hi with rfl | rfl
            · refine StepD.by [] rfl rfl rfl rfl trivial (OpOk.one true [] [hB 1] rfl rfl ?_)
              refine AtD.pures (ob := True) true (by kernel_rfl) [4] (fuel := 4) (by kernel_rfl) rfl oK ?_
              exact AtD.weak (hd22 (b8)) ⟨rfl, rfl, rfl, rfl, rfl, rfl, rfl, rfl, rfl, rfl, rfl, rfl, rfl, trivial⟩
            · refine StepD.by [] rfl rfl rfl rfl trivial (OpOk.alloc (cs := i64s [0, 0, 0]) rfl (by kernel_rfl) fun b7 hb7 => ?_)
              exact AtD.weak (hd32 (b7, b8)) ⟨rfl, rfl, rfl, rfl, rfl, rfl, rfl, rfl, rfl, rfl, rfl, rfl, trivial⟩
          refine AtD.cut (ι := Unit) 7 #[true, false, true, true, false, false, true, true, true, true, true, false, false, false, false] (fun _ => [(1, .pointer (some ⟨bq, 0, none⟩)), (6, .int .i64 i), (79, .pointer (some ⟨bq, 1, none⟩)), (81, .int .i64 i), (82, .int .i64 ((i : Int) - 1)), (85, .pointer (some ⟨bq, 1, none⟩)), (86, .slice (some ⟨g, o, none⟩) b.S.length c2), (87, .int .i64 i), (88, .pointer (some ⟨g, o + (i : Int).toNat * 3, none⟩)), (89, .agg ⟨[.int .i64 y0, .int .i64 y1, .int .i64 y2]⟩)]) (fun _ => [(bq, 50, bkV b ⟨a1, some ⟨g, o, none⟩, a3, a4, c1, c2, c3, c4⟩)]) ?_ (fun hd30 => ?_)
          · rintro ⟨⟩
            refine AtD.fork [1, 11, 12] (by kernel_rfl) (by simp) (fun i hi => ?_)
            simp only [List.mem_cons, List.not_mem_nil, or_false] at hi
            rcases hi with rfl | rfl | rfl
            · refine StepD.by [] rfl rfl rfl rfl trivial (OpOk.one true [] [hB 0] rfl rfl ?_)
              refine AtD.pures (ob := True) true (by kernel_rfl) [4] (fuel := 5) (by kernel_rfl) rfl oK ?_
              exact AtD.weak (hd19 ()) ⟨rfl, rfl, rfl, rfl, rfl, rfl, rfl, rfl, rfl, rfl, rfl, rfl, trivial⟩
            · refine StepD.by [] rfl rfl rfl rfl trivial (OpOk.alloc (cs := i64s [0, 0, 0]) rfl (by kernel_rfl) fun b7 hb7 => ?_)
              exact AtD.weak (hd31 (b7)) ⟨rfl, rfl, rfl, rfl, rfl, rfl, rfl, rfl, rfl, rfl, rfl, trivial⟩
            · refine StepD.by [] rfl rfl rfl rfl trivial (OpOk.alloc (cs := i64s [0, 0, 0]) rfl (by kernel_rfl) fun b8 hb8 => ?_)
              exact AtD.weak (hd33 (b8)) ⟨rfl, rfl, rfl, rfl, rfl, rfl, rfl, rfl, rfl, rfl, rfl, trivial⟩
          refine AtD.cut (ι := Nat × Nat) 6 #[true, false, true, true, false, false, true, true, true, true, false, true, true, false, false] (fun ⟨b7, b8⟩ => [(1, .pointer (some ⟨bq, 0, none⟩)), (6, .int .i64 i), (79, .pointer (some ⟨bq, 1, none⟩)), (81, .int .i64 i), (82, .int .i64 ((i : Int) - 1)), (85, .pointer (some ⟨bq, 1, none⟩)), (86, .slice (some ⟨g, o, none⟩) b.S.length c2), (87, .int .i64 i), (88, .pointer (some ⟨g, o + (i : Int).toNat * 3, none⟩)), (7, .pointer (some ⟨b7, 0, none⟩)), (8, .pointer (some ⟨b8, 0, none⟩))]) (fun ⟨b7, b8⟩ => [(b7, 105, i64s [0, 0, 0]), (b8, 105, i64s [0, 0, 0]), (bq, 50, bkV b ⟨a1, some ⟨g, o, none⟩, a3, a4, c1, c2, c3, c4⟩)]) ?_ (fun hd35 => ?_)
          · rintro ⟨b7, b8⟩
            refine AtD.fork [1, 10] (by kernel_rfl) (by simp) (fun i hi => ?_)
            simp only [List.mem_cons, List.not_mem_nil, or_false] at hi
            rcases hi with rfl | rfl
            · refine StepD.by [] rfl rfl rfl rfl trivial (OpOk.one true [] [hB 2] rfl rfl ?_)
              refine AtD.pures (ob := True) true (by kernel_rfl) [4] (fuel := 4) (by kernel_rfl) rfl oK ?_
              exact AtD.weak (hd24 (b7, b8)) ⟨rfl, rfl, rfl, rfl, rfl, rfl, rfl, rfl, rfl, rfl, rfl, rfl, rfl, trivial⟩
            · refine StepD.by [] rfl rfl rfl rfl trivial (OpOk.one true [] [hR [.int .i64 y0, .int .i64 y1, .int .i64 y2]] rfl r2 ?_)
              exact AtD.weak (hd32 (b7, b8)) ⟨rfl, rfl, rfl, rfl, rfl, rfl, rfl, rfl, rfl, rfl, rfl, rfl, trivial⟩
          refine AtD.cut (ι := Nat) 7 #[true, false, true, true, false, false, true, true, true, true, false, true, false, false, false] (fun b7 => [(1, .pointer (some ⟨bq, 0, none⟩)), (6, .int .i64 i), (79, .pointer (some ⟨bq, 1, none⟩)), (81, .int .i64 i), (82, .int .i64 ((i : Int) - 1)), (85, .pointer (some ⟨bq, 1, none⟩)), (86, .slice (some ⟨g, o, none⟩) b.S.length c2), (87, .int .i64 i), (88, .pointer (some ⟨g, o + (i : Int).toNat * 3, none⟩)), (7, .pointer (some ⟨b7, 0, none⟩))]) (fun b7 => [(b7, 105, i64s [0, 0, 0]), (bq, 50, bkV b ⟨a1, some ⟨g, o, none⟩, a3, a4, c1, c2, c3, c4⟩)]) ?_ (fun hd34 => ?_)
          · rintro b7
            refine AtD.fork [1, 10, 12] (by kernel_rfl) (by simp) (fun i hi => ?_)
            simp only [List.mem_cons, List.not_mem_nil, or_false] at hi
            rcases hi with rfl | rfl | rfl
            · refine StepD.by [] rfl rfl rfl rfl trivial (OpOk.one true [] [hB 1] rfl rfl ?_)
              refine AtD.pures (ob := True) true (by kernel_rfl) [4] (fuel := 5) (by kernel_rfl) rfl oK ?_
              exact AtD.weak (hd23 (b7)) ⟨rfl, rfl, rfl, rfl, rfl, rfl, rfl, rfl, rfl, rfl, rfl, rfl, trivial⟩
            · refine StepD.by [] rfl rfl rfl rfl trivial (OpOk.one true [] [hR [.int .i64 y0, .int .i64 y1, .int .i64 y2]] rfl r2 ?_)
              exact AtD.weak (hd31 (b7)) ⟨rfl, rfl, rfl, rfl, rfl, rfl, rfl, rfl, rfl, rfl, rfl, trivial⟩
            · refine StepD.by [] rfl rfl rfl rfl trivial (OpOk.alloc (cs := i64s [0, 0, 0]) rfl (by kernel_rfl) fun b8 hb8 => ?_)
              refine AtD.perm (List.Perm.swap _ _ _) ?_
              exact AtD.weak (hd35 (b7, b8)) ⟨rfl, rfl, rfl, rfl, rfl, rfl, rfl, rfl, rfl, rfl, rfl, trivial⟩
          refine AtD.cut (ι := Nat) 7 #[true, false, true, true, false, false, true, true, true, true, false, false, true, false, false] (fun b8 => [(1, .pointer (some ⟨bq, 0, none⟩)), (6, .int .i64 i), (79, .pointer (some ⟨bq, 1, none⟩)), (81, .int .i64 i), (82, .int .i64 ((i : Int) - 1)), (85, .pointer (some ⟨bq, 1, none⟩)), (86, .slice (some ⟨g, o, none⟩) b.S.length c2), (87, .int .i64 i), (88, .pointer (some ⟨g, o + (i : Int).toNat * 3, none⟩)), (8, .pointer (some ⟨b8, 0, none⟩))]) (fun b8 => [(b8, 105, i64s [0, 0, 0]), (bq, 50, bkV b ⟨a1, some ⟨g, o, none⟩, a3, a4, c1, c2, c3, c4⟩)]) ?_ (fun hd36 => ?_)
          · rintro b8
            refine AtD.fork [1, 10, 11] (by kernel_rfl) (by simp) (fun i hi => ?_)
            simp only [List.mem_cons, List.not_mem_nil, or_false] at hi
            rcases hi with rfl | rfl | rfl
            · refine StepD.by [] rfl rfl rfl rfl trivial (OpOk.one true [] [hB 1] rfl rfl ?_)
              refine AtD.pures (ob := True) true (by kernel_rfl) [4] (fuel := 5) (by kernel_rfl) rfl oK ?_
              exact AtD.weak (hd25 (b8)) ⟨rfl, rfl, rfl, rfl, rfl, rfl, rfl, rfl, rfl, rfl, rfl, rfl, trivial⟩
            · refine StepD.by [] rfl rfl rfl rfl trivial (OpOk.one true [] [hR [.int .i64 y0, .int .i64 y1, .int .i64 y2]] rfl r2 ?_)
              exact AtD.weak (hd33 (b8)) ⟨rfl, rfl, rfl, rfl, rfl, rfl, rfl, rfl, rfl, rfl, rfl, trivial⟩
            · refine StepD.by [] rfl rfl rfl rfl trivial (OpOk.alloc (cs := i64s [0, 0, 0]) rfl (by kernel_rfl) fun b7 hb7 => ?_)
              exact AtD.weak (hd35 (b7, b8)) ⟨rfl, rfl, rfl, rfl, rfl, rfl, rfl, rfl, rfl, rfl, rfl, trivial⟩
          refine AtD.cut (ι := Unit) 8 #[true, false, true, true, false, false, true, true, true, true, false, false, false, false, false] (fun _ => [(1, .pointer (some ⟨bq, 0, none⟩)), (6, .int .i64 i), (79, .pointer (some ⟨bq, 1, none⟩)), (81, .int .i64 i), (82, .int .i64 ((i : Int) - 1)), (85, .pointer (some ⟨bq, 1, none⟩)), (86, .slice (some ⟨g, o, none⟩) b.S.length c2), (87, .int .i64 i), (88, .pointer (some ⟨g, o + (i : Int).toNat * 3, none⟩))]) (fun _ => [(bq, 50, bkV b ⟨a1, some ⟨g, o, none⟩, a3, a4, c1, c2, c3, c4⟩)]) ?_ (fun hd29 => ?_)
          · rintro ⟨⟩
            refine AtD.fork [1, 10, 11, 12] (by kernel_rfl) (by simp) (fun i hi => ?_)
            simp only [List.mem_cons, List.not_mem_nil, or_false] at hi
            rcases hi with rfl | rfl | rfl | rfl
            · refine StepD.by [] rfl rfl rfl rfl trivial (OpOk.one true [] [hB 0] rfl rfl ?_)
              refine AtD.pures (ob := True) true (by kernel_rfl) [4] (fuel := 6) (by kernel_rfl) rfl oK ?_
              exact AtD.weak (hd18 ()) ⟨rfl, rfl, rfl, rfl, rfl, rfl, rfl, rfl, rfl, rfl, rfl, trivial⟩
            · refine StepD.by [] rfl rfl rfl rfl trivial (OpOk.one true [] [hR [.int .i64 y0, .int .i64 y1, .int .i64 y2]] rfl r2 ?_)
              exact AtD.weak (hd30 ()) ⟨rfl, rfl, rfl, rfl, rfl, rfl, rfl, rfl, rfl, rfl, trivial⟩
            · refine StepD.by [] rfl rfl rfl rfl trivial (OpOk.alloc (cs := i64s [0, 0, 0]) rfl (by kernel_rfl) fun b7 hb7 => ?_)
              exact AtD.weak (hd34 (b7)) ⟨rfl, rfl, rfl, rfl, rfl, rfl, rfl, rfl, rfl, rfl, trivial⟩
            · refine StepD.by [] rfl rfl rfl rfl trivial (OpOk.alloc (cs := i64s [0, 0, 0]) rfl (by kernel_rfl) fun b8 hb8 => ?_)
              exact AtD.weak (hd36 (b8)) ⟨rfl, rfl, rfl, rfl, rfl, rfl, rfl, rfl, rfl, rfl, trivial⟩
          refine AtD.cut (ι := Nat × Nat) 8 #[true, false, true, true, false, false, true, false, true, false, false, true, true, false, false] (fun ⟨b7, b8⟩ => [(1, .pointer (some ⟨bq, 0, none⟩)), (6, .int .i64 i), (79, .pointer (some ⟨bq, 1, none⟩)), (81, .int .i64 i), (82, .int .i64 ((i : Int) - 1)), (85, .pointer (some ⟨bq, 1, none⟩)), (87, .int .i64 i), (7, .pointer (some ⟨b7, 0, none⟩)), (8, .pointer (some ⟨b8, 0, none⟩))]) (fun ⟨b7, b8⟩ => [(b7, 105, i64s [0, 0, 0]), (b8, 105, i64s [0, 0, 0]), (bq, 50, bkV b ⟨a1, some ⟨g, o, none⟩, a3, a4, c1, c2, c3, c4⟩)]) ?_ (fun hd38 => ?_)
          · rintro ⟨b7, b8⟩
            refine AtD.fork [1, 7] (by kernel_rfl) (by simp) (fun i hi => ?_)
            simp only [List.mem_cons, List.not_mem_nil, or_false] at hi
            rcases hi with rfl | rfl
            · refine StepD.by [] rfl rfl rfl rfl trivial (OpOk.one true [] [hB 2] rfl rfl ?_)
              refine AtD.pures (ob := True) true (by kernel_rfl) [4] (fuel := 6) (by kernel_rfl) rfl oK ?_
              exact AtD.weak (hd27 (b7, b8)) ⟨rfl, rfl, rfl, rfl, rfl, rfl, rfl, rfl, rfl, rfl, rfl, trivial⟩
            · refine StepD.by [] rfl rfl rfl rfl trivial (OpOk.one true [] [hB 2] rfl rfl ?_)
              refine AtD.pures (ob := True) true (by kernel_rfl) [9] (fuel := 6) (by kernel_rfl) rfl oK ?_
              exact AtD.weak (hd35 (b7, b8)) ⟨rfl, rfl, rfl, rfl, rfl, rfl, rfl, rfl, rfl, rfl, rfl, trivial⟩
          refine AtD.cut (ι := Nat) 9 #[true, false, true, true, false, false, true, false, true, false, false, true, false, false, false] (fun b7 => [(1, .pointer (some ⟨bq, 0, none⟩)), (6, .int .i64 i), (79, .pointer (some ⟨bq, 1, none⟩)), (81, .int .i64 i), (82, .int .i64 ((i : Int) - 1)), (85, .pointer (some ⟨bq, 1, none⟩)), (87, .int .i64 i), (7, .pointer (some ⟨b7, 0, none⟩))]) (fun b7 => [(b7, 105, i64s [0, 0, 0]), (bq, 50, bkV b ⟨a1, some ⟨g, o, none⟩, a3, a4, c1, c2, c3, c4⟩)]) ?_ (fun hd37 => ?_)
          · rintro b7
            refine AtD.fork [1, 7, 12] (by kernel_rfl) (by simp) (fun i hi => ?_)
            simp only [List.mem_cons, List.not_mem_nil, or_false] at hi
            rcases hi with rfl | rfl | rfl
            · refine StepD.by [] rfl rfl rfl rfl trivial (OpOk.one true [] [hB 1] rfl rfl ?_)
              refine AtD.pures (ob := True) true (by kernel_rfl) [4] (fuel := 7) (by kernel_rfl) rfl oK ?_
              exact AtD.weak (hd26 (b7)) ⟨rfl, rfl, rfl, rfl, rfl, rfl, rfl, rfl, rfl, rfl, trivial⟩
            · refine StepD.by [] rfl rfl rfl rfl trivial (OpOk.one true [] [hB 1] rfl rfl ?_)
              refine AtD.pures (ob := True) true (by kernel_rfl) [9] (fuel := 7) (by kernel_rfl) rfl oK ?_
              exact AtD.weak (hd34 (b7)) ⟨rfl, rfl, rfl, rfl, rfl, rfl, rfl, rfl, rfl, rfl, trivial⟩
            · refine StepD.by [] rfl rfl rfl rfl trivial (OpOk.alloc (cs := i64s [0, 0, 0]) rfl (by kernel_rfl) fun b8 hb8 => ?_)
              refine AtD.perm (List.Perm.swap _ _ _) ?_
              exact AtD.weak (hd38 (b7, b8)) ⟨rfl, rfl, rfl, rfl, rfl, rfl, rfl, rfl, rfl, trivial⟩
          refine AtD.cut (ι := Nat) 9 #[true, false, true, true, false, false, true, false, true, false, false, false, true, false, false] (fun b8 => [(1, .pointer (some ⟨bq, 0, none⟩)), (6, .int .i64 i), (79, .pointer (some ⟨bq, 1, none⟩)), (81, .int .i64 i), (82, .int .i64 ((i : Int) - 1)), (85, .pointer (some ⟨bq, 1, none⟩)), (87, .int .i64 i), (8, .pointer (some ⟨b8, 0, none⟩))]) (fun b8 => [(b8, 105, i64s [0, 0, 0]), (bq, 50, bkV b ⟨a1, some ⟨g, o, none⟩, a3, a4, c1, c2, c3, c4⟩)]) ?_ (fun hd39 => ?_)
          · rintro b8
            refine AtD.fork [1, 7, 11] (by kernel_rfl) (by simp) (fun i hi => ?_)
            simp only [List.mem_cons, List.not_mem_nil, or_false] at hi
            rcases hi with rfl | rfl | rfl
            · refine StepD.by [] rfl rfl rfl rfl trivial (OpOk.one true [] [hB 1] rfl rfl ?_)
              refine AtD.pures (ob := True) true (by kernel_rfl) [4] (fuel := 7) (by kernel_rfl) rfl oK ?_
              exact AtD.weak (hd28 (b8)) ⟨rfl, rfl, rfl, rfl, rfl, rfl, rfl, rfl, rfl, rfl, trivial⟩
            · refine StepD.by [] rfl rfl rfl rfl trivial (OpOk.one true [] [hB 1] rfl rfl ?_)
              refine AtD.pures (ob := True) true (by kernel_rfl) [9] (fuel := 7) (by kernel_rfl) rfl oK ?_
              exact AtD.weak (hd36 (b8)) ⟨rfl, rfl, rfl, rfl, rfl, rfl, rfl, rfl, rfl, rfl, trivial⟩
            · refine StepD.by [] rfl rfl rfl rfl trivial (OpOk.alloc (cs := i64s [0, 0, 0]) rfl (by kernel_rfl) fun b7 hb7 => ?_)
              exact AtD.weak (hd38 (b7, b8)) ⟨rfl, rfl, rfl, rfl, rfl, rfl, rfl, rfl, rfl, trivial⟩
          refine AtD.cut (ι := Unit) 10 #[true, false, true, true, false, false, true, false, true, false, false, false, false, false, false] (fun _ => [(1, .pointer (some ⟨bq, 0, none⟩)), (6, .int .i64 i), (79, .pointer (some ⟨bq, 1, none⟩)), (81, .int .i64 i), (82, .int .i64 ((i : Int) - 1)), (85, .pointer (some ⟨bq, 1, none⟩)), (87, .int .i64 i)]) (fun _ => [(bq, 50, bkV b ⟨a1, some ⟨g, o, none⟩, a3, a4, c1, c2, c3, c4⟩)]) ?_ (fun hd0 => ?_)
          · rintro ⟨⟩
            refine AtD.fork [1, 7, 11, 12] (by kernel_rfl) (by simp) (fun i hi => ?_)
            simp only [List.mem_cons, List.not_mem_nil, or_false] at hi
            rcases hi with rfl | rfl | rfl | rfl
            · refine StepD.by [] rfl rfl rfl rfl trivial (OpOk.one true [] [hB 0] rfl rfl ?_)
              refine AtD.pures (ob := True) true (by kernel_rfl) [4] (fuel := 8) (by kernel_rfl) rfl oK ?_
              exact AtD.weak (hd1 ()) ⟨rfl, rfl, rfl, rfl, rfl, rfl, rfl, rfl, rfl, trivial⟩
            · refine StepD.by [] rfl rfl rfl rfl trivial (OpOk.one true [] [hB 0] rfl rfl ?_)
              refine AtD.pures (ob := True) true (by kernel_rfl) [9] (fuel := 8) (by kernel_rfl) rfl oK ?_
              exact AtD.weak (hd29 ()) ⟨rfl, rfl, rfl, rfl, rfl, rfl, rfl, rfl, rfl, trivial⟩
            · refine StepD.by [] rfl rfl rfl rfl trivial (OpOk.alloc (cs := i64s [0, 0, 0]) rfl (by kernel_rfl) fun b7 hb7 => ?_)
              exact AtD.weak (hd37 (b7)) ⟨rfl, rfl, rfl, rfl, rfl, rfl, rfl, rfl, trivial⟩
            · refine StepD.by [] rfl rfl rfl rfl trivial (OpOk.alloc (cs := i64s [0, 0, 0]) rfl (by kernel_rfl) fun b8 hb8 => ?_)
              exact AtD.weak (hd39 (b8)) ⟨rfl, rfl, rfl, rfl, rfl, rfl, rfl, rfl, trivial⟩
          refine AtD.pures (ob := True) true (by kernel_rfl) [0, 2, 3, 6, 8] (fuel := 10) (by kernel_rfl) rfl oK ?_
          exact AtD.weak (hd0 ()) ⟨rfl, rfl, rfl, rfl, rfl, rfl, rfl, trivial⟩
        · refine At.run 100 true [false] [hB 0] rfl oK ?_
          have hrS := ris_ok hall (by omega)
          clear ih hall
          refine At.run 100 true [] [] rfl trivial ?_
          exact At.retK [] [] [] rfl rfl Tryz.func192 rfl trivial ⟨by rw [hrH, hrO, hrR, hrS]; rfl, rfl, rfl⟩

end Go.Proofs

/-
  Walks of layer 12: the reference's books, on.
-/
namespace Go.Proofs
open Go Go.Eng
set_option maxRecDepth 100000
set_option maxHeartbeats 4000000
attribute [local irreducible] Tri

theorem fnd_first {l : List (List Int)} {i : Nat} {x : List Int} {k : Int} (hno : ∀ j y, j < i → l[j]? = some y → k0 y ≠ k) (hx : l[i]? = some x) (hk : k0 x = k) : fnd l k = some x := by
  unfold fnd
  rw [List.find?_eq_some_iff_append]
  refine ⟨by simpa using hk, l.take i, l.drop (i + 1), ?_, ?_⟩
  · obtain ⟨hlt, he⟩ := List.getElem?_eq_some_iff.1 hx
    conv => lhs; rw [← List.take_append_drop i l, List.drop_eq_getElem_cons hlt, he]
  · intro y hy
    obtain ⟨j, hj, rfl⟩ := List.mem_take_iff_getElem.1 hy
    have := hno j l[j] (by omega) (List.getElem?_eq_getElem (by omega))
    simpa using this
theorem fnd_none {l : List (List Int)} {k : Int} (hno : ∀ j y, j < l.length → l[j]? = some y → k0 y ≠ k) : fnd l k = none := by
  unfold fnd
  rw [List.find?_eq_none]
  intro x hx
  obtain ⟨j, hj, rfl⟩ := List.mem_iff_getElem.1 hx
  have := hno j _ hj (List.getElem?_eq_getElem hj)
  simpa using this
theorem no_next {l : List (List Int)} {i : Nat} {x : List Int} {k : Int} (hno : ∀ j y, j < i → l[j]? = some y → k0 y ≠ k) (hx : l[i]? = some x) (hk : k0 x ≠ k) : ∀ j y, j < i + 1 → l[j]? = some y → k0 y ≠ k := by
  intro j y hj hy
  by_cases h : j = i
  · subst h; rw [hx] at hy; cases hy; exact hk
  · exact hno j y (by omega) hy

theorem mayF1 {b : Bk} (h : listsB b = false) : mayB b = false := by simp [mayB, h]
theorem mayF2 {b : Bk} (h : b.c < 0 ∨ 1099511627776 < b.c) : mayB b = false := by
  have : decide (0 ≤ b.c ∧ b.c ≤ 1099511627776) = false := decide_eq_false (by omega)
  simp [mayB, this]
theorem mayF3 {b : Bk} (h : b.H.any badH = true) : mayB b = false := by unfold mayB; rw [h]; simp
theorem mayF4 {b : Bk} (h : b.R.any badR = true) : mayB b = false := by unfold mayB; rw [h]; simp
theorem mayF5 {b : Bk} (h : b.S.any (badS b) = true) : mayB b = false := by unfold mayB; rw [h]; simp
theorem mayF6 {b : Bk} (h : b.O.any (badO b) = true) : mayB b = false := by unfold mayB; rw [h]; simp
theorem mayT {b : Bk} (h0 : listsB b = true) (h1 : 0 ≤ b.c ∧ b.c ≤ 1099511627776) (h3 : b.H.any badH = false) (h4 : b.R.any badR = false) (h5 : b.S.any (badS b) = false) (h6 : b.O.any (badO b) = false) : mayB b = true := by
  unfold mayB; rw [h0, h3, h4, h5, h6, decide_eq_true h1]; rfl
theorem any_all {p : List Int → Bool} {l : List (List Int)} {i : Nat} (h : (l.take i).any p = false) (hi : l.length ≤ i) : l.any p = false := by rw [List.take_of_length_le hi] at h; exact h

theorem Tryz.rHolder_w (b : Bk) (A : BkA) (k : Int) (w : World) (hi : BkIn b) (ho : BkOk w b A) :
    Fun Tryz.prog 252 [.agg ⟨bkV b A⟩, .int .i64 k] w (.tuple #[.agg ⟨i64s ((fnd b.H k).getD [0, 0, 0, 0])⟩, .bool (fnd b.H k).isSome]) := by
  refine Tri.enter (bx := []) (hp := []) Tryz.func252 rfl (by kernel_rfl) rfl (Own.nil w) ?_
  obtain ⟨a1, a2, a3, a4, c1, c2, c3, c4⟩ := A
  have h1 : SlOk w a1 (b.H.flatMap i64s) := ho.h1
  have h2 : SlOk w a2 (b.S.flatMap i64s) := ho.h2
  have h3 : SlOk w a3 (b.O.flatMap i64s) := ho.h3
  have h4 : SlOk w a4 (b.R.flatMap i64s) := ho.h4
  have l1 := hi.l1
  have l2 := hi.l2
  have l3 := hi.l3
  have l4 := hi.l4
  refine At.run 100 true [] [] rfl trivial ?_
  refine At.step [] rfl rfl rfl rfl rfl trivial (OpOk.box rfl rfl rfl fun bq hbq => ?_)
  refine At.step [] rfl rfl rfl rfl rfl trivial (OpOk.alloc (cs := i64s [0, 0, 0, 0]) rfl (by kernel_rfl) fun b4 hb4 => ?_)
  refine At.run 100 true [] [] rfl trivial ?_
  refine At.loop (n := b.H.length) (env0 := [(1, .int .i64 k), (2, .pointer (some ⟨bq, 0, none⟩)), (4, .pointer (some ⟨b4, 0, none⟩)), (6, .int .i64 0)]) (fun m env bx hp => ∃ i : Nat, m = b.H.length - i ∧ i ≤ b.H.length ∧ (∀ j y, j < i → b.H[j]? = some y → k0 y ≠ k) ∧
    env = [(1, .int .i64 k), (2, .pointer (some ⟨bq, 0, none⟩)), (4, .pointer (some ⟨b4, 0, none⟩)), (6, .int .i64 i)] ∧ bx = [(b4, 103, i64s [0, 0, 0, 0]), (bq, 50, bkV b ⟨a1, a2, a3, a4, c1, c2, c3, c4⟩)] ∧ hp = []) rfl ⟨0, rfl, by omega, fun j y h => by omega, rfl, rfl, rfl⟩ ⟨rfl, rfl, rfl, rfl, trivial⟩ ?_
  rintro m env bx hp ⟨i, rfl, hi2, hno, rfl, rfl, rfl⟩ ih
  by_cases hlt : i < b.H.length
  · obtain ⟨x, hx⟩ : ∃ x, b.H[i]? = some x := ⟨_, List.getElem?_eq_getElem hlt⟩
    have hm := List.mem_of_getElem? hx
    obtain ⟨g, o, rfl, hc⟩ := h1.get (slNe (by decide) hi.r1.len hx)
    have r1 : ∀ {bx : Bx} {hp : List Seg}, RdW ⟨w, kys [] []⟩ bx hp g (o + (i : Int).toNat * 4) (i64s x) := fun {_ _} => RdW.rec hi.r1.len hc (by simp [kys]) hx (by omega)
    have hf := fun h => fnd_first (k := k) hno hx h
    have hn := fun h => no_next hno hx h
    obtain ⟨x0, x1, x2, x3, rfl⟩ := len4 (hi.r1.len x hm)
    by_cases hk : x0 = k
    · refine At.run 100 true [true, true] [hB 1, hB 1, hR [.int .i64 x0], hB 1, hR [.int .i64 x0, .int .i64 x1, .int .i64 x2, .int .i64 x3], hB 0] rfl (by and_intros <;> first | exact RdW.at r1 0 rfl | exact r1 | exact decide_eq_true hk | exact oK) ?_
      exact At.retK [] [] [hB 0] rfl rfl Tryz.func252 rfl oK ⟨by rw [hf hk]; rfl, rfl, rfl⟩
    · refine At.run 100 true [true, false] [hB 1, hB 1, hR [.int .i64 x0]] rfl (by and_intros <;> first | exact RdW.at r1 0 rfl | exact decide_eq_false hk | exact oK) ?_
      refine At.weak (ih (b.H.length - (i + 1)) _ _ _ (by omega) ⟨i + 1, rfl, by omega, hn hk, rfl, rfl, rfl⟩) ⟨rfl, rfl, rfl, some_int_eq (by omega), trivial⟩
  · have : i = b.H.length := by omega
    subst this
    refine At.run 100 true [false] [hB 1, hB 0] rfl oK ?_
    exact At.retK [] [] [hB 0] rfl rfl Tryz.func252 rfl oK ⟨by rw [fnd_none hno]; rfl, rfl, rfl⟩

theorem Tryz.rRate_w (b : Bk) (A : BkA) (k : Int) (w : World) (hi : BkIn b) (ho : BkOk w b A) :
    Fun Tryz.prog 253 [.agg ⟨bkV b A⟩, .int .i64 k] w (.tuple #[.int .i64 (k1 ((fnd b.R k).getD [0, 0])), .bool (fnd b.R k).isSome]) := by
  refine Tri.enter (bx := []) (hp := []) Tryz.func253 rfl (by kernel_rfl) rfl (Own.nil w) ?_
  obtain ⟨a1, a2, a3, a4, c1, c2, c3, c4⟩ := A
  have h1 : SlOk w a1 (b.H.flatMap i64s) := ho.h1
  have h2 : SlOk w a2 (b.S.flatMap i64s) := ho.h2
  have h3 : SlOk w a3 (b.O.flatMap i64s) := ho.h3
  have h4 : SlOk w a4 (b.R.flatMap i64s) := ho.h4
  have l1 := hi.l1
  have l2 := hi.l2
  have l3 := hi.l3
  have l4 := hi.l4
  refine At.run 100 true [] [] rfl trivial ?_
  refine At.step [] rfl rfl rfl rfl rfl trivial (OpOk.box rfl rfl rfl fun bq hbq => ?_)
  refine At.run 100 true [] [] rfl trivial ?_
  refine At.loop (n := b.R.length) (env0 := [(1, .int .i64 k), (2, .pointer (some ⟨bq, 0, none⟩)), (6, .int .i64 0)]) (fun m env bx hp => ∃ i : Nat, m = b.R.length - i ∧ i ≤ b.R.length ∧ (∀ j y, j < i → b.R[j]? = some y → k0 y ≠ k) ∧
    env = [(1, .int .i64 k), (2, .pointer (some ⟨bq, 0, none⟩)), (6, .int .i64 i)] ∧ bx = [(bq, 50, bkV b ⟨a1, a2, a3, a4, c1, c2, c3, c4⟩)] ∧ hp = []) rfl ⟨0, rfl, by omega, fun j y h => by omega, rfl, rfl, rfl⟩ ⟨rfl, rfl, rfl, trivial⟩ ?_
  rintro m env bx hp ⟨i, rfl, hi2, hno, rfl, rfl, rfl⟩ ih
  by_cases hlt : i < b.R.length
  · obtain ⟨x, hx⟩ : ∃ x, b.R[i]? = some x := ⟨_, List.getElem?_eq_getElem hlt⟩
    have hm := List.mem_of_getElem? hx
    obtain ⟨g, o, rfl, hc⟩ := h4.get (slNe (by decide) hi.r4.len hx)
    have r1 : ∀ {bx : Bx} {hp : List Seg}, RdW ⟨w, kys [] []⟩ bx hp g (o + (i : Int).toNat * 2) (i64s x) := fun {_ _} => RdW.rec hi.r4.len hc (by simp [kys]) hx (by omega)
    have hf := fun h => fnd_first (k := k) hno hx h
    have hn := fun h => no_next hno hx h
    obtain ⟨x0, x1, rfl⟩ := len2 (hi.r4.len x hm)
    by_cases hk : x0 = k
    · refine At.run 100 true [true, true] [hB 0, hB 0, hR [.int .i64 x0], hB 0, hR [.int .i64 x1]] rfl (by and_intros <;> first | exact RdW.at r1 0 rfl | exact RdW.at r1 1 rfl | exact decide_eq_true hk | exact oK) ?_
      exact At.retK [] [] [] rfl rfl Tryz.func253 rfl trivial ⟨by rw [hf hk]; rfl, rfl, rfl⟩
    · refine At.run 100 true [true, false] [hB 0, hB 0, hR [.int .i64 x0]] rfl (by and_intros <;> first | exact RdW.at r1 0 rfl | exact decide_eq_false hk | exact oK) ?_
      refine At.weak (ih (b.R.length - (i + 1)) _ _ _ (by omega) ⟨i + 1, rfl, by omega, hn hk, rfl, rfl, rfl⟩) ⟨rfl, rfl, some_int_eq (by omega), trivial⟩
  · have : i = b.R.length := by omega
    subst this
    refine At.run 100 true [false] [hB 0] rfl oK ?_
    exact At.retK [] [] [] rfl rfl Tryz.func253 rfl trivial ⟨by rw [fnd_none hno]; rfl, rfl, rfl⟩

theorem Tryz.rthere_w (b : Bk) (A : BkA) (acc sym : Int) (w : World) (hi : BkIn b) (ho : BkOk w b A) :
    Fun Tryz.prog 193 [.agg ⟨bkV b A⟩, .int .i64 acc, .int .i64 sym] w (.bool (thereB b acc sym)) := by
  refine Tri.enter (bx := []) (hp := []) Tryz.func193 rfl (by kernel_rfl) rfl (Own.nil w) ?_
  refine At.run 100 true [] [] rfl trivial ?_
  refine At.step [] rfl rfl rfl rfl rfl trivial (OpOk.box rfl rfl rfl fun bq hbq => ?_)
  have h1 : ∀ {bx : Bx} {hp : List Seg}, CallOb Tryz.prog ⟨w, kys [] []⟩ bx hp 252 [.agg ⟨bkV b A⟩, .int .i64 acc] (.tuple #[.agg ⟨i64s ((fnd b.H acc).getD [0, 0, 0, 0])⟩, .bool (fnd b.H acc).isSome]) := fun {_ _} w' hw' => Tryz.rHolder_w b A acc w' hi (ho.ext hw'.ext (by simp [kys]))
  have h4 : ∀ {bx : Bx} {hp : List Seg}, CallOb Tryz.prog ⟨w, kys [] []⟩ bx hp 253 [.agg ⟨bkV b A⟩, .int .i64 sym] (.tuple #[.int .i64 (k1 ((fnd b.R sym).getD [0, 0])), .bool (fnd b.R sym).isSome]) := fun {_ _} w' hw' => Tryz.rRate_w b A sym w' hi (ho.ext hw'.ext (by simp [kys]))
  unfold thereB
  obtain ⟨x, f, hx, hl⟩ : ∃ x f, (fnd b.H acc).getD [0, 0, 0, 0] = x ∧ x.length = 4 ∧ (fnd b.H acc).isSome = f := by
    refine ⟨_, _, rfl, ?_, rfl⟩
    cases h : fnd b.H acc with
    | none => rfl
    | some x => exact hi.r1.len x (fnd_mem h)
  obtain ⟨hl, hf2⟩ := hl
  rw [hx, hf2] at h1
  rw [hf2]
  obtain ⟨x0, x1, x2, x3, rfl⟩ := len4 hl
  generalize (fnd b.R sym).isSome = f4 at *
  generalize k1 ((fnd b.R sym).getD [0, 0]) = p4 at *
  refine At.run 100 true [] [hB 0, hC (.tuple #[.agg ⟨i64s [x0, x1, x2, x3]⟩, .bool f])] rfl (by and_intros <;> first | exact h1 | exact oK) ?_
  refine At.step [] rfl rfl rfl rfl rfl trivial (OpOk.alloc (cs := i64s [0, 0, 0, 0]) rfl (by kernel_rfl) fun b2 hb2 => ?_)
  cases f with
  | true =>
    refine At.run 100 true [true] [hB 0, hB 1, hC (.tuple #[.int .i64 p4, .bool f4])] rfl (by and_intros <;> first | exact h4 | exact oK) ?_
    exact At.retK [] [] [] rfl rfl Tryz.func193 rfl trivial ⟨rfl, rfl, rfl⟩
  | false =>
    refine At.run 100 true [false] [hB 0, hB 1, hC (.tuple #[.int .i64 p4, .bool f4])] rfl (by and_intros <;> first | exact h4 | exact oK) ?_
    exact At.retK [] [] [] rfl rfl Tryz.func193 rfl trivial ⟨rfl, rfl, rfl⟩

theorem Tryz.rMay_w (b : Bk) (A : BkA) (w : World) (hi : BkIn b) (ho : BkOk w b A) : Fun Tryz.prog 98 [.agg ⟨bkV b A⟩] w (.bool (mayB b)) := by
  refine Tri.enter (bx := []) (hp := []) Tryz.func98 rfl (by kernel_rfl) rfl (Own.nil w) ?_
  obtain ⟨a1, a2, a3, a4, c1, c2, c3, c4⟩ := A
  have h1 : SlOk w a1 (b.H.flatMap i64s) := ho.h1
  have h2 : SlOk w a2 (b.S.flatMap i64s) := ho.h2
  have h3 : SlOk w a3 (b.O.flatMap i64s) := ho.h3
  have h4 : SlOk w a4 (b.R.flatMap i64s) := ho.h4
  have l1 := hi.l1
  have l2 := hi.l2
  have l3 := hi.l3
  have l4 := hi.l4
  refine At.run 100 true [] [] rfl trivial ?_
  refine At.step [] rfl rfl rfl rfl rfl trivial (OpOk.box rfl rfl rfl fun bq hbq => ?_)
  have hR : ∀ {bx : Bx} {hp : List Seg}, CallOb Tryz.prog ⟨w, kys [] []⟩ bx hp 192 [.agg ⟨bkV b ⟨a1, a2, a3, a4, c1, c2, c3, c4⟩⟩] (.bool (ris lt1 b.H && (ris lt1 b.O && (ris lt1 b.R && ris lt2 b.S)))) := fun {_ _} w' hw' => Tryz.rRise_w b ⟨a1, a2, a3, a4, c1, c2, c3, c4⟩ w' hi (ho.ext hw'.ext (by simp [kys]))
  have hLd : listsB b = (decide (b.H.length ≤ 32) && (decide (b.O.length ≤ 64) && (decide (b.R.length ≤ 32) && (ris lt1 b.H && (ris lt1 b.O && (ris lt1 b.R && ris lt2 b.S)))))) := rfl
  generalize (ris lt1 b.H && (ris lt1 b.O && (ris lt1 b.R && ris lt2 b.S))) = q at *
  cases q with
  | false =>
    refine At.run 100 true [true, true, true, true, true, true] [hB 0, hC (.bool false)] rfl (by and_intros <;> first | exact hR | exact oK) ?_
    exact At.retK [] [] [] rfl rfl Tryz.func98 rfl trivial ⟨by rw [mayF1 (by rw [hLd]; simp)]; rfl, rfl, rfl⟩
  | true =>
    by_cases g1 : 32 < b.H.length
    · refine At.run 100 true [false, true, true, true, true, true] [hB 0, hC (.bool true), hB 0] rfl (by and_intros <;> first | exact hR | exact oK) ?_
      exact At.retK [] [] [] rfl rfl Tryz.func98 rfl trivial ⟨by rw [mayF1 (by rw [hLd, decide_eq_false (by omega : ¬ b.H.length ≤ 32)]; rfl)]; rfl, rfl, rfl⟩
    by_cases g2 : 64 < b.O.length
    · refine At.run 100 true [false, false, true, true, true, true] [hB 0, hC (.bool true), hB 0, hB 0] rfl (by and_intros <;> first | exact hR | exact oK) ?_
      exact At.retK [] [] [] rfl rfl Tryz.func98 rfl trivial ⟨by rw [mayF1 (by rw [hLd, decide_eq_false (by omega : ¬ b.O.length ≤ 64)]; simp)]; rfl, rfl, rfl⟩
    by_cases g3 : 32 < b.R.length
    · refine At.run 100 true [false, false, false, true, true, true] [hB 0, hC (.bool true), hB 0, hB 0, hB 0] rfl (by and_intros <;> first | exact hR | exact oK) ?_
      exact At.retK [] [] [] rfl rfl Tryz.func98 rfl trivial ⟨by rw [mayF1 (by rw [hLd, decide_eq_false (by omega : ¬ b.R.length ≤ 32)]; simp)]; rfl, rfl, rfl⟩
    have eL : listsB b = true := by rw [hLd, decide_eq_true (by omega : b.H.length ≤ 32), decide_eq_true (by omega : b.O.length ≤ 64), decide_eq_true (by omega : b.R.length ≤ 32)]; rfl
    by_cases g4 : b.c < 0
    · refine At.run 100 true [false, false, false, false, true, true] [hB 0, hC (.bool true), hB 0, hB 0, hB 0, hB 0] rfl (by and_intros <;> first | exact hR | exact oK) ?_
      exact At.retK [] [] [] rfl rfl Tryz.func98 rfl trivial ⟨by rw [mayF2 (.inl g4)]; rfl, rfl, rfl⟩
    by_cases g5 : 1099511627776 < b.c
    · refine At.run 100 true [false, false, false, false, false, true] [hB 0, hC (.bool true), hB 0, hB 0, hB 0, hB 0, hB 0] rfl (by and_intros <;> first | exact hR | exact oK) ?_
      exact At.retK [] [] [] rfl rfl Tryz.func98 rfl trivial ⟨by rw [mayF2 (.inr g5)]; rfl, rfl, rfl⟩
    refine At.run 100 true [false, false, false, false, false, false] [hB 0, hC (.bool true), hB 0, hB 0, hB 0, hB 0, hB 0] rfl (by and_intros <;> first | exact hR | exact oK) ?_
    clear hLd hR
    refine At.loop (n := b.H.length) (env0 := [(1, .pointer (some ⟨bq, 0, none⟩)), (3, .int .i64 0)]) (fun m env bx hp => ∃ i : Nat, m = b.H.length - i ∧ i ≤ b.H.length ∧ (b.H.take i).any (badH) = false ∧
      env = [(1, .pointer (some ⟨bq, 0, none⟩)), (3, .int .i64 i)] ∧ bx = [(bq, 50, bkV b ⟨a1, a2, a3, a4, c1, c2, c3, c4⟩)] ∧ hp = []) rfl ⟨0, rfl, by omega, by simp, rfl, rfl, rfl⟩ ⟨rfl, rfl, trivial⟩ ?_
    rintro m env bx hp ⟨i, rfl, hi2, hno, rfl, rfl, rfl⟩ ih
    by_cases hlt : i < b.H.length
    · obtain ⟨x, hx⟩ : ∃ x, b.H[i]? = some x := ⟨_, List.getElem?_eq_getElem hlt⟩
      have hm := List.mem_of_getElem? hx
      obtain ⟨g, o, rfl, hc⟩ := h1.get (slNe (by decide) hi.r1.len hx)
      have r1 : ∀ {bx : Bx} {hp : List Seg}, RdW ⟨w, kys [] []⟩ bx hp g (o + (i : Int).toNat * 4) (i64s x) := fun {_ _} => RdW.rec hi.r1.len hc (by simp [kys]) hx (by omega)
      have hy := fun h => any_mem (p := badH) hx h
      have hn := fun h => any_take (p := badH) hx hno h
      obtain ⟨x0, x1, x2, x3, rfl⟩ := len4 (hi.r1.len x hm)
      have e : badH [x0, x1, x2, x3] = (decide (x2 < 0) || decide (x3 < 0)) := rfl
      by_cases g1 : x2 < 0
      · refine At.run 100 true [true, true, true] [hB 0, hB 0, hR [.int .i64 x2]] rfl (by and_intros <;> first | exact RdW.at r1 2 rfl | exact oK) ?_
        exact At.retK [] [] [] rfl rfl Tryz.func98 rfl trivial ⟨by rw [mayF3 (hy (by rw [e]; simp [g1]))]; rfl, rfl, rfl⟩
      · by_cases g2 : x3 < 0
        · refine At.run 100 true [true, false, true] [hB 0, hB 0, hR [.int .i64 x2], hB 0, hR [.int .i64 x3]] rfl (by and_intros <;> first | exact RdW.at r1 2 rfl | exact RdW.at r1 3 rfl | exact oK) ?_
          exact At.retK [] [] [] rfl rfl Tryz.func98 rfl trivial ⟨by rw [mayF3 (hy (by rw [e]; simp [g2]))]; rfl, rfl, rfl⟩
        · refine At.run 100 true [true, false, false] [hB 0, hB 0, hR [.int .i64 x2], hB 0, hR [.int .i64 x3]] rfl (by and_intros <;> first | exact RdW.at r1 2 rfl | exact RdW.at r1 3 rfl | exact oK) ?_
          refine At.weak (ih (b.H.length - (i + 1)) _ _ _ (by omega) ⟨i + 1, rfl, by omega, hn (by rw [e]; simp [g1, g2] <;> omega), rfl, rfl, rfl⟩) ⟨rfl, some_int_eq (by omega), trivial⟩
    · refine At.run 100 true [false] [hB 0] rfl oK ?_
      have hallH := any_all hno (by omega)
      clear ih hno hlt
      refine At.loop (n := b.R.length) (env0 := [(1, .pointer (some ⟨bq, 0, none⟩)), (4, .int .i64 0)]) (fun m env bx hp => ∃ i : Nat, m = b.R.length - i ∧ i ≤ b.R.length ∧ (b.R.take i).any (badR) = false ∧
        env = [(1, .pointer (some ⟨bq, 0, none⟩)), (4, .int .i64 i)] ∧ bx = [(bq, 50, bkV b ⟨a1, a2, a3, a4, c1, c2, c3, c4⟩)] ∧ hp = []) rfl ⟨0, rfl, by omega, by simp, rfl, rfl, rfl⟩ ⟨rfl, rfl, trivial⟩ ?_
      rintro m env bx hp ⟨i, rfl, hi2, hno, rfl, rfl, rfl⟩ ih
      by_cases hlt : i < b.R.length
      · obtain ⟨x, hx⟩ : ∃ x, b.R[i]? = some x := ⟨_, List.getElem?_eq_getElem hlt⟩
        have hm := List.mem_of_getElem? hx
        obtain ⟨g, o, rfl, hc⟩ := h4.get (slNe (by decide) hi.r4.len hx)
        have r1 : ∀ {bx : Bx} {hp : List Seg}, RdW ⟨w, kys [] []⟩ bx hp g (o + (i : Int).toNat * 2) (i64s x) := fun {_ _} => RdW.rec hi.r4.len hc (by simp [kys]) hx (by omega)
        have hy := fun h => any_mem (p := badR) hx h
        have hn := fun h => any_take (p := badR) hx hno h
        obtain ⟨x0, x1, rfl⟩ := len2 (hi.r4.len x hm)
        have e : badR [x0, x1] = decide (x1 < 1) := rfl
        by_cases g1 : x1 < 1
        · refine At.run 100 true [true, true] [hB 0, hB 0, hR [.int .i64 x1]] rfl (by and_intros <;> first | exact RdW.at r1 1 rfl | exact oK) ?_
          exact At.retK [] [] [] rfl rfl Tryz.func98 rfl trivial ⟨by rw [mayF4 (hy (by rw [e]; simp [g1]))]; rfl, rfl, rfl⟩
        · refine At.run 100 true [true, false] [hB 0, hB 0, hR [.int .i64 x1]] rfl (by and_intros <;> first | exact RdW.at r1 1 rfl | exact oK) ?_
          refine At.weak (ih (b.R.length - (i + 1)) _ _ _ (by omega) ⟨i + 1, rfl, by omega, hn (by rw [e]; exact decide_eq_false g1), rfl, rfl, rfl⟩) ⟨rfl, some_int_eq (by omega), trivial⟩
      · refine At.run 100 true [false] [hB 0] rfl oK ?_
        have hallR := any_all hno (by omega)
        clear ih hno hlt
        refine At.loop (n := b.S.length) (env0 := [(1, .pointer (some ⟨bq, 0, none⟩)), (5, .int .i64 0)]) (fun m env bx hp => ∃ i : Nat, m = b.S.length - i ∧ i ≤ b.S.length ∧ (b.S.take i).any (badS b) = false ∧
          env = [(1, .pointer (some ⟨bq, 0, none⟩)), (5, .int .i64 i)] ∧ bx = [(bq, 50, bkV b ⟨a1, a2, a3, a4, c1, c2, c3, c4⟩)] ∧ hp = []) rfl ⟨0, rfl, by omega, by simp, rfl, rfl, rfl⟩ ⟨rfl, rfl, trivial⟩ ?_
        rintro m env bx hp ⟨i, rfl, hi2, hno, rfl, rfl, rfl⟩ ih
        by_cases hlt : i < b.S.length
        · obtain ⟨x, hx⟩ : ∃ x, b.S[i]? = some x := ⟨_, List.getElem?_eq_getElem hlt⟩
          have hm := List.mem_of_getElem? hx
          obtain ⟨g, o, rfl, hc⟩ := h2.get (slNe (by decide) hi.r2.len hx)
          have r1 : ∀ {bx : Bx} {hp : List Seg}, RdW ⟨w, kys [] []⟩ bx hp g (o + (i : Int).toNat * 3) (i64s x) := fun {_ _} => RdW.rec hi.r2.len hc (by simp [kys]) hx (by omega)
          have hy := fun h => any_mem (p := badS b) hx h
          have hn := fun h => any_take (p := badS b) hx hno h
          obtain ⟨x0, x1, x2, rfl⟩ := len3 (hi.r2.len x hm)
          have e : badS b [x0, x1, x2] = (decide (x2 = 0) || !thereB b x0 x1) := rfl
          refine At.run 100 true [true] [hB 0] rfl oK ?_
          by_cases g1 : x2 = 0
          · refine At.quiet true [true] [hB 0, hR [.int .i64 x2]] ⟨by kernel_rfl, by kernel_rfl, rfl, rfl, rfl⟩ rfl rfl rfl (by and_intros <;> first | exact RdW.at r1 2 rfl | exact decide_eq_true g1 | exact oK) ?_
            refine At.run 100 true [true] [] rfl (by and_intros <;> first | exact decide_eq_true g1 | exact oK) ?_
            exact At.retK [] [] [] rfl rfl Tryz.func98 rfl trivial ⟨by rw [mayF5 (hy (by rw [e]; simp [g1]))]; rfl, rfl, rfl⟩
          · have ht : ∀ {bx : Bx} {hp : List Seg}, CallOb Tryz.prog ⟨w, kys [] []⟩ bx hp 193 [.agg ⟨bkV b ⟨a1, some ⟨g, o, none⟩, a3, a4, c1, c2, c3, c4⟩⟩, .int .i64 x0, .int .i64 x1] (.bool (thereB b x0 x1)) := fun {_ _} w' hw' => Tryz.rthere_w b ⟨a1, some ⟨g, o, none⟩, a3, a4, c1, c2, c3, c4⟩ x0 x1 w' hi (ho.ext hw'.ext (by simp [kys]))
            refine At.quiet true [false] [hB 0, hR [.int .i64 x2], hB 0, hB 0, hR [.int .i64 x0], hB 0, hR [.int .i64 x1], hC (.bool (thereB b x0 x1))] ⟨by kernel_rfl, by kernel_rfl, rfl, rfl, rfl⟩ rfl rfl rfl (by and_intros <;> first | exact RdW.at r1 2 rfl | exact RdW.at r1 0 rfl | exact RdW.at r1 1 rfl | exact decide_eq_false g1 | exact ht | exact oK) ?_
            cases ht2 : thereB b x0 x1 with
            | true =>
              refine At.run 100 true [false] [] rfl oK ?_
              refine At.weak (ih (b.S.length - (i + 1)) _ _ _ (by omega) ⟨i + 1, rfl, by omega, hn (by rw [e, ht2]; simp [g1]), rfl, rfl, rfl⟩) ⟨rfl, some_int_eq (by omega), trivial⟩
            | false =>
              refine At.run 100 true [true] [] rfl oK ?_
              exact At.retK [] [] [] rfl rfl Tryz.func98 rfl trivial ⟨by rw [mayF5 (hy (by rw [e, ht2]; simp))]; rfl, rfl, rfl⟩
        · refine At.run 100 true [false] [hB 0] rfl oK ?_
          have hallS := any_all hno (by omega)
          clear ih hno hlt
          refine At.loop (n := b.O.length) (env0 := [(1, .pointer (some ⟨bq, 0, none⟩)), (6, .int .i64 0)]) (fun m env bx hp => ∃ i : Nat, m = b.O.length - i ∧ i ≤ b.O.length ∧ (b.O.take i).any (badO b) = false ∧
            env = [(1, .pointer (some ⟨bq, 0, none⟩)), (6, .int .i64 i)] ∧ bx = [(bq, 50, bkV b ⟨a1, a2, a3, a4, c1, c2, c3, c4⟩)] ∧ hp = []) rfl ⟨0, rfl, by omega, by simp, rfl, rfl, rfl⟩ ⟨rfl, rfl, trivial⟩ ?_
          rintro m env bx hp ⟨i, rfl, hi2, hno, rfl, rfl, rfl⟩ ih
          by_cases hlt : i < b.O.length
          · obtain ⟨x, hx⟩ : ∃ x, b.O[i]? = some x := ⟨_, List.getElem?_eq_getElem hlt⟩
            have hm := List.mem_of_getElem? hx
            obtain ⟨g, o, rfl, hc⟩ := h3.get (slNe (by decide) hi.r3.len hx)
            have r1 : ∀ {bx : Bx} {hp : List Seg}, RdW ⟨w, kys [] []⟩ bx hp g (o + (i : Int).toNat * 6) (i64s x) := fun {_ _} => RdW.rec hi.r3.len hc (by simp [kys]) hx (by omega)
            have hy := fun h => any_mem (p := badO b) hx h
            have hn := fun h => any_take (p := badO b) hx hno h
            obtain ⟨x0, x1, x2, x3, x4, x5, rfl⟩ := len6 (hi.r3.len x hm)
            have e : badO b [x0, x1, x2, x3, x4, x5] = (decide (x4 < 1) || (decide (x5 < 1) || (decide (x3 < 0) || (decide (1 < x3) || !thereB b x1 x2)))) := rfl
            refine At.run 100 true [true] [hB 0, hB 0, hR [.int .i64 x0, .int .i64 x1, .int .i64 x2, .int .i64 x3, .int .i64 x4, .int .i64 x5]] rfl (by and_intros <;> first | exact r1 | exact oK) ?_
            refine At.step [] rfl rfl rfl rfl rfl trivial (OpOk.alloc (cs := i64s [0, 0, 0, 0, 0, 0]) rfl (by kernel_rfl) fun b7 hb7 => ?_)
            by_cases g1 : x4 < 1
            · refine At.run 100 true [true, true, true, true] [hB 0, hB 0] rfl oK ?_
              exact At.retK [] [] [] rfl rfl Tryz.func98 rfl trivial ⟨by rw [mayF6 (hy (by rw [e]; simp [g1]))]; rfl, rfl, rfl⟩
            by_cases g2 : x5 < 1
            · refine At.run 100 true [false, true, true, true] [hB 0, hB 0, hB 0] rfl oK ?_
              exact At.retK [] [] [] rfl rfl Tryz.func98 rfl trivial ⟨by rw [mayF6 (hy (by rw [e]; simp [g2]))]; rfl, rfl, rfl⟩
            have ht : ∀ {bx : Bx} {hp : List Seg}, CallOb Tryz.prog ⟨w, kys [] []⟩ bx hp 193 [.agg ⟨bkV b ⟨a1, a2, some ⟨g, o, none⟩, a4, c1, c2, c3, c4⟩⟩, .int .i64 x1, .int .i64 x2] (.bool (thereB b x1 x2)) := fun {_ _} w' hw' => Tryz.rthere_w b ⟨a1, a2, some ⟨g, o, none⟩, a4, c1, c2, c3, c4⟩ x1 x2 w' hi (ho.ext hw'.ext (by simp [kys]))
            by_cases g3 : x3 = 0
            · cases ht2 : thereB b x1 x2 with
              | true =>
                rw [ht2] at ht
                refine At.run 100 true [false, false, false, false, false] [hB 0, hB 0, hB 0, hB 0, hB 1, hB 0, hB 0, hC (.bool true)] rfl (by and_intros <;> first | exact ht | exact oK) ?_
                refine At.keep [false, true] [] rfl ?_
                refine At.weak (ih (b.O.length - (i + 1)) _ _ _ (by omega) ⟨i + 1, rfl, by omega, hn (by rw [e, ht2]; simp [g1, g2, g3] <;> omega), rfl, rfl, rfl⟩) ⟨rfl, some_int_eq (by omega), trivial⟩
              | false =>
                rw [ht2] at ht
                refine At.run 100 true [false, false, false, false, true] [hB 0, hB 0, hB 0, hB 0, hB 1, hB 0, hB 0, hC (.bool false)] rfl (by and_intros <;> first | exact ht | exact oK) ?_
                exact At.retK [] [] [] rfl rfl Tryz.func98 rfl trivial ⟨by rw [mayF6 (hy (by rw [e, ht2]; simp))]; rfl, rfl, rfl⟩
            by_cases g4 : x3 = 1
            · cases ht2 : thereB b x1 x2 with
              | true =>
                rw [ht2] at ht
                refine At.run 100 true [false, false, true, false, false] [hB 0, hB 0, hB 0, hB 0, hB 0, hB 1, hB 0, hB 0, hC (.bool true)] rfl (by and_intros <;> first | exact ht | simp [g3]; done | simp [g4]; done | exact oK) ?_
                refine At.keep [false, true] [] rfl ?_
                refine At.weak (ih (b.O.length - (i + 1)) _ _ _ (by omega) ⟨i + 1, rfl, by omega, hn (by rw [e, ht2]; simp [g1, g2, g4] <;> omega), rfl, rfl, rfl⟩) ⟨rfl, some_int_eq (by omega), trivial⟩
              | false =>
                rw [ht2] at ht
                refine At.run 100 true [false, false, true, false, true] [hB 0, hB 0, hB 0, hB 0, hB 0, hB 1, hB 0, hB 0, hC (.bool false)] rfl (by and_intros <;> first | exact ht | simp [g3]; done | simp [g4]; done | exact oK) ?_
                exact At.retK [] [] [] rfl rfl Tryz.func98 rfl trivial ⟨by rw [mayF6 (hy (by rw [e, ht2]; simp))]; rfl, rfl, rfl⟩
            refine At.run 100 true [false, false, true, true, true] [hB 0, hB 0, hB 0, hB 0, hB 0] rfl (by and_intros <;> first | simp [g3]; done | simp [g4]; done | exact oK) ?_
            exact At.retK [] [] [] rfl rfl Tryz.func98 rfl trivial ⟨by rw [mayF6 (hy (by rw [e]; simp; omega))]; rfl, rfl, rfl⟩
          · refine At.run 100 true [false] [hB 0] rfl oK ?_
            have hallO := any_all hno (by omega)
            clear ih hno hlt
            exact At.retK [] [] [] rfl rfl Tryz.func98 rfl trivial ⟨by rw [mayT eL ⟨by omega, by omega⟩ hallH hallR hallS hallO]; rfl, rfl, rfl⟩

end Go.Proofs

/-
  Walks of layer 12: are two books alike?
-/
namespace Go.Proofs
open Go Go.Eng
set_option maxRecDepth 100000
set_option maxHeartbeats 4000000
attribute [local irreducible] Tri

/-- Are two books alike? -/
def sameB (a b : Bk) : Bool := decide (a.H = b.H ∧ a.S = b.S ∧ a.O = b.O ∧ a.R = b.R ∧ a.c = b.c)
theorem sameF {a b : Bk} (h : ¬ (a.H = b.H ∧ a.S = b.S ∧ a.O = b.O ∧ a.R = b.R ∧ a.c = b.c)) : sameB a b = false := decide_eq_false h
theorem ne_of_get {l m : List (List Int)} {i : Nat} {x y : List Int} (hx : l[i]? = some x) (hy : m[i]? = some y) (h : x ≠ y) : l ≠ m := by
  intro e; subst e; rw [hx] at hy; cases hy; exact h rfl
theorem take_next {l m : List (List Int)} {i : Nat} {x : List Int} (ht : l.take i = m.take i) (hx : l[i]? = some x) (hy : m[i]? = some x) : l.take (i + 1) = m.take (i + 1) := by
  rw [List.take_add_one, List.take_add_one, hx, hy, ht]
theorem eq_take {l m : List (List Int)} {i : Nat} (ht : l.take i = m.take i) (h1 : l.length ≤ i) (h2 : m.length ≤ i) : l = m := by
  rw [List.take_of_length_le h1, List.take_of_length_le h2] at ht; exact ht
theorem ch4 {x0 x1 x2 x3 y0 y1 y2 y3 : Int} : (decide (x0 = y0) && (decide (x1 = y1) && (decide (x2 = y2) && decide (x3 = y3)))) = decide ([x0, x1, x2, x3] = [y0, y1, y2, y3]) := by rw [Bool.eq_iff_iff]; simp
theorem ch3 {x0 x1 x2 y0 y1 y2 : Int} : (decide (x0 = y0) && (decide (x1 = y1) && decide (x2 = y2))) = decide ([x0, x1, x2] = [y0, y1, y2]) := by rw [Bool.eq_iff_iff]; simp
theorem ch6 {x0 x1 x2 x3 x4 x5 y0 y1 y2 y3 y4 y5 : Int} : (decide (x0 = y0) && (decide (x1 = y1) && (decide (x2 = y2) && (decide (x3 = y3) && (decide (x4 = y4) && decide (x5 = y5)))))) = decide ([x0, x1, x2, x3, x4, x5] = [y0, y1, y2, y3, y4, y5]) := by rw [Bool.eq_iff_iff]; simp
theorem ch2 {x0 x1 y0 y1 : Int} : (decide (x0 = y0) && decide (x1 = y1)) = decide ([x0, x1] = [y0, y1]) := by rw [Bool.eq_iff_iff]; simp

theorem Tryz.rSame_w (a b : Bk) (A B : BkA) (w : World) (ha : BkIn a) (hb : BkIn b) (hoa : BkOk w a A) (hob : BkOk w b B) : Fun Tryz.prog 20 [.agg ⟨bkV a A⟩, .agg ⟨bkV b B⟩] w (.bool (sameB a b)) := by
  refine Tri.enter (bx := []) (hp := []) Tryz.func20 rfl (by kernel_rfl) rfl (Own.nil w) ?_
  obtain ⟨a1, a2, a3, a4, c1, c2, c3, c4⟩ := A
  obtain ⟨b1, b2, b3, b4, d1, d2, d3, d4⟩ := B
  have h1 : SlOk w a1 (a.H.flatMap i64s) := hoa.h1
  have h2 : SlOk w a2 (a.S.flatMap i64s) := hoa.h2
  have h3 : SlOk w a3 (a.O.flatMap i64s) := hoa.h3
  have h4 : SlOk w a4 (a.R.flatMap i64s) := hoa.h4
  have h1' : SlOk w b1 (b.H.flatMap i64s) := hob.h1
  have h2' : SlOk w b2 (b.S.flatMap i64s) := hob.h2
  have h3' : SlOk w b3 (b.O.flatMap i64s) := hob.h3
  have h4' : SlOk w b4 (b.R.flatMap i64s) := hob.h4
  have l1 := ha.l1
  have l2 := ha.l2
  have l3 := ha.l3
  have l4 := ha.l4
  refine At.run 100 true [] [] rfl trivial ?_
  refine At.step [] rfl rfl rfl rfl rfl trivial (OpOk.box rfl rfl rfl fun bq hbq => ?_)
  refine At.step [] rfl rfl rfl rfl rfl trivial (OpOk.box rfl rfl rfl fun br hbr => ?_)
  refine At.run 100 true [] [] rfl trivial ?_
  by_cases g0 : a.H.length ≠ b.H.length
  · refine At.run 100 true [true, true, true, true, true] [hB 1, hB 0] rfl (by and_intros <;> first | simp; omega | exact oK) ?_
    exact At.retK [] [] [] rfl rfl Tryz.func20 rfl trivial ⟨by rw [sameF (fun h => g0 (by rw [h.1]))]; rfl, rfl, rfl⟩
  by_cases g1 : a.S.length ≠ b.S.length
  · refine At.run 100 true [false, true, true, true, true] [hB 1, hB 0, hB 1, hB 0] rfl (by and_intros <;> first | simp; omega | exact oK) ?_
    exact At.retK [] [] [] rfl rfl Tryz.func20 rfl trivial ⟨by rw [sameF (fun h => g1 (by rw [h.2.1]))]; rfl, rfl, rfl⟩
  by_cases g2 : a.O.length ≠ b.O.length
  · refine At.run 100 true [false, false, true, true, true] [hB 1, hB 0, hB 1, hB 0, hB 1, hB 0] rfl (by and_intros <;> first | simp; omega | exact oK) ?_
    exact At.retK [] [] [] rfl rfl Tryz.func20 rfl trivial ⟨by rw [sameF (fun h => g2 (by rw [h.2.2.1]))]; rfl, rfl, rfl⟩
  by_cases g3 : a.R.length ≠ b.R.length
  · refine At.run 100 true [false, false, false, true, true] [hB 1, hB 0, hB 1, hB 0, hB 1, hB 0, hB 1, hB 0] rfl (by and_intros <;> first | simp; omega | exact oK) ?_
    exact At.retK [] [] [] rfl rfl Tryz.func20 rfl trivial ⟨by rw [sameF (fun h => g3 (by rw [h.2.2.2.1]))]; rfl, rfl, rfl⟩
  by_cases g4 : a.c ≠ b.c
  · refine At.run 100 true [false, false, false, false, true] [hB 1, hB 0, hB 1, hB 0, hB 1, hB 0, hB 1, hB 0, hB 1, hB 0] rfl (by and_intros <;> first | simp; omega | exact oK) ?_
    exact At.retK [] [] [] rfl rfl Tryz.func20 rfl trivial ⟨by rw [sameF (fun h => g4 h.2.2.2.2)]; rfl, rfl, rfl⟩
  refine At.run 100 true [false, false, false, false, false] [hB 1, hB 0, hB 1, hB 0, hB 1, hB 0, hB 1, hB 0, hB 1, hB 0] rfl (by and_intros <;> first | simp; omega | exact oK) ?_
  refine At.loop (n := a.H.length) (env0 := [(2, .pointer (some ⟨bq, 0, none⟩)), (3, .pointer (some ⟨br, 0, none⟩)), (5, .int .i64 0)]) (fun m env bx hp => ∃ i : Nat, m = a.H.length - i ∧ i ≤ a.H.length ∧ a.H.take i = b.H.take i ∧
    env = [(2, .pointer (some ⟨bq, 0, none⟩)), (3, .pointer (some ⟨br, 0, none⟩)), (5, .int .i64 i)] ∧ bx = [(br, 50, bkV b ⟨b1, b2, b3, b4, d1, d2, d3, d4⟩), (bq, 50, bkV a ⟨a1, a2, a3, a4, c1, c2, c3, c4⟩)] ∧ hp = []) rfl ⟨0, rfl, by omega, by simp, rfl, rfl, rfl⟩ ⟨rfl, rfl, rfl, trivial⟩ ?_
  rintro m env bx hp ⟨i, rfl, hi2, hno, rfl, rfl, rfl⟩ ih
  by_cases hlt : i < a.H.length
  · obtain ⟨x, hx⟩ : ∃ x, a.H[i]? = some x := ⟨_, List.getElem?_eq_getElem hlt⟩
    obtain ⟨y, hy⟩ : ∃ y, b.H[i]? = some y := ⟨_, List.getElem?_eq_getElem (by omega)⟩
    have hmx := List.mem_of_getElem? hx
    have hmy := List.mem_of_getElem? hy
    obtain ⟨g, o, rfl, hc⟩ := h1.get (slNe (by decide) ha.r1.len hx)
    obtain ⟨g2, o2, rfl, hc2⟩ := h1'.get (slNe (by decide) hb.r1.len hy)
    have r1 : ∀ {bx : Bx} {hp : List Seg}, RdW ⟨w, kys [] []⟩ bx hp g (o + (i : Int).toNat * 4) (i64s x) := fun {_ _} => RdW.rec ha.r1.len hc (by simp [kys]) hx (by omega)
    have r2 : ∀ {bx : Bx} {hp : List Seg}, RdW ⟨w, kys [] []⟩ bx hp g2 (o2 + (i : Int).toNat * 4) (i64s y) := fun {_ _} => RdW.rec hb.r1.len hc2 (by simp [kys]) hy (by omega)
    have hne := fun h => ne_of_get hx hy h
    have hn := fun (h : x = y) => take_next hno hx (by rw [h]; exact hy)
    obtain ⟨x0, x1, x2, x3, rfl⟩ := len4 (ha.r1.len x hmx)
    obtain ⟨y0, y1, y2, y3, rfl⟩ := len4 (hb.r1.len y hmy)
    refine At.run 100 true [true] [hB 1] rfl oK ?_
    refine At.quiet true [] [hB 1, hR [.int .i64 x0, .int .i64 x1, .int .i64 x2, .int .i64 x3], hB 0, hR [.int .i64 y0, .int .i64 y1, .int .i64 y2, .int .i64 y3]] ⟨by kernel_rfl, by kernel_rfl, rfl, rfl, rfl⟩ rfl rfl rfl (by and_intros <;> first | exact r1 | exact r2 | exact oK) ?_
    rw [ch4]
    by_cases hxy : [x0, x1, x2, x3] = [y0, y1, y2, y3]
    · refine At.run 100 true [false] [] rfl (by and_intros <;> first | rw [decide_eq_true hxy]; rfl | exact oK) ?_
      refine At.weak (ih (a.H.length - (i + 1)) _ _ _ (by omega) ⟨i + 1, rfl, by omega, hn hxy, rfl, rfl, rfl⟩) ⟨rfl, rfl, some_int_eq (by omega), trivial⟩
    · refine At.run 100 true [true] [] rfl (by and_intros <;> first | rw [decide_eq_false hxy]; rfl | exact oK) ?_
      exact At.retK [] [] [] rfl rfl Tryz.func20 rfl trivial ⟨by rw [sameF (fun h => hne hxy h.1)]; rfl, rfl, rfl⟩
  · refine At.run 100 true [false] [hB 1] rfl oK ?_
    have e1 := eq_take hno (by omega) (by omega)
    clear ih hno hlt
    refine At.loop (n := a.S.length) (env0 := [(2, .pointer (some ⟨bq, 0, none⟩)), (3, .pointer (some ⟨br, 0, none⟩)), (6, .int .i64 0)]) (fun m env bx hp => ∃ i : Nat, m = a.S.length - i ∧ i ≤ a.S.length ∧ a.S.take i = b.S.take i ∧
      env = [(2, .pointer (some ⟨bq, 0, none⟩)), (3, .pointer (some ⟨br, 0, none⟩)), (6, .int .i64 i)] ∧ bx = [(br, 50, bkV b ⟨b1, b2, b3, b4, d1, d2, d3, d4⟩), (bq, 50, bkV a ⟨a1, a2, a3, a4, c1, c2, c3, c4⟩)] ∧ hp = []) rfl ⟨0, rfl, by omega, by simp, rfl, rfl, rfl⟩ ⟨rfl, rfl, rfl, trivial⟩ ?_
    rintro m env bx hp ⟨i, rfl, hi2, hno, rfl, rfl, rfl⟩ ih
    by_cases hlt : i < a.S.length
    · obtain ⟨x, hx⟩ : ∃ x, a.S[i]? = some x := ⟨_, List.getElem?_eq_getElem hlt⟩
      obtain ⟨y, hy⟩ : ∃ y, b.S[i]? = some y := ⟨_, List.getElem?_eq_getElem (by omega)⟩
      have hmx := List.mem_of_getElem? hx
      have hmy := List.mem_of_getElem? hy
      obtain ⟨g, o, rfl, hc⟩ := h2.get (slNe (by decide) ha.r2.len hx)
      obtain ⟨g2, o2, rfl, hc2⟩ := h2'.get (slNe (by decide) hb.r2.len hy)
      have r1 : ∀ {bx : Bx} {hp : List Seg}, RdW ⟨w, kys [] []⟩ bx hp g (o + (i : Int).toNat * 3) (i64s x) := fun {_ _} => RdW.rec ha.r2.len hc (by simp [kys]) hx (by omega)
      have r2 : ∀ {bx : Bx} {hp : List Seg}, RdW ⟨w, kys [] []⟩ bx hp g2 (o2 + (i : Int).toNat * 3) (i64s y) := fun {_ _} => RdW.rec hb.r2.len hc2 (by simp [kys]) hy (by omega)
      have hne := fun h => ne_of_get hx hy h
      have hn := fun (h : x = y) => take_next hno hx (by rw [h]; exact hy)
      obtain ⟨x0, x1, x2, rfl⟩ := len3 (ha.r2.len x hmx)
      obtain ⟨y0, y1, y2, rfl⟩ := len3 (hb.r2.len y hmy)
      refine At.run 100 true [true] [hB 1] rfl oK ?_
      refine At.quiet true [] [hB 1, hR [.int .i64 x0, .int .i64 x1, .int .i64 x2], hB 0, hR [.int .i64 y0, .int .i64 y1, .int .i64 y2]] ⟨by kernel_rfl, by kernel_rfl, rfl, rfl, rfl⟩ rfl rfl rfl (by and_intros <;> first | exact r1 | exact r2 | exact oK) ?_
      rw [ch3]
      by_cases hxy : [x0, x1, x2] = [y0, y1, y2]
      · refine At.run 100 true [false] [] rfl (by and_intros <;> first | rw [decide_eq_true hxy]; rfl | exact oK) ?_
        refine At.weak (ih (a.S.length - (i + 1)) _ _ _ (by omega) ⟨i + 1, rfl, by omega, hn hxy, rfl, rfl, rfl⟩) ⟨rfl, rfl, some_int_eq (by omega), trivial⟩
      · refine At.run 100 true [true] [] rfl (by and_intros <;> first | rw [decide_eq_false hxy]; rfl | exact oK) ?_
        exact At.retK [] [] [] rfl rfl Tryz.func20 rfl trivial ⟨by rw [sameF (fun h => hne hxy h.2.1)]; rfl, rfl, rfl⟩
    · refine At.run 100 true [false] [hB 1] rfl oK ?_
      have e2 := eq_take hno (by omega) (by omega)
      clear ih hno hlt
      refine At.loop (n := a.O.length) (env0 := [(2, .pointer (some ⟨bq, 0, none⟩)), (3, .pointer (some ⟨br, 0, none⟩)), (7, .int .i64 0)]) (fun m env bx hp => ∃ i : Nat, m = a.O.length - i ∧ i ≤ a.O.length ∧ a.O.take i = b.O.take i ∧
        env = [(2, .pointer (some ⟨bq, 0, none⟩)), (3, .pointer (some ⟨br, 0, none⟩)), (7, .int .i64 i)] ∧ bx = [(br, 50, bkV b ⟨b1, b2, b3, b4, d1, d2, d3, d4⟩), (bq, 50, bkV a ⟨a1, a2, a3, a4, c1, c2, c3, c4⟩)] ∧ hp = []) rfl ⟨0, rfl, by omega, by simp, rfl, rfl, rfl⟩ ⟨rfl, rfl, rfl, trivial⟩ ?_
      rintro m env bx hp ⟨i, rfl, hi2, hno, rfl, rfl, rfl⟩ ih
      by_cases hlt : i < a.O.length
      · obtain ⟨x, hx⟩ : ∃ x, a.O[i]? = some x := ⟨_, List.getElem?_eq_getElem hlt⟩
        obtain ⟨y, hy⟩ : ∃ y, b.O[i]? = some y := ⟨_, List.getElem?_eq_getElem (by omega)⟩
        have hmx := List.mem_of_getElem? hx
        have hmy := List.mem_of_getElem? hy
        obtain ⟨g, o, rfl, hc⟩ := h3.get (slNe (by decide) ha.r3.len hx)
        obtain ⟨g2, o2, rfl, hc2⟩ := h3'.get (slNe (by decide) hb.r3.len hy)
        have r1 : ∀ {bx : Bx} {hp : List Seg}, RdW ⟨w, kys [] []⟩ bx hp g (o + (i : Int).toNat * 6) (i64s x) := fun {_ _} => RdW.rec ha.r3.len hc (by simp [kys]) hx (by omega)
        have r2 : ∀ {bx : Bx} {hp : List Seg}, RdW ⟨w, kys [] []⟩ bx hp g2 (o2 + (i : Int).toNat * 6) (i64s y) := fun {_ _} => RdW.rec hb.r3.len hc2 (by simp [kys]) hy (by omega)
        have hne := fun h => ne_of_get hx hy h
        have hn := fun (h : x = y) => take_next hno hx (by rw [h]; exact hy)
        obtain ⟨x0, x1, x2, x3, x4, x5, rfl⟩ := len6 (ha.r3.len x hmx)
        obtain ⟨y0, y1, y2, y3, y4, y5, rfl⟩ := len6 (hb.r3.len y hmy)
        refine At.run 100 true [true] [hB 1] rfl oK ?_
        refine At.quiet true [] [hB 1, hR [.int .i64 x0, .int .i64 x1, .int .i64 x2, .int .i64 x3, .int .i64 x4, .int .i64 x5], hB 0, hR [.int .i64 y0, .int .i64 y1, .int .i64 y2, .int .i64 y3, .int .i64 y4, .int .i64 y5]] ⟨by kernel_rfl, by kernel_rfl, rfl, rfl, rfl⟩ rfl rfl rfl (by and_intros <;> first | exact r1 | exact r2 | exact oK) ?_
        rw [ch6]
        by_cases hxy : [x0, x1, x2, x3, x4, x5] = [y0, y1, y2, y3, y4, y5]
        · refine At.run 100 true [false] [] rfl (by and_intros <;> first | rw [decide_eq_true hxy]; rfl | exact oK) ?_
          refine At.weak (ih (a.O.length - (i + 1)) _ _ _ (by omega) ⟨i + 1, rfl, by omega, hn hxy, rfl, rfl, rfl⟩) ⟨rfl, rfl, some_int_eq (by omega), trivial⟩
        · refine At.run 100 true [true] [] rfl (by and_intros <;> first | rw [decide_eq_false hxy]; rfl | exact oK) ?_
          exact At.retK [] [] [] rfl rfl Tryz.func20 rfl trivial ⟨by rw [sameF (fun h => hne hxy h.2.2.1)]; rfl, rfl, rfl⟩
      · refine At.run 100 true [false] [hB 1] rfl oK ?_
        have e3 := eq_take hno (by omega) (by omega)
        clear ih hno hlt
        refine At.loop (n := a.R.length) (env0 := [(2, .pointer (some ⟨bq, 0, none⟩)), (3, .pointer (some ⟨br, 0, none⟩)), (8, .int .i64 0)]) (fun m env bx hp => ∃ i : Nat, m = a.R.length - i ∧ i ≤ a.R.length ∧ a.R.take i = b.R.take i ∧
          env = [(2, .pointer (some ⟨bq, 0, none⟩)), (3, .pointer (some ⟨br, 0, none⟩)), (8, .int .i64 i)] ∧ bx = [(br, 50, bkV b ⟨b1, b2, b3, b4, d1, d2, d3, d4⟩), (bq, 50, bkV a ⟨a1, a2, a3, a4, c1, c2, c3, c4⟩)] ∧ hp = []) rfl ⟨0, rfl, by omega, by simp, rfl, rfl, rfl⟩ ⟨rfl, rfl, rfl, trivial⟩ ?_
        rintro m env bx hp ⟨i, rfl, hi2, hno, rfl, rfl, rfl⟩ ih
        by_cases hlt : i < a.R.length
        · obtain ⟨x, hx⟩ : ∃ x, a.R[i]? = some x := ⟨_, List.getElem?_eq_getElem hlt⟩
          obtain ⟨y, hy⟩ : ∃ y, b.R[i]? = some y := ⟨_, List.getElem?_eq_getElem (by omega)⟩
          have hmx := List.mem_of_getElem? hx
          have hmy := List.mem_of_getElem? hy
          obtain ⟨g, o, rfl, hc⟩ := h4.get (slNe (by decide) ha.r4.len hx)
          obtain ⟨g2, o2, rfl, hc2⟩ := h4'.get (slNe (by decide) hb.r4.len hy)
          have r1 : ∀ {bx : Bx} {hp : List Seg}, RdW ⟨w, kys [] []⟩ bx hp g (o + (i : Int).toNat * 2) (i64s x) := fun {_ _} => RdW.rec ha.r4.len hc (by simp [kys]) hx (by omega)
          have r2 : ∀ {bx : Bx} {hp : List Seg}, RdW ⟨w, kys [] []⟩ bx hp g2 (o2 + (i : Int).toNat * 2) (i64s y) := fun {_ _} => RdW.rec hb.r4.len hc2 (by simp [kys]) hy (by omega)
          have hne := fun h => ne_of_get hx hy h
          have hn := fun (h : x = y) => take_next hno hx (by rw [h]; exact hy)
          obtain ⟨x0, x1, rfl⟩ := len2 (ha.r4.len x hmx)
          obtain ⟨y0, y1, rfl⟩ := len2 (hb.r4.len y hmy)
          refine At.run 100 true [true] [hB 1] rfl oK ?_
          refine At.quiet true [] [hB 1, hR [.int .i64 x0, .int .i64 x1], hB 0, hR [.int .i64 y0, .int .i64 y1]] ⟨by kernel_rfl, by kernel_rfl, rfl, rfl, rfl⟩ rfl rfl rfl (by and_intros <;> first | exact r1 | exact r2 | exact oK) ?_
          rw [ch2]
          by_cases hxy : [x0, x1] = [y0, y1]
          · refine At.run 100 true [false] [] rfl (by and_intros <;> first | rw [decide_eq_true hxy]; rfl | exact oK) ?_
            refine At.weak (ih (a.R.length - (i + 1)) _ _ _ (by omega) ⟨i + 1, rfl, by omega, hn hxy, rfl, rfl, rfl⟩) ⟨rfl, rfl, some_int_eq (by omega), trivial⟩
          · refine At.run 100 true [true] [] rfl (by and_intros <;> first | rw [decide_eq_false hxy]; rfl | exact oK) ?_
            exact At.retK [] [] [] rfl rfl Tryz.func20 rfl trivial ⟨by rw [sameF (fun h => hne hxy h.2.2.2.1)]; rfl, rfl, rfl⟩
        · refine At.run 100 true [false] [hB 1] rfl oK ?_
          have e4 := eq_take hno (by omega) (by omega)
          clear ih hno hlt
          exact At.retK [] [] [] rfl rfl Tryz.func20 rfl trivial ⟨by rw [show sameB a b = true from decide_eq_true ⟨e1, e2, e3, e4, by omega⟩]; rfl, rfl, rfl⟩

end Go.Proofs

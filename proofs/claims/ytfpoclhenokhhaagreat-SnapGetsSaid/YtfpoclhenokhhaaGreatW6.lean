/-
  Walks of layer 1: the reader's steps.
-/
import Derived.Test.YtfpoclhenokhhaaGreatW2
import Derived.Test.YtfpoclhenokhhaaGreatE11
namespace Go.Proofs
open Go Go.Eng
set_option maxRecDepth 100000
set_option maxHeartbeats 4000000
attribute [local irreducible] Tri

/-- A reader's cells. -/
def rdr (s : ByteArray) (a : Nat) (f : Int) : List Value := [.string s, .int .i64 a, .int .i64 f]

/-- What a step does, that comes to x, a fault e, and the place a1. -/
def StepR (P : Program) (F : FuncId) (cap : List Value) (b t : Nat) (s : ByteArray) (a0 : Nat) (rest : Bx) (x : Value) (e : Int) (a1 : Nat) (w : World) : Prop :=
  ∀ w', Ext (kys ((b, t, rdr s a0 0) :: rest) []) w w' → Own ((b, t, rdr s a0 0) :: rest) [] w' → Tri P F cap w' (kys ((b, t, rdr s a0 0) :: rest) []) (fun v bx hp => v = .tuple #[x, .int .i64 e] ∧ bx = (b, t, rdr s a1 0) :: rest ∧ hp = [])

theorem Tryz.guardU_w (s : ByteArray) (a0 a1 : Nat) (f e x : Int) (b : Nat) (rest : Bx) (F : Nat) (cap : List Value) (w : World) (hown : Own ((b, 122, rdr s a0 f) :: rest) [] w)
    (hstep : f = 0 → StepR Tryz.prog F cap b 122 s a0 rest (.int .u64 x) e a1 w) :
    Tri Tryz.prog 85 [.pointer (some ⟨b, 0, none⟩), .func (.func F) ⟨[]⟩ ⟨cap⟩] w (kys ((b, 122, rdr s a0 f) :: rest) [])
      (fun v bx hp => v = .int .u64 (if f = 0 ∧ e = 0 then x else 0) ∧ bx = (b, 122, if f ≠ 0 then rdr s a0 f else if e = 0 then rdr s a1 0 else rdr s a0 e) :: rest ∧ hp = []) := by
  refine Tri.enter Tryz.func85 rfl (by kernel_rfl) rfl hown ?_
  by_cases hf : f = 0
  · subst hf
    refine At.run 100 true [false, false] [hB 0, hB 0, hB 0] rfl ⟨rfl, rfl, rfl, rfl, rfl, rfl, rfl, rfl, rfl, trivial⟩ ?_
    refine At.step [] rfl rfl rfl rfl rfl trivial (OpOk.callAll (Q := fun v bx hp => v = .tuple #[.int .u64 x, .int .i64 e] ∧ bx = (b, 122, rdr s a1 0) :: rest ∧ hp = []) rfl (fun w' hw' => by rw [allArgs_eq]; exact hstep rfl w' hw'.ext hw'.toOwn) ?_)
    rintro v bx' hp' ⟨rfl, rfl, rfl⟩
    by_cases he : e = 0
    · subst he
      refine At.run 100 true [false] [] rfl ⟨rfl, trivial⟩ ?_
      exact At.ret [] rfl Tryz.func85 rfl trivial ⟨rfl, rfl, rfl⟩
    · have hd : (!decide (e = 0)) = true := by simp [he]
      refine At.run 100 true [true] [hB 0, hB 0] rfl ⟨⟨rfl, rfl⟩, ⟨rfl, rfl⟩, hd, trivial⟩ ?_
      refine At.ret [] rfl Tryz.func85 rfl trivial ⟨?_, ?_, rfl⟩
      · rw [if_neg (by simp [he])]; rfl
      · rw [if_neg (by simp), if_neg he]; rfl
  · have hd : (!decide (f = 0)) = true := by simp [hf]
    refine At.run 100 true [false, true] [hB 0] rfl ⟨hd, rfl, rfl, rfl, rfl, rfl, rfl, rfl, trivial⟩ ?_
    refine At.ret [] rfl Tryz.func85 rfl trivial ⟨?_, ?_, rfl⟩
    · rw [if_neg (by simp [hf])]; rfl
    · rw [if_pos hf]

theorem Tryz.guardI_w (s : ByteArray) (a0 a1 : Nat) (f e x : Int) (b : Nat) (rest : Bx) (F : Nat) (cap : List Value) (w : World) (hown : Own ((b, 122, rdr s a0 f) :: rest) [] w)
    (hstep : f = 0 → StepR Tryz.prog F cap b 122 s a0 rest (.int .i64 x) e a1 w) :
    Tri Tryz.prog 124 [.pointer (some ⟨b, 0, none⟩), .func (.func F) ⟨[]⟩ ⟨cap⟩] w (kys ((b, 122, rdr s a0 f) :: rest) [])
      (fun v bx hp => v = .int .i64 (if f = 0 ∧ e = 0 then x else 0) ∧ bx = (b, 122, if f ≠ 0 then rdr s a0 f else if e = 0 then rdr s a1 0 else rdr s a0 e) :: rest ∧ hp = []) := by
  refine Tri.enter Tryz.func124 rfl (by kernel_rfl) rfl hown ?_
  by_cases hf : f = 0
  · subst hf
    refine At.run 100 true [false, false] [hB 0, hB 0, hB 0] rfl ⟨rfl, rfl, rfl, rfl, rfl, rfl, rfl, rfl, rfl, trivial⟩ ?_
    refine At.step [] rfl rfl rfl rfl rfl trivial (OpOk.callAll (Q := fun v bx hp => v = .tuple #[.int .i64 x, .int .i64 e] ∧ bx = (b, 122, rdr s a1 0) :: rest ∧ hp = []) rfl (fun w' hw' => by rw [allArgs_eq]; exact hstep rfl w' hw'.ext hw'.toOwn) ?_)
    rintro v bx' hp' ⟨rfl, rfl, rfl⟩
    by_cases he : e = 0
    · subst he
      refine At.run 100 true [false] [] rfl ⟨rfl, trivial⟩ ?_
      exact At.ret [] rfl Tryz.func124 rfl trivial ⟨rfl, rfl, rfl⟩
    · have hd : (!decide (e = 0)) = true := by simp [he]
      refine At.run 100 true [true] [hB 0, hB 0] rfl ⟨⟨rfl, rfl⟩, ⟨rfl, rfl⟩, hd, trivial⟩ ?_
      refine At.ret [] rfl Tryz.func124 rfl trivial ⟨?_, ?_, rfl⟩
      · rw [if_neg (by simp [he])]; rfl
      · rw [if_neg (by simp), if_neg he]; rfl
  · have hd : (!decide (f = 0)) = true := by simp [hf]
    refine At.run 100 true [false, true] [hB 0] rfl ⟨hd, rfl, rfl, rfl, rfl, rfl, rfl, rfl, trivial⟩ ?_
    refine At.ret [] rfl Tryz.func124 rfl trivial ⟨?_, ?_, rfl⟩
    · rw [if_neg (by simp [hf])]; rfl
    · rw [if_pos hf]

theorem Tryz.guardN_w (s : ByteArray) (a0 a1 : Nat) (f e x : Int) (b : Nat) (rest : Bx) (F : Nat) (cap : List Value) (w : World) (hown : Own ((b, 122, rdr s a0 f) :: rest) [] w)
    (hstep : f = 0 → StepR Tryz.prog F cap b 122 s a0 rest (.int .i64 x) e a1 w) :
    Tri Tryz.prog 127 [.pointer (some ⟨b, 0, none⟩), .func (.func F) ⟨[]⟩ ⟨cap⟩] w (kys ((b, 122, rdr s a0 f) :: rest) [])
      (fun v bx hp => v = .int .i64 (if f = 0 ∧ e = 0 then x else 0) ∧ bx = (b, 122, if f ≠ 0 then rdr s a0 f else if e = 0 then rdr s a1 0 else rdr s a0 e) :: rest ∧ hp = []) := by
  refine Tri.enter Tryz.func127 rfl (by kernel_rfl) rfl hown ?_
  by_cases hf : f = 0
  · subst hf
    refine At.run 100 true [false, false] [hB 0, hB 0, hB 0] rfl ⟨rfl, rfl, rfl, rfl, rfl, rfl, rfl, rfl, rfl, trivial⟩ ?_
    refine At.step [] rfl rfl rfl rfl rfl trivial (OpOk.callAll (Q := fun v bx hp => v = .tuple #[.int .i64 x, .int .i64 e] ∧ bx = (b, 122, rdr s a1 0) :: rest ∧ hp = []) rfl (fun w' hw' => by rw [allArgs_eq]; exact hstep rfl w' hw'.ext hw'.toOwn) ?_)
    rintro v bx' hp' ⟨rfl, rfl, rfl⟩
    by_cases he : e = 0
    · subst he
      refine At.run 100 true [false] [] rfl ⟨rfl, trivial⟩ ?_
      exact At.ret [] rfl Tryz.func127 rfl trivial ⟨rfl, rfl, rfl⟩
    · have hd : (!decide (e = 0)) = true := by simp [he]
      refine At.run 100 true [true] [hB 0, hB 0] rfl ⟨⟨rfl, rfl⟩, ⟨rfl, rfl⟩, hd, trivial⟩ ?_
      refine At.ret [] rfl Tryz.func127 rfl trivial ⟨?_, ?_, rfl⟩
      · rw [if_neg (by simp [he])]; rfl
      · rw [if_neg (by simp), if_neg he]; rfl
  · have hd : (!decide (f = 0)) = true := by simp [hf]
    refine At.run 100 true [false, true] [hB 0] rfl ⟨hd, rfl, rfl, rfl, rfl, rfl, rfl, rfl, trivial⟩ ?_
    refine At.ret [] rfl Tryz.func127 rfl trivial ⟨?_, ?_, rfl⟩
    · rw [if_neg (by simp [hf])]; rfl
    · rw [if_pos hf]

end Go.Proofs

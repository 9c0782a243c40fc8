/-
  Walks of layer 1: the reader's steps.
-/
import Derived.Test.YtfpoclhenokhhaaGreatM12
import Derived.Test.YtfpoclhenokhhaaGreatM5
import Derived.Test.YtfpoclhenokhhaaGreatM2
/-
  Walks of layer 1: the reader's steps.
-/
namespace Go.Proofs
open Go Go.Eng
set_option maxRecDepth 100000
set_option maxHeartbeats 4000000
attribute [local irreducible] Tri

/-- A reader's cells. -/
def rdr (s : ByteArray) (a : Nat) (f : Int) : List Value := [.string s, .int .i64 a, .int .i64 f]

/-- What a step does, that comes to x, a fault e, and the place a1. -/
def StepR (P : Program) (F : FuncId) (cap : List Value) (b t : Nat) (s : ByteArray) (a0 : Nat) (rest : Bx) (x : Value) (e : Int) (a1 : Nat) (w : World) : Prop :=
  ∀ w', Ext (kys ((b, t, rdr s a0 0) :: rest) []) w w' → Own ((b, t, rdr s a0 0) :: rest) [] w' → Tri P F cap w' (kys ((b, t, rdr s a0 0) :: rest) []) (fun v bx hp => v = .tuple #[x, .int .i64 e] ∧ bx = (b, t, rdr s a1 0) :: rest ∧ hp = [])

theorem Tryz.guardU_w (s : ByteArray) (a0 a1 : Nat) (f e x : Int) (b : Nat) (rest : Bx) (F : Nat) (cap : List Value) (w : World) (hown : Own ((b, 122, rdr s a0 f) :: rest) [] w)
    (hstep : f = 0 → StepR Tryz.prog F cap b 122 s a0 rest (.int .u64 x) e a1 w) :
    Tri Tryz.prog 85 [.pointer (some ⟨b, 0, none⟩), .func (.func F) ⟨[]⟩ ⟨cap⟩] w (kys ((b, 122, rdr s a0 f) :: rest) [])
      (fun v bx hp => v = .int .u64 (if f = 0 ∧ e = 0 then x else 0) ∧ bx = (b, 122, if f ≠ 0 then rdr s a0 f else if e = 0 then rdr s a1 0 else rdr s a0 e) :: rest ∧ hp = []) := by
  refine Tri.enter Tryz.func85 rfl (by kernel_rfl) rfl hown ?_
  by_cases hf : f = 0
  · subst hf
    refine At.run 100 true [false, false] [hB 0, hB 0, hB 0] rfl ⟨rfl, rfl, rfl, rfl, rfl, rfl, rfl, rfl, rfl, trivial⟩ ?_
    refine At.step [] rfl rfl rfl rfl rfl trivial (OpOk.callAll (Q := fun v bx hp => v = .tuple #[.int .u64 x, .int .i64 e] ∧ bx = (b, 122, rdr s a1 0) :: rest ∧ hp = []) rfl (fun w' hw' => by rw [allArgs_eq]; exact hstep rfl w' hw'.ext hw'.toOwn) ?_)
    rintro v bx' hp' ⟨rfl, rfl, rfl⟩
    by_cases he : e = 0
    · subst he
      refine At.run 100 true [false] [] rfl ⟨rfl, trivial⟩ ?_
      exact At.ret [] rfl Tryz.func85 rfl trivial ⟨rfl, rfl, rfl⟩
    · have hd : (!decide (e = 0)) = true := by simp [he]
      refine At.run 100 true [true] [hB 0, hB 0] rfl ⟨⟨rfl, rfl⟩, ⟨rfl, rfl⟩, hd, trivial⟩ ?_
      refine At.ret [] rfl Tryz.func85 rfl trivial ⟨?_, ?_, rfl⟩
      · rw [if_neg (by simp [he])]; rfl
      · rw [if_neg (by simp), if_neg he]; rfl
  · have hd : (!decide (f = 0)) = true := by simp [hf]
    refine At.run 100 true [false, true] [hB 0] rfl ⟨hd, rfl, rfl, rfl, rfl, rfl, rfl, rfl, trivial⟩ ?_
    refine At.ret [] rfl Tryz.func85 rfl trivial ⟨?_, ?_, rfl⟩
    · rw [if_neg (by simp [hf])]; rfl
    · rw [if_pos hf]

theorem Tryz.guardI_w (s : ByteArray) (a0 a1 : Nat) (f e x : Int) (b : Nat) (rest : Bx) (F : Nat) (cap : List Value) (w : World) (hown : Own ((b, 122, rdr s a0 f) :: rest) [] w)
    (hstep : f = 0 → StepR Tryz.prog F cap b 122 s a0 rest (.int .i64 x) e a1 w) :
    Tri Tryz.prog 124 [.pointer (some ⟨b, 0, none⟩), .func (.func F) ⟨[]⟩ ⟨cap⟩] w (kys ((b, 122, rdr s a0 f) :: rest) [])
      (fun v bx hp => v = .int .i64 (if f = 0 ∧ e = 0 then x else 0) ∧ bx = (b, 122, if f ≠ 0 then rdr s a0 f else if e = 0 then rdr s a1 0 else rdr s a0 e) :: rest ∧ hp = []) := by
  refine Tri.enter Tryz.func124 rfl (by kernel_rfl) rfl hown ?_
  by_cases hf : f = 0
  · subst hf
    refine At.run 100 true [false, false] [hB 0, hB 0, hB 0] rfl ⟨rfl, rfl, rfl, rfl, rfl, rfl, rfl, rfl, rfl, trivial⟩ ?_
    refine At.step [] rfl rfl rfl rfl rfl trivial (OpOk.callAll (Q := fun v bx hp => v = .tuple #[.int .i64 x, .int .i64 e] ∧ bx = (b, 122, rdr s a1 0) :: rest ∧ hp = []) rfl (fun w' hw' => by rw [allArgs_eq]; exact hstep rfl w' hw'.ext hw'.toOwn) ?_)
    rintro v bx' hp' ⟨rfl, rfl, rfl⟩
    by_cases he : e = 0
    · subst he
      refine At.run 100 true [false] [] rfl ⟨rfl, trivial⟩ ?_
      exact At.ret [] rfl Tryz.func124 rfl trivial ⟨rfl, rfl, rfl⟩
    · have hd : (!decide (e = 0)) = true := by simp [he]
      refine At.run 100 true [true] [hB 0, hB 0] rfl ⟨⟨rfl, rfl⟩, ⟨rfl, rfl⟩, hd, trivial⟩ ?_
      refine At.ret [] rfl Tryz.func124 rfl trivial ⟨?_, ?_, rfl⟩
      · rw [if_neg (by simp [he])]; rfl
      · rw [if_neg (by simp), if_neg he]; rfl
  · have hd : (!decide (f = 0)) = true := by simp [hf]
    refine At.run 100 true [false, true] [hB 0] rfl ⟨hd, rfl, rfl, rfl, rfl, rfl, rfl, rfl, trivial⟩ ?_
    refine At.ret [] rfl Tryz.func124 rfl trivial ⟨?_, ?_, rfl⟩
    · rw [if_neg (by simp [hf])]; rfl
    · rw [if_pos hf]

theorem Tryz.guardN_w (s : ByteArray) (a0 a1 : Nat) (f e x : Int) (b : Nat) (rest : Bx) (F : Nat) (cap : List Value) (w : World) (hown : Own ((b, 122, rdr s a0 f) :: rest) [] w)
    (hstep : f = 0 → StepR Tryz.prog F cap b 122 s a0 rest (.int .i64 x) e a1 w) :
    Tri Tryz.prog 127 [.pointer (some ⟨b, 0, none⟩), .func (.func F) ⟨[]⟩ ⟨cap⟩] w (kys ((b, 122, rdr s a0 f) :: rest) [])
      (fun v bx hp => v = .int .i64 (if f = 0 ∧ e = 0 then x else 0) ∧ bx = (b, 122, if f ≠ 0 then rdr s a0 f else if e = 0 then rdr s a1 0 else rdr s a0 e) :: rest ∧ hp = []) := by
  refine Tri.enter Tryz.func127 rfl (by kernel_rfl) rfl hown ?_
  by_cases hf : f = 0
  · subst hf
    refine At.run 100 true [false, false] [hB 0, hB 0, hB 0] rfl ⟨rfl, rfl, rfl, rfl, rfl, rfl, rfl, rfl, rfl, trivial⟩ ?_
    refine At.step [] rfl rfl rfl rfl rfl trivial (OpOk.callAll (Q := fun v bx hp => v = .tuple #[.int .i64 x, .int .i64 e] ∧ bx = (b, 122, rdr s a1 0) :: rest ∧ hp = []) rfl (fun w' hw' => by rw [allArgs_eq]; exact hstep rfl w' hw'.ext hw'.toOwn) ?_)
    rintro v bx' hp' ⟨rfl, rfl, rfl⟩
    by_cases he : e = 0
    · subst he
      refine At.run 100 true [false] [] rfl ⟨rfl, trivial⟩ ?_
      exact At.ret [] rfl Tryz.func127 rfl trivial ⟨rfl, rfl, rfl⟩
    · have hd : (!decide (e = 0)) = true := by simp [he]
      refine At.run 100 true [true] [hB 0, hB 0] rfl ⟨⟨rfl, rfl⟩, ⟨rfl, rfl⟩, hd, trivial⟩ ?_
      refine At.ret [] rfl Tryz.func127 rfl trivial ⟨?_, ?_, rfl⟩
      · rw [if_neg (by simp [he])]; rfl
      · rw [if_neg (by simp), if_neg he]; rfl
  · have hd : (!decide (f = 0)) = true := by simp [hf]
    refine At.run 100 true [false, true] [hB 0] rfl ⟨hd, rfl, rfl, rfl, rfl, rfl, rfl, rfl, trivial⟩ ?_
    refine At.ret [] rfl Tryz.func127 rfl trivial ⟨?_, ?_, rfl⟩
    · rw [if_neg (by simp [hf])]; rfl
    · rw [if_pos hf]

end Go.Proofs

/-
  Walks of layer 1: the reader's numbers.
-/
namespace Go.Proofs
open Go Go.Eng
set_option maxRecDepth 100000
set_option maxHeartbeats 4000000
attribute [local irreducible] Tri

theorem rot2 {α : Type} (a b : α) : [a, b].Perm [b, a] := List.Perm.swap b a []
theorem rot3 {α : Type} (a b c : α) : [a, b, c].Perm [c, a, b] := by simpa using List.perm_append_comm (l₁ := [a, b]) (l₂ := [c])

theorem Own.head {e : Nat × TypeId × List Value} {bx : Bx} {hp : List Seg} {w : World} (h : Own (e :: bx) hp w) : Own [e] [] w :=
  ⟨by simp [kys], fun k hk => h.lt k (by simp only [kys, List.map_cons, List.map_nil, List.flatMap_nil, List.append_nil, List.mem_singleton] at hk; subst hk; exact List.mem_cons_self ..), fun x hx => h.bx x (by simp only [List.mem_singleton] at hx; subst hx; exact List.mem_cons_self ..), by simp⟩

theorem Tryz.num1_w (s : ByteArray) (a0 : Nat) (b br bm most : Nat) (w : World) (ha : a0 ≤ (bl s).length) (hlen : (bl s).length ≤ 9223372036854775807) :
    StepR Tryz.prog 86 [.pointer (some ⟨br, 0, none⟩), .pointer (some ⟨bm, 0, none⟩)] b 122 s a0 [(bm, 43, [.int .u64 most]), (br, 65, [.pointer (some ⟨b, 0, none⟩)])]
      (.int .u64 (digP ((bl s).drop a0) 0 0).1) (numE ((bl s).drop a0) most) (a0 + (digP ((bl s).drop a0) 0 0).2.1) w := by
  intro w1 hext hown
  refine Tri.enter Tryz.func86 rfl (by kernel_rfl) rfl hown ?_
  refine At.run 100 true [] [hB 2] rfl ⟨rfl, trivial⟩ ?_
  obtain ⟨n, k, e, hD⟩ : ∃ n k e, digP ((bl s).drop a0) 0 0 = (n, k, e) := ⟨_, _, _, rfl⟩
  simp only [numE, hD]
  refine At.run 100 true [] [hU (.tuple #[.int .u64 n, .int .i64 e]) 0 (rdr s (a0 + k) 0)] rfl ⟨fun w' hw' => by have := Tryz.digits_w s a0 0 b w' ha hlen (Own.head hw'.toOwn); rw [hD] at this; exact this, trivial⟩ ?_
  by_cases he : e = 0
  · by_cases hm : most < n
    · refine At.run 100 true [true, true] [hB 1] rfl (by (repeat' apply And.intro) <;> first | exact True.intro | omega | (simp only [inK]; omega) | (simp; done) | (simp; omega) | exact decide_eq_true (by omega) | exact decide_eq_false (by omega) | rfl | (simp [Value.oneCell']; done) | exact i64s_one _ | exact AggOk.mk (by kernel_rfl) (by kernel_rfl)) ?_
      exact At.ret [] rfl Tryz.func86 rfl trivial ⟨by simp [he, hm]; rfl, rfl, rfl⟩
    · refine At.run 100 true [true, false] [hB 1] rfl (by (repeat' apply And.intro) <;> first | exact True.intro | omega | (simp only [inK]; omega) | (simp; done) | (simp; omega) | exact decide_eq_true (by omega) | exact decide_eq_false (by omega) | rfl | (simp [Value.oneCell']; done) | exact i64s_one _ | exact AggOk.mk (by kernel_rfl) (by kernel_rfl)) ?_
      exact At.ret [] rfl Tryz.func86 rfl trivial ⟨by simp [he, hm]; rfl, rfl, rfl⟩
  · refine At.run 100 true [false, false] [] rfl (by (repeat' apply And.intro) <;> first | exact True.intro | omega | (simp only [inK]; omega) | (simp; done) | (simp; omega) | exact decide_eq_true (by omega) | exact decide_eq_false (by omega) | rfl | (simp [Value.oneCell']; done) | exact i64s_one _ | exact AggOk.mk (by kernel_rfl) (by kernel_rfl)) ?_
    exact At.ret [] rfl Tryz.func86 rfl trivial ⟨by simp [he]; rfl, rfl, rfl⟩

theorem Tryz.int1_w (s : ByteArray) (a0 : Nat) (b br : Nat) (w : World) (ha : a0 ≤ (bl s).length) (hlen : (bl s).length ≤ 9223372036854775807) :
    StepR Tryz.prog 125 [.pointer (some ⟨br, 0, none⟩)] b 122 s a0 [(br, 65, [.pointer (some ⟨b, 0, none⟩)])]
      (.int .i64 (zag (digP ((bl s).drop a0) 0 0).1)) (digP ((bl s).drop a0) 0 0).2.2 (a0 + (digP ((bl s).drop a0) 0 0).2.1) w := by
  intro w1 hext hown
  refine Tri.enter Tryz.func125 rfl (by kernel_rfl) rfl hown ?_
  refine At.run 100 true [] [hB 1] rfl ⟨rfl, trivial⟩ ?_
  have hlt := digP_lt ((bl s).drop a0) 0 0 (by omega) (by simp)
  obtain ⟨n, k, e, hD⟩ : ∃ n k e, digP ((bl s).drop a0) 0 0 = (n, k, e) := ⟨_, _, _, rfl⟩
  simp only [hD] at hlt ⊢
  refine At.run 100 true [] [hU (.tuple #[.int .u64 n, .int .i64 e]) 0 (rdr s (a0 + k) 0), hC (.int .i64 (zag n))] rfl ⟨fun w' hw' => Tryz.zag_w n hlt w', fun w' hw' => by have := Tryz.digits_w s a0 0 b w' ha hlen (Own.head hw'.toOwn); rw [hD] at this; exact this, trivial⟩ ?_
  exact At.ret [] rfl Tryz.func125 rfl trivial ⟨rfl, rfl, rfl⟩

theorem Tryz.Num_w (s : ByteArray) (a0 : Nat) (f : Int) (b most : Nat) (w : World) (ha : a0 ≤ (bl s).length) (hlen : (bl s).length ≤ 9223372036854775807)
    (hown : Own [(b, 122, rdr s a0 f)] [] w) :
    FunU Tryz.prog 27 [.pointer (some ⟨b, 0, none⟩), .int .u64 most] w (.int .u64 (rdN (bl s) a0 f most).1) (b, 122, rdr s (rdN (bl s) a0 f most).2.1 (rdN (bl s) a0 f most).2.2) := by
  refine Tri.enter (bx := [(b, 122, rdr s a0 f)]) (hp := []) Tryz.func27 rfl (by kernel_rfl) rfl hown ?_
  refine At.run 100 true [] [] rfl trivial ?_
  refine At.step [] rfl rfl rfl rfl rfl trivial (OpOk.box rfl rfl rfl fun br hbr => ?_)
  refine At.step [] rfl rfl rfl rfl rfl trivial (OpOk.box rfl rfl rfl fun bm hbm => ?_)
  refine At.run 100 true [] [hB 1] rfl (by (repeat' apply And.intro) <;> first | exact True.intro | omega | (simp only [inK]; omega) | (simp; done) | (simp; omega) | exact decide_eq_true (by omega) | exact decide_eq_false (by omega) | rfl | (simp [Value.oneCell']; done) | exact i64s_one _ | exact AggOk.mk (by kernel_rfl) (by kernel_rfl)) ?_
  refine At.perm (rot3 _ _ _) (List.Perm.refl _) ?_
  refine At.step [] rfl rfl rfl rfl rfl trivial (OpOk.callAll rfl (fun w' hw' => Tryz.guardU_w s a0 _ f _ _ b _ _ _ w' hw'.toOwn (fun _ => Tryz.num1_w s a0 b br bm most w' ha hlen)) ?_)
  rintro v bx' hp' ⟨rfl, rfl, rfl⟩
  refine At.run 100 true [] [] rfl trivial ?_
  refine At.keep [true, false, false] [] rfl ?_
  refine At.ret [] rfl Tryz.func27 rfl trivial ⟨?_, ?_, rfl⟩
  · unfold rdN
    by_cases hf : f = 0
    · by_cases he : numE ((bl s).drop a0) most = 0 <;> simp [hf, he, tupV]
    · simp [hf, tupV]
  · unfold rdN
    by_cases hf : f = 0
    · by_cases he : numE ((bl s).drop a0) most = 0 <;> simp [hf, he]
    · simp [hf]

theorem Tryz.Int_w (s : ByteArray) (a0 : Nat) (f : Int) (b : Nat) (w : World) (ha : a0 ≤ (bl s).length) (hlen : (bl s).length ≤ 9223372036854775807)
    (hown : Own [(b, 122, rdr s a0 f)] [] w) :
    FunU Tryz.prog 114 [.pointer (some ⟨b, 0, none⟩)] w (.int .i64 (rdI (bl s) a0 f).1) (b, 122, rdr s (rdI (bl s) a0 f).2.1 (rdI (bl s) a0 f).2.2) := by
  refine Tri.enter (bx := [(b, 122, rdr s a0 f)]) (hp := []) Tryz.func114 rfl (by kernel_rfl) rfl hown ?_
  refine At.run 100 true [] [] rfl trivial ?_
  refine At.step [] rfl rfl rfl rfl rfl trivial (OpOk.box rfl rfl rfl fun br hbr => ?_)
  refine At.run 100 true [] [hB 0] rfl (by (repeat' apply And.intro) <;> first | exact True.intro | omega | (simp only [inK]; omega) | (simp; done) | (simp; omega) | exact decide_eq_true (by omega) | exact decide_eq_false (by omega) | rfl | (simp [Value.oneCell']; done) | exact i64s_one _ | exact AggOk.mk (by kernel_rfl) (by kernel_rfl)) ?_
  refine At.perm (rot2 _ _) (List.Perm.refl _) ?_
  refine At.step [] rfl rfl rfl rfl rfl trivial (OpOk.callAll rfl (fun w' hw' => Tryz.guardI_w s a0 _ f _ _ b _ _ _ w' hw'.toOwn (fun _ => Tryz.int1_w s a0 b br w' ha hlen)) ?_)
  rintro v bx' hp' ⟨rfl, rfl, rfl⟩
  refine At.run 100 true [] [] rfl trivial ?_
  refine At.keep [true, false] [] rfl ?_
  refine At.ret [] rfl Tryz.func114 rfl trivial ⟨?_, ?_, rfl⟩
  · unfold rdI
    by_cases hf : f = 0
    · by_cases he : (digP ((bl s).drop a0) 0 0).2.2 = 0 <;> simp [hf, he, tupV]
    · simp [hf, tupV]
  · unfold rdI
    by_cases hf : f = 0
    · by_cases he : (digP ((bl s).drop a0) 0 0).2.2 = 0 <;> simp [hf, he]
    · simp [hf]

theorem Tryz.fail1_w (s : ByteArray) (a0 : Nat) (e : Int) (b be : Nat) (w : World) :
    StepR Tryz.prog 128 [.pointer (some ⟨be, 0, none⟩)] b 122 s a0 [(be, 30, [.int .i64 e])] (.int .i64 0) e a0 w := by
  intro w1 hext hown
  refine Tri.enter Tryz.func128 rfl (by kernel_rfl) rfl hown ?_
  refine At.run 100 true [] [] rfl trivial ?_
  refine At.quiet true [] [hB 1] ⟨by kernel_rfl, by kernel_rfl, rfl, rfl, rfl⟩ rfl rfl rfl (by (repeat' apply And.intro) <;> first | exact True.intro | omega | (simp only [inK]; omega) | (simp; done) | (simp; omega) | exact decide_eq_true (by omega) | exact decide_eq_false (by omega) | rfl | (simp [Value.oneCell']; done) | exact i64s_one _ | exact AggOk.mk (by kernel_rfl) (by kernel_rfl)) ?_
  refine At.run 100 true [] [] rfl trivial ?_
  exact At.ret [] rfl Tryz.func128 rfl trivial ⟨rfl, rfl, rfl⟩

theorem Tryz.Fail_w (s : ByteArray) (a0 : Nat) (f e : Int) (b : Nat) (w : World) (hown : Own [(b, 122, rdr s a0 f)] [] w) :
    FunU Tryz.prog 115 [.pointer (some ⟨b, 0, none⟩), .int .i64 e] w (.tuple #[]) (b, 122, rdr s a0 (if f = 0 then e else f)) := by
  refine Tri.enter (bx := [(b, 122, rdr s a0 f)]) (hp := []) Tryz.func115 rfl (by kernel_rfl) rfl hown ?_
  refine At.run 100 true [] [] rfl trivial ?_
  refine At.step [] rfl rfl rfl rfl rfl trivial (OpOk.box rfl rfl rfl fun be hbe => ?_)
  refine At.run 100 true [] [] rfl (by (repeat' apply And.intro) <;> first | exact True.intro | omega | (simp only [inK]; omega) | (simp; done) | (simp; omega) | exact decide_eq_true (by omega) | exact decide_eq_false (by omega) | rfl | (simp [Value.oneCell']; done) | exact i64s_one _ | exact AggOk.mk (by kernel_rfl) (by kernel_rfl)) ?_
  refine At.perm (rot2 _ _) (List.Perm.refl _) ?_
  refine At.step [] rfl rfl rfl rfl rfl trivial (OpOk.callAll rfl (fun w' hw' => Tryz.guardN_w s a0 _ f _ _ b _ _ _ w' hw'.toOwn (fun _ => Tryz.fail1_w s a0 e b be w')) ?_)
  rintro v bx' hp' ⟨rfl, rfl, rfl⟩
  refine At.run 100 true [] [] rfl trivial ?_
  refine At.keep [true, false] [] rfl ?_
  refine At.ret [] rfl Tryz.func115 rfl trivial ⟨rfl, ?_, rfl⟩
  by_cases hf : f = 0
  · by_cases he : e = 0 <;> simp [hf, he]
  · simp [hf]

theorem Tryz.Fault_w (s : ByteArray) (a0 : Nat) (f : Int) (b : Nat) (w : World) (hb : w.heap[b]? = some (.cells (rdr s a0 f).toArray 122 (0, 0))) :
    Fun Tryz.prog 29 [.pointer (some ⟨b, 0, none⟩)] w (.int .i64 f) := by
  refine Tri.enter (bx := []) (hp := []) Tryz.func29 rfl (by kernel_rfl) rfl (Own.nil w) ?_
  refine At.run 100 true [false] [hR [.int .i64 f]] rfl ⟨RdW.blkB1 (by simp [kys]) hb rfl, rfl, trivial⟩ ?_
  exact At.ret [] rfl Tryz.func29 rfl trivial ⟨rfl, rfl, rfl⟩

theorem Tryz.Left_w (s : ByteArray) (a0 : Nat) (f : Int) (b : Nat) (w : World) (ha : a0 ≤ (bl s).length) (hlen : (bl s).length ≤ 9223372036854775807) (hb : w.heap[b]? = some (.cells (rdr s a0 f).toArray 122 (0, 0))) :
    Fun Tryz.prog 28 [.pointer (some ⟨b, 0, none⟩)] w (.int .i64 ((bl s).length - a0 : Nat)) := by
  refine Tri.enter (bx := []) (hp := []) Tryz.func28 rfl (by kernel_rfl) rfl (Own.nil w) ?_
  refine At.run 100 true [false] [] rfl (by (repeat' apply And.intro) <;> first | exact True.intro | omega | (simp only [inK]; omega) | (simp; done) | (simp; omega) | exact decide_eq_true (by omega) | exact decide_eq_false (by omega) | rfl | (simp [Value.oneCell']; done) | exact i64s_one _ | exact AggOk.mk (by kernel_rfl) (by kernel_rfl)) ?_
  refine At.quiet true [] [hR [.string s], hR [.int .i64 a0]] ⟨by kernel_rfl, by kernel_rfl, rfl, rfl, rfl⟩ rfl rfl rfl ⟨by simp only [inK]; omega, RdW.blkB1 (by simp [kys]) hb rfl, RdW.blkB1 (by simp [kys]) hb rfl, trivial⟩ ?_
  refine At.run 100 true [] [] rfl trivial ?_
  exact At.ret [] rfl Tryz.func28 rfl trivial ⟨int_eq (by omega), rfl, rfl⟩

theorem Tryz.Read_w (s : ByteArray) (w : World) :
    Tri Tryz.prog 26 [.string s] w [] (fun v bx hp => ∃ b, v = .pointer (some ⟨b, 0, none⟩) ∧ bx = [(b, 122, rdr s 0 0)] ∧ hp = []) := by
  refine Tri.enter (bx := []) (hp := []) Tryz.func26 rfl (by kernel_rfl) rfl (Own.nil w) ?_
  refine At.run 100 true [] [] rfl (by (repeat' apply And.intro) <;> first | exact True.intro | omega | (simp only [inK]; omega) | (simp; done) | (simp; omega) | exact decide_eq_true (by omega) | exact decide_eq_false (by omega) | rfl | (simp [Value.oneCell']; done) | exact i64s_one _ | exact AggOk.mk (by kernel_rfl) (by kernel_rfl)) ?_
  refine At.step [] rfl rfl rfl rfl rfl trivial (OpOk.box rfl rfl rfl fun b hb => ?_)
  refine At.run 100 true [] [] rfl (by (repeat' apply And.intro) <;> first | exact True.intro | omega | (simp only [inK]; omega) | (simp; done) | (simp; omega) | exact decide_eq_true (by omega) | exact decide_eq_false (by omega) | rfl | (simp [Value.oneCell']; done) | exact i64s_one _ | exact AggOk.mk (by kernel_rfl) (by kernel_rfl)) ?_
  exact At.ret [] rfl Tryz.func26 rfl trivial ⟨b, rfl, rfl, rfl⟩
end Go.Proofs

/-
  Walks of layer 1: the reference's reader.
-/
namespace Go.Proofs
open Go Go.Eng
set_option maxRecDepth 100000
set_option maxHeartbeats 4000000
attribute [local irreducible] Tri

@[simp] theorem bl_str (l : List UInt8) : bl ⟨l.toArray⟩ = l := rfl
/-- The reference's digits. -/
def digR (l : List UInt8) : Nat × Nat × Nat := if (digP l 0 0).2.2 = 0 then ((digP l 0 0).1, (digP l 0 0).2.1, 0) else (0, 0, (digP l 0 0).2.2)

theorem Tryz.rdigits_w (l : List UInt8) (w : World) (hlen : l.length ≤ 9223372036854775807) :
    Fun Tryz.prog 91 [str l] w (.tuple #[.int .u64 (digR l).1, .int .i64 (digR l).2.1, .int .i64 (digR l).2.2]) := by
  refine Tri.enter (bx := []) (hp := []) Tryz.func91 rfl (by kernel_rfl) rfl (Own.nil w) ?_
  refine At.run 100 true [] [] rfl trivial ?_
  refine At.loop (n := l.length) (env0 := [(0, str l), (5, .int .u64 0), (6, .int .u64 1), (7, .int .i64 0)]) (fun m env bx hp => ∃ (k acc : Nat), m = l.length - k ∧ k ≤ l.length ∧ k ≤ 9 ∧ acc < 128 ^ k ∧ digP l 0 0 = digP (l.drop k) k acc ∧
    env = [(0, str l), (5, .int .u64 acc), (6, .int .u64 ((128 ^ k : Nat) : Int)), (7, .int .i64 k)] ∧ bx = [] ∧ hp = []) rfl
    ⟨0, 0, by simp, by omega, by omega, by simp, by simp, rfl, rfl, rfl⟩ ⟨rfl, rfl, rfl, rfl, trivial⟩ ?_
  rintro m env bx hp ⟨k, acc, rfl, hk, hk9, hacc, he, rfl, rfl, rfl⟩ ih
  by_cases h : k = l.length
  · refine At.run 100 true [false] [] rfl (by simp only [bl_str]; exact (by (repeat' apply And.intro) <;> first | exact True.intro | omega | (simp only [inK]; omega) | (simp; done) | (simp; omega) | exact decide_eq_true (by omega) | exact decide_eq_false (by omega) | rfl | (simp [Value.oneCell']; done) | exact i64s_one _ | exact AggOk.mk (by kernel_rfl) (by kernel_rfl))) ?_
    have hd : l.drop k = [] := by rw [h]; simp
    have hr : digP l 0 0 = (0, k, 2) := by rw [he, hd]; rfl
    exact At.ret [] rfl Tryz.func91 rfl trivial ⟨by unfold digR; rw [hr]; rfl, rfl, rfl⟩
  · obtain ⟨c, hc⟩ : ∃ c, l[k]? = some c := ⟨_, List.getElem?_eq_getElem (by omega)⟩
    have hd : l.drop k = c :: l.drop (k + 1) := by
      rw [List.drop_eq_getElem_cons (by omega)]; congr 1; exact (List.getElem?_eq_some_iff.1 hc).2
    rw [hd] at he
    have ec : (bl ⟨l.toArray⟩)[((k : Nat) : Int).toNat]?.getD 0 = c := by rw [Int.toNat_natCast, bl_str]; simp [hc]
    have hcl := c.toNat_lt
    have hp9 : (128 : Nat) ^ k ≤ 128 ^ 9 := Nat.pow_le_pow_right (by decide) hk9
    have hL : k < (bl ⟨l.toArray⟩).length := by rw [bl_str]; omega
    have hb64 := hlen
    rw [← bl_str l] at hb64
    have hlt : decide ((k : Int) < (((bl ⟨l.toArray⟩).length : Nat) : Int)) = true := decide_eq_true (by omega)
    have hix : (0 : Int) ≤ k ∧ (k : Int) < (((bl ⟨l.toArray⟩).length : Nat) : Int) := by omega
    by_cases h9 : k = 9
    · subst h9
      by_cases hc1 : 1 < c.toNat
      · refine At.run 100 true [true, true, true] [] rfl (by simp only [ec]; exact (by (repeat' apply And.intro) <;> first | exact True.intro | omega | (simp only [inK]; omega) | (simp; done) | (simp; omega) | exact decide_eq_true (by omega) | exact decide_eq_false (by omega) | rfl | (simp [Value.oneCell']; done) | exact i64s_one _ | exact AggOk.mk (by kernel_rfl) (by kernel_rfl))) ?_
        have hr : digP l 0 0 = (0, 9 + 1, 3) := by rw [he]; simp [digP, hc1]
        exact At.ret [] rfl Tryz.func91 rfl trivial ⟨by unfold digR; rw [hr]; rfl, rfl, rfl⟩
      · by_cases hz : c.toNat = 0
        · refine At.run 100 true [true, true, false, true, true] [] rfl (by simp only [ec]; exact (by (repeat' apply And.intro) <;> first | exact True.intro | omega | (simp only [inK]; omega) | (simp; done) | (simp; omega) | exact decide_eq_true (by omega) | exact decide_eq_false (by omega) | rfl | (simp [Value.oneCell']; done) | exact i64s_one _ | exact AggOk.mk (by kernel_rfl) (by kernel_rfl))) ?_
          have hr : digP l 0 0 = (0, 9 + 1, 3) := by rw [he]; simp [digP, hz]
          exact At.ret [] rfl Tryz.func91 rfl trivial ⟨by unfold digR; rw [hr]; rfl, rfl, rfl⟩
        · refine At.run 100 false [true, true, false, true, false, true] [] rfl (by simp only [ec]; exact (by (repeat' apply And.intro) <;> first | exact True.intro | omega | (simp only [inK]; omega) | (simp; done) | (simp; omega) | exact decide_eq_true (by omega) | exact decide_eq_false (by omega) | rfl | (simp [Value.oneCell']; done) | exact i64s_one _ | exact AggOk.mk (by kernel_rfl) (by kernel_rfl))) ?_
          have hr : digP l 0 0 = (acc + c.toNat * 128 ^ 9, 9 + 1, 0) := by rw [he]; simp [digP, hc1, hz]; omega
          refine At.ret [] rfl Tryz.func91 rfl trivial ⟨?_, rfl, rfl⟩
          unfold digR; rw [hr]
          simp only [ec, tupV, if_true]
          have e1 : IntKind.u64.wrap ((acc : Int) + IntKind.u64.wrap (IntKind.u64.wrap ((c.toNat : Int).tmod 128) * ((128 ^ 9 : Nat) : Int))) = ((acc + c.toNat * 128 ^ 9 : Nat) : Int) := by
            have hc2 : c.toNat = 1 := by omega
            have e3 : ((1 : Nat) : Int).tmod 128 = 1 := by decide
            rw [hc2, e3]; simp only [wrap_u64]; omega
          have e2 : IntKind.i64.wrap (((9 : Nat) : Int) + 1) = ((9 + 1 : Nat) : Int) := by rw [wrap_i64]; omega
          rw [e1, e2]; rfl
    · have hk8 : (128 : Nat) ^ k ≤ 128 ^ 8 := Nat.pow_le_pow_right (by decide) (by omega)
      have h3 : c.toNat % 128 * 128 ^ k ≤ 127 * 128 ^ k := Nat.mul_le_mul_right _ (by omega)
      have h3' : (c.toNat : Int) % 128 * ((128 ^ k : Nat) : Int) = ((c.toNat % 128 * 128 ^ k : Nat) : Int) := by rw [Int.natCast_mul, Int.natCast_emod]; rfl
      have hpos : 0 < (128 : Nat) ^ k := Nat.pow_pos (by decide)
      by_cases hz : 0 < k ∧ c.toNat = 0
      · refine At.run 100 true [true, false, false, true, true] [] rfl (by simp only [ec]; exact (by (repeat' apply And.intro) <;> first | exact True.intro | omega | (simp only [inK]; omega) | (simp; done) | (simp; omega) | exact decide_eq_true (by omega) | exact decide_eq_false (by omega) | rfl | (simp [Value.oneCell']; done) | exact i64s_one _ | exact AggOk.mk (by kernel_rfl) (by kernel_rfl))) ?_
        have hr : digP l 0 0 = (0, k + 1, 3) := by rw [he]; simp [digP, hz.2, hz.1, h9]
        exact At.ret [] rfl Tryz.func91 rfl trivial ⟨by unfold digR; rw [hr]; rfl, rfl, rfl⟩
      · by_cases h128 : c.toNat < 128
        · have hm : c.toNat % 128 = c.toNat := Nat.mod_eq_of_lt h128
          have hr : digP l 0 0 = (acc + c.toNat % 128 * 128 ^ k, k + 1, 0) := by rw [he, hm, digP, if_neg (by omega), if_pos h128, if_neg (by omega)]
          by_cases hk0 : 0 < k
          · refine At.run 100 true [true, false, false, true, false, true] [] rfl (by simp only [ec, h3']; exact (by (repeat' apply And.intro) <;> first | exact True.intro | omega | (simp only [inK]; omega) | (simp; done) | (simp; omega) | exact decide_eq_true (by omega) | exact decide_eq_false (by omega) | rfl | (simp [Value.oneCell']; done) | exact i64s_one _ | exact AggOk.mk (by kernel_rfl) (by kernel_rfl))) ?_
            refine At.ret [] rfl Tryz.func91 rfl trivial ⟨?_, rfl, rfl⟩
            unfold digR; rw [hr]
            simp only [ec, h3', tupV, if_true]; rfl
          · refine At.run 100 true [true, false, false, false, false, true] [] rfl (by simp only [ec, h3']; exact (by (repeat' apply And.intro) <;> first | exact True.intro | omega | (simp only [inK]; omega) | (simp; done) | (simp; omega) | exact decide_eq_true (by omega) | exact decide_eq_false (by omega) | rfl | (simp [Value.oneCell']; done) | exact i64s_one _ | exact AggOk.mk (by kernel_rfl) (by kernel_rfl))) ?_
            refine At.ret [] rfl Tryz.func91 rfl trivial ⟨?_, rfl, rfl⟩
            unfold digR; rw [hr]
            simp only [ec, h3', tupV, if_true]; rfl
        · have hr : digP l 0 0 = digP (l.drop (k + 1)) (k + 1) (acc + c.toNat % 128 * 128 ^ k) := by rw [he, digP, if_neg (by omega), if_neg h128]
          have e4 : ((128 ^ k : Nat) : Int) * 128 = ((128 ^ (k + 1) : Nat) : Int) := by rw [Nat.pow_succ, Int.natCast_mul]; rfl
          have hk9' : (128 : Nat) ^ (k + 1) ≤ 128 ^ 9 := Nat.pow_le_pow_right (by decide) (by omega)
          by_cases hk0 : 0 < k
          · refine At.run 100 true [true, false, false, true, false, false] [] rfl (by simp only [ec, h3', e4]; exact (by (repeat' apply And.intro) <;> first | exact True.intro | omega | (simp only [inK]; omega) | (simp; done) | (simp; omega) | exact decide_eq_true (by omega) | exact decide_eq_false (by omega) | rfl | (simp [Value.oneCell']; done) | exact i64s_one _ | exact AggOk.mk (by kernel_rfl) (by kernel_rfl))) ?_
            refine At.weak (ih (l.length - (k + 1)) _ _ _ (by omega) ⟨k + 1, acc + c.toNat % 128 * 128 ^ k, rfl, by omega, by omega, by rw [Nat.pow_succ]; omega, hr, rfl, rfl, rfl⟩) ⟨rfl, some_int_eq (by rw [ec, h3']; rfl), some_int_eq e4, some_int_eq (by omega), trivial⟩
          · refine At.run 100 true [true, false, false, false, false, false] [] rfl (by simp only [ec, h3', e4]; exact (by (repeat' apply And.intro) <;> first | exact True.intro | omega | (simp only [inK]; omega) | (simp; done) | (simp; omega) | exact decide_eq_true (by omega) | exact decide_eq_false (by omega) | rfl | (simp [Value.oneCell']; done) | exact i64s_one _ | exact AggOk.mk (by kernel_rfl) (by kernel_rfl))) ?_
            refine At.weak (ih (l.length - (k + 1)) _ _ _ (by omega) ⟨k + 1, acc + c.toNat % 128 * 128 ^ k, rfl, by omega, by omega, by rw [Nat.pow_succ]; omega, hr, rfl, rfl, rfl⟩) ⟨rfl, some_int_eq (by rw [ec, h3']; rfl), some_int_eq e4, some_int_eq (by omega), trivial⟩

theorem Tryz.rint_w (n : Int) (hn : inK .i64 n) (w : World) : Fun Tryz.prog 90 [.int .i64 n] w (str (numL (zig n))) := by
  refine Tri.enter (bx := []) (hp := []) Tryz.func90 rfl (by kernel_rfl) rfl (Own.nil w) ?_
  refine At.run 100 false [] [hC (.int .u64 (zig n)), hC (str (numL (zig n)))] rfl ⟨fun w _ => Tryz.rnum_w _ (zig_lt hn) w, fun w _ => Tryz.rzig_w n hn w, trivial⟩ ?_
  exact At.ret [] rfl Tryz.func90 rfl trivial ⟨rfl, rfl, rfl⟩

theorem Tryz.rOf_w (s : ByteArray) (w : World) :
    Tri Tryz.prog 37 [.string s] w [] (fun v bx hp => ∃ b, v = .pointer (some ⟨b, 0, none⟩) ∧ bx = [(b, 84, rdr s 0 0)] ∧ hp = []) := by
  refine Tri.enter (bx := []) (hp := []) Tryz.func37 rfl (by kernel_rfl) rfl (Own.nil w) ?_
  refine At.run 100 true [] [] rfl (by (repeat' apply And.intro) <;> first | exact True.intro | omega | (simp only [inK]; omega) | (simp; done) | (simp; omega) | exact decide_eq_true (by omega) | exact decide_eq_false (by omega) | rfl | (simp [Value.oneCell']; done) | exact i64s_one _ | exact AggOk.mk (by kernel_rfl) (by kernel_rfl)) ?_
  refine At.step [] rfl rfl rfl rfl rfl trivial (OpOk.box rfl rfl rfl fun b hb => ?_)
  refine At.run 100 true [] [] rfl (by (repeat' apply And.intro) <;> first | exact True.intro | omega | (simp only [inK]; omega) | (simp; done) | (simp; omega) | exact decide_eq_true (by omega) | exact decide_eq_false (by omega) | rfl | (simp [Value.oneCell']; done) | exact i64s_one _ | exact AggOk.mk (by kernel_rfl) (by kernel_rfl)) ?_
  exact At.ret [] rfl Tryz.func37 rfl trivial ⟨b, rfl, rfl, rfl⟩

theorem Tryz.rNum_w (s : ByteArray) (a0 : Nat) (f : Int) (b most : Nat) (w : World) (ha : a0 ≤ (bl s).length) (hlen : (bl s).length ≤ 9223372036854775807)
    (hown : Own [(b, 84, rdr s a0 f)] [] w) :
    FunU Tryz.prog 38 [.pointer (some ⟨b, 0, none⟩), .int .u64 most] w (.int .u64 (rdN (bl s) a0 f most).1) (b, 84, rdr s (rdN (bl s) a0 f most).2.1 (rdN (bl s) a0 f most).2.2) := by
  refine Tri.enter (bx := [(b, 84, rdr s a0 f)]) (hp := []) Tryz.func38 rfl (by kernel_rfl) rfl hown ?_
  by_cases hf : f = 0
  · subst hf
    refine At.run 100 true [false] [hB 0] rfl (by (repeat' apply And.intro) <;> first | exact True.intro | omega | (simp only [inK]; omega) | (simp; done) | (simp; omega) | exact decide_eq_true (by omega) | exact decide_eq_false (by omega) | rfl | (simp [Value.oneCell']; done) | exact i64s_one _ | exact AggOk.mk (by kernel_rfl) (by kernel_rfl)) ?_
    have hk := digP_k ((bl s).drop a0) 0 0
    rw [List.length_drop] at hk
    unfold rdN numE
    obtain ⟨n, k, e, hD⟩ : ∃ n k e, digP ((bl s).drop a0) 0 0 = (n, k, e) := ⟨_, _, _, rfl⟩
    have hd := fun w' => Tryz.rdigits_w ((bl s).drop a0) w' (by rw [List.length_drop]; omega)
    unfold digR at hd
    simp only [hD] at hd hk ⊢
    by_cases he : e = 0
    · subst he
      simp only [if_true] at hd
      refine At.quiet true [] [hB 0, hB 0, hC (.tuple #[.int .u64 n, .int .i64 k, .int .i64 0])] ⟨by kernel_rfl, by kernel_rfl, rfl, rfl, rfl⟩ rfl rfl rfl ⟨fun w' _ => hd w', ⟨by omega, by omega⟩, rfl, rfl, trivial⟩ ?_
      by_cases hm : most < n
      · refine At.run 100 true [true, true, true] [hB 0] rfl ⟨⟨rfl, rfl⟩, rfl, decide_eq_true (by omega), decide_eq_true (by omega), rfl, rfl, rfl, trivial⟩ ?_
        refine At.ret [] rfl Tryz.func38 rfl trivial ⟨?_, ?_, rfl⟩
        · simp [hm, tupV]
        · simp [hm, rdr]
      · refine At.run 100 true [true, false, false] [hB 0, hB 0] rfl (by (repeat' apply And.intro) <;> first | exact True.intro | omega | (simp only [inK]; omega) | (simp; done) | (simp; omega) | exact decide_eq_true (by omega) | exact decide_eq_false (by omega) | rfl | (simp [Value.oneCell']; done) | exact i64s_one _ | exact AggOk.mk (by kernel_rfl) (by kernel_rfl)) ?_
        refine At.ret [] rfl Tryz.func38 rfl trivial ⟨?_, ?_, rfl⟩
        · simp [hm, tupV]
        · simp [hm, rdr]
    · simp only [if_neg he] at hd
      refine At.quiet true [] [hB 0, hB 0, hC (.tuple #[.int .u64 0, .int .i64 0, .int .i64 e])] ⟨by kernel_rfl, by kernel_rfl, rfl, rfl, rfl⟩ rfl rfl rfl ⟨fun w' _ => hd w', ⟨by omega, by omega⟩, rfl, rfl, trivial⟩ ?_
      refine At.run 100 true [false, false, true] [hB 0] rfl (by (repeat' apply And.intro) <;> first | exact True.intro | omega | (simp only [inK]; omega) | (simp; done) | (simp; omega) | exact decide_eq_true (by omega) | exact decide_eq_false (by omega) | rfl | (simp [Value.oneCell']; done) | exact i64s_one _ | exact AggOk.mk (by kernel_rfl) (by kernel_rfl)) ?_
      refine At.ret [] rfl Tryz.func38 rfl trivial ⟨?_, ?_, rfl⟩
      · simp [he, tupV]
      · simp [he, rdr]
  · refine At.run 100 true [true] [hB 0] rfl (by (repeat' apply And.intro) <;> first | exact True.intro | omega | (simp only [inK]; omega) | (simp; done) | (simp; omega) | exact decide_eq_true (by omega) | exact decide_eq_false (by omega) | rfl | (simp [Value.oneCell']; done) | exact i64s_one _ | exact AggOk.mk (by kernel_rfl) (by kernel_rfl)) ?_
    refine At.ret [] rfl Tryz.func38 rfl trivial ⟨?_, ?_, rfl⟩
    · simp [rdN, hf, tupV]
    · simp [rdN, hf]

theorem rdI_eq (l : List UInt8) (a : Nat) (f : Int) : rdI l a f = (zag (rdN l a f 18446744073709551615).1, (rdN l a f 18446744073709551615).2) := by
  have := digP_lt (l.drop a) 0 0 (by omega) (by simp)
  have e : numE (l.drop a) 18446744073709551615 = (digP (l.drop a) 0 0).2.2 := by unfold numE; rw [if_neg (by omega)]
  unfold rdI rdN
  rw [e]
  split
  · simp [zag]
  · split <;> simp [zag]

theorem Tryz.rInt_w (s : ByteArray) (a0 : Nat) (f : Int) (b : Nat) (w : World) (ha : a0 ≤ (bl s).length) (hlen : (bl s).length ≤ 9223372036854775807)
    (hown : Own [(b, 84, rdr s a0 f)] [] w) :
    FunU Tryz.prog 92 [.pointer (some ⟨b, 0, none⟩)] w (.int .i64 (rdI (bl s) a0 f).1) (b, 84, rdr s (rdI (bl s) a0 f).2.1 (rdI (bl s) a0 f).2.2) := by
  refine Tri.enter (bx := [(b, 84, rdr s a0 f)]) (hp := []) Tryz.func92 rfl (by kernel_rfl) rfl hown ?_
  have hlt := (rdN_lt (bl s) a0 f 18446744073709551615).2
  rw [rdI_eq]
  refine At.run 100 true [] [hU (.int .u64 (rdN (bl s) a0 f 18446744073709551615).1) 0 (rdr s (rdN (bl s) a0 f 18446744073709551615).2.1 (rdN (bl s) a0 f 18446744073709551615).2.2), hC (.int .i64 (zag (rdN (bl s) a0 f 18446744073709551615).1))] rfl
    ⟨fun w' _ => Tryz.rzag_w _ hlt w', fun w' hw' => Tryz.rNum_w s a0 f b 18446744073709551615 w' ha hlen hw'.toOwn, trivial⟩ ?_
  exact At.ret [] rfl Tryz.func92 rfl trivial ⟨rfl, rfl, rfl⟩
end Go.Proofs

/-
  Walks of layer 11: columns.
-/
namespace Go.Proofs
open Go Go.Eng
set_option maxRecDepth 100000
set_option maxHeartbeats 4000000
attribute [local irreducible] Tri

theorem Own.tail {e : Nat × TypeId × List Value} {bx : Bx} {hp : List Seg} {w : World} (h : Own (e :: bx) hp w) : Own bx hp w :=
  ⟨(List.nodup_cons.1 h.nd).2, fun k hk => h.lt k (List.mem_cons_of_mem _ hk), fun e he => h.bx e (List.mem_cons_of_mem _ he), h.hp⟩


theorem Tryz.runs_w (a : Option Addr) (n cap : Nat) (w : World) :
    Tri Tryz.prog 111 [.slice a n cap] w [] (fun v bx hp => ∃ b, v = .func (.func 122) #[] #[.pointer (some ⟨b, 0, none⟩)] ∧ bx = [(b, 77, [.slice a n cap])] ∧ hp = []) := by
  refine Tri.enter (bx := []) (hp := []) Tryz.func111 rfl (by kernel_rfl) rfl (Own.nil w) ?_
  refine At.run 100 true [] [] rfl (by (repeat' apply And.intro) <;> first | exact True.intro | omega | (simp only [inK]; omega) | (simp; done) | (simp; omega) | exact decide_eq_true (by omega) | exact decide_eq_false (by omega) | rfl | (simp [Value.oneCell']; done) | exact i64s_one _ | exact AggOk.mk (by kernel_rfl) (by kernel_rfl)) ?_
  refine At.step [] rfl rfl rfl rfl rfl trivial (OpOk.box (cs := [.slice a n cap]) rfl rfl rfl fun b hb => ?_)
  refine At.run 100 true [] [] rfl (by (repeat' apply And.intro) <;> first | exact True.intro | omega | (simp only [inK]; omega) | (simp; done) | (simp; omega) | exact decide_eq_true (by omega) | exact decide_eq_false (by omega) | rfl | (simp [Value.oneCell']; done) | exact i64s_one _ | exact AggOk.mk (by kernel_rfl) (by kernel_rfl)) ?_
  exact At.ret [] rfl Tryz.func111 rfl trivial ⟨b, rfl, rfl, rfl⟩

def encR (x : Int × Nat) : List Value := [.int .i64 x.1, .int .i64 x.2]

/-- The column that is ranged over: its box, its row. -/
theorem Tryz.runs1_w (xs : List Int) (a : Option Addr) (cap b : Nat) (w : World) (hlen : xs.length ≤ 1048576) (hrow : SlOk w a (i64s xs)) :
    Iter Tryz.prog 122 [.pointer (some ⟨b, 0, none⟩)] [(b, 77, [.slice a xs.length cap])] (slR a (i64s xs)) encR (rle (diffs 0 xs)) w := by
  intro y s0 J hJ hown hfree hyield
  refine Tri.enter Tryz.func122 rfl (by kernel_rfl) rfl hown ?_
  refine At.run 100 true [] [hB 0, hB 0, hB 0] rfl (by (repeat' apply And.intro) <;> first | exact True.intro | omega | (simp only [inK]; omega) | (simp; done) | (simp; omega) | exact decide_eq_true (by omega) | exact decide_eq_false (by omega) | rfl | (simp [Value.oneCell']; done) | exact i64s_one _ | exact AggOk.mk (by kernel_rfl) (by kernel_rfl)) ?_
  refine At.loop (n := xs.length) (env0 := [(0, .func (.yield y) #[] #[]), (1, .pointer (some ⟨b, 0, none⟩)), (3, .int .i64 0), (4, .int .i64 0)])
    (fun m env bx hp => ∃ (i : Nat) (ahead : Int) (pre : List (Int × Nat)) (s : Seg), m = xs.length - i ∧ i ≤ xs.length ∧ rle (diffs 0 xs) = pre ++ rle (diffs ahead (xs.drop i)) ∧
      env = [(0, .func (.yield y) #[] #[]), (1, .pointer (some ⟨b, 0, none⟩)), (3, .int .i64 ahead), (4, .int .i64 i)] ∧ bx = [(b, 77, [.slice a xs.length cap])] ∧ hp = [s] ∧ J pre s) rfl
    ⟨0, 0, [], s0, by simp, by omega, by simp, rfl, rfl, rfl, hJ⟩ ⟨rfl, rfl, rfl, rfl, trivial⟩ ?_
  rintro m env bx hp ⟨i, ahead, pre, s, rfl, hi, he, rfl, rfl, rfl, hJp⟩ ih
  refine At.run 100 true [] [hB 0] rfl (by (repeat' apply And.intro) <;> first | exact True.intro | omega | (simp only [inK]; omega) | (simp; done) | (simp; omega) | exact decide_eq_true (by omega) | exact decide_eq_false (by omega) | rfl | (simp [Value.oneCell']; done) | exact i64s_one _ | exact AggOk.mk (by kernel_rfl) (by kernel_rfl)) ?_
  by_cases hlt : i < xs.length
  · have hne : i64s xs ≠ [] := by intro e; simp only [i64s, List.map_eq_nil_iff] at e; rw [e] at hlt; simp at hlt
    obtain ⟨g, o, rfl, hc⟩ := hrow.get hne
    have hrd : ∀ (bx : Bx) (hp : List Seg) (j : Nat) (x : Int), xs[j]? = some x → RdW ⟨w, kys [(b, 77, [.slice (some ⟨g, o, none⟩) xs.length cap])] [s0]⟩ bx hp g (o + j * 1) [.int .i64 x] :=
      fun bx hp j x hx => RdW.base1 (hfree g (mem_slR hne)) (by rw [Nat.mul_one]; exact hc j _ (i64s_get hx))
    have hx : xs[i]? = some xs[i] := List.getElem?_eq_getElem hlt
    refine At.run 100 false [true] [hB 0, hR [.int .i64 xs[i]]] rfl ⟨trivial, hrd _ _ i _ hx, ⟨by omega, by omega⟩, rfl, decide_eq_true (by omega), trivial⟩ ?_
    obtain ⟨d, hd⟩ : ∃ d, d = IntKind.i64.wrap (xs[i] - ahead) := ⟨_, rfl⟩
    have hd0 : diffs ahead (xs.drop i) = d :: diffs xs[i] (xs.drop (i + 1)) := by rw [List.drop_eq_getElem_cons hlt, diffs, hd]
    rw [← hd]
    refine At.loop (n := xs.length - i) (env0 := [(0, .func (.yield y) #[] #[]), (1, .pointer (some ⟨b, 0, none⟩)), (3, .int .i64 ahead), (4, .int .i64 i), (5, .int .i64 d), (6, .int .i64 0)])
      (fun m env bx hp => ∃ (k : Nat) (ah : Int), m = xs.length - (i + k) ∧ i + k ≤ xs.length ∧ diffs ahead (xs.drop i) = List.replicate k d ++ diffs ah (xs.drop (i + k)) ∧
        env = [(0, .func (.yield y) #[] #[]), (1, .pointer (some ⟨b, 0, none⟩)), (3, .int .i64 ah), (4, .int .i64 (i + k : Nat)), (5, .int .i64 d), (6, .int .i64 k)] ∧ bx = [(b, 77, [.slice (some ⟨g, o, none⟩) xs.length cap])] ∧ hp = [s]) rfl
      ⟨0, ahead, by simp, by omega, by simp, rfl, rfl, rfl⟩ ⟨rfl, rfl, rfl, rfl, rfl, rfl, trivial⟩ ?_
    rintro m env bx hp ⟨k, ah, rfl, hk, hek, rfl, rfl, rfl⟩ ih2
    by_cases hlt2 : i + k < xs.length
    · have hx2 : xs[i + k]? = some xs[i + k] := List.getElem?_eq_getElem hlt2
      have hd2 : diffs ah (xs.drop (i + k)) = IntKind.i64.wrap (xs[i + k] - ah) :: diffs xs[i + k] (xs.drop (i + k + 1)) := by rw [List.drop_eq_getElem_cons hlt2, diffs]
      by_cases hsame : IntKind.i64.wrap (xs[i + k] - ah) = d
      · refine At.run 100 false [true, true] [hB 0, hB 0, hR [.int .i64 xs[i + k]], hB 0, hR [.int .i64 xs[i + k]]] rfl (by (repeat' apply And.intro) <;> first | exact True.intro | exact hrd _ _ _ _ hx2 | omega | (simp only [inK]; omega) | exact decide_eq_true (by omega) | exact decide_eq_false (by omega) | exact decide_eq_true hsame | exact decide_eq_false hsame | rfl) ?_
        refine At.weak (ih2 (xs.length - (i + (k + 1))) _ _ _ (by omega) ⟨k + 1, xs[i + k], rfl, by omega, ?_, rfl, rfl, rfl⟩) ⟨rfl, rfl, rfl, some_int_eq (by rw [wrap_i64]; omega), rfl, some_int_eq (by rw [wrap_i64]; omega), trivial⟩
        rw [hek, hd2, hsame, List.replicate_succ', ← Nat.add_assoc]; simp
      · refine At.run 100 false [true, false] [hB 0, hB 0, hR [.int .i64 xs[i + k]]] rfl (by (repeat' apply And.intro) <;> first | exact True.intro | exact hrd _ _ _ _ hx2 | omega | (simp only [inK]; omega) | exact decide_eq_true (by omega) | exact decide_eq_false (by omega) | exact decide_eq_true hsame | exact decide_eq_false hsame | rfl) ?_
        have hnx : ∀ e l, diffs ah (xs.drop (i + k)) = e :: l → e ≠ d := by
          intro e l h; rw [hd2] at h; cases h; exact hsame
        obtain ⟨k', rfl⟩ : ∃ k', k = k' + 1 := by
          cases k with
          | zero =>
            simp only [List.replicate_zero, List.nil_append] at hek
            rw [hd0] at hek
            exact (hnx _ _ hek.symm rfl).elim
          | succ k' => exact ⟨k', rfl⟩
        have hrun : rle (diffs ahead (xs.drop i)) = (d, k' + 1) :: rle (diffs ah (xs.drop (i + (k' + 1)))) := by rw [hek]; exact rle_run d _ hnx k'
        refine At.yield [] rfl rfl rfl rfl rfl trivial (lp := y) (args := encR (d, k' + 1)) rfl [] [true] (bm := []) (hm := [s]) (br := [(b, 77, [.slice (some ⟨g, o, none⟩) xs.length cap])]) (hr := []) (Q := fun bx hp => bx = [] ∧ ∃ s', hp = [s'] ∧ J (pre ++ [(d, k' + 1)]) s') rfl
          (fun w' hw' => hyield pre (d, k' + 1) s w' ⟨rle (diffs ah (xs.drop (i + (k' + 1)))), by rw [he, hrun]; simp⟩ hJp (Own.tail hw'.toOwn) hw'.ext) ?_
        rintro _ _ ⟨rfl, s', rfl, hJ'⟩
        refine At.run 100 true [false] [] rfl ⟨rfl, trivial⟩ ?_
        refine At.weak (ih (xs.length - (i + (k' + 1))) _ _ _ (by omega) ⟨i + (k' + 1), ah, pre ++ [(d, k' + 1)], s', rfl, hk, by rw [he, hrun]; simp, rfl, rfl, rfl, hJ'⟩) ⟨rfl, rfl, rfl, rfl, trivial⟩
    · refine At.run 100 false [false, false] [hB 0] rfl (by (repeat' apply And.intro) <;> first | exact True.intro | exact hrd _ _ _ _ hx2 | omega | (simp only [inK]; omega) | exact decide_eq_true (by omega) | exact decide_eq_false (by omega) | exact decide_eq_true hsame | exact decide_eq_false hsame | rfl) ?_
      have hnx : ∀ e l, diffs ah (xs.drop (i + k)) = e :: l → e ≠ d := by
        intro e l h; rw [List.drop_eq_nil_of_le (by omega)] at h; cases h
      obtain ⟨k', rfl⟩ : ∃ k', k = k' + 1 := by
        cases k with
        | zero =>
          simp only [List.replicate_zero, List.nil_append] at hek
          rw [hd0] at hek
          exact (hnx _ _ hek.symm rfl).elim
        | succ k' => exact ⟨k', rfl⟩
      have hrun : rle (diffs ahead (xs.drop i)) = (d, k' + 1) :: rle (diffs ah (xs.drop (i + (k' + 1)))) := by rw [hek]; exact rle_run d _ hnx k'
      refine At.yield [] rfl rfl rfl rfl rfl trivial (lp := y) (args := encR (d, k' + 1)) rfl [] [true] (bm := []) (hm := [s]) (br := [(b, 77, [.slice (some ⟨g, o, none⟩) xs.length cap])]) (hr := []) (Q := fun bx hp => bx = [] ∧ ∃ s', hp = [s'] ∧ J (pre ++ [(d, k' + 1)]) s') rfl
        (fun w' hw' => hyield pre (d, k' + 1) s w' ⟨rle (diffs ah (xs.drop (i + (k' + 1)))), by rw [he, hrun]; simp⟩ hJp (Own.tail hw'.toOwn) hw'.ext) ?_
      rintro _ _ ⟨rfl, s', rfl, hJ'⟩
      refine At.run 100 true [false] [] rfl ⟨rfl, trivial⟩ ?_
      refine At.weak (ih (xs.length - (i + (k' + 1))) _ _ _ (by omega) ⟨i + (k' + 1), ah, pre ++ [(d, k' + 1)], s', rfl, hk, by rw [he, hrun]; simp, rfl, rfl, rfl, hJ'⟩) ⟨rfl, rfl, rfl, rfl, trivial⟩
  · refine At.run 100 true [false] [] rfl (by (repeat' apply And.intro) <;> first | exact True.intro | omega | (simp only [inK]; omega) | (simp; done) | (simp; omega) | exact decide_eq_true (by omega) | exact decide_eq_false (by omega) | rfl | (simp [Value.oneCell']; done) | exact i64s_one _ | exact AggOk.mk (by kernel_rfl) (by kernel_rfl)) ?_
    refine At.ret [] rfl Tryz.func122 rfl trivial ⟨rfl, s, rfl, ?_⟩
    have : i = xs.length := by omega
    rw [he, this]; simpa [diffs, rle] using hJp


theorem Tryz.Put_w (xs : List Int) (a : Option Addr) (cap : Nat) (w : World) (hlen : xs.length ≤ 65536) (hrow : SlOk w a (i64s xs)) :
    Fun Tryz.prog 52 [.slice a xs.length cap] w (.tuple #[str (colL xs), .int .i64 0]) := by
  refine Tri.enter (bx := []) (hp := []) Tryz.func52 rfl (by kernel_rfl) rfl (Own.nil w) ?_
  refine At.run 100 true [false] [] rfl (by (repeat' apply And.intro) <;> first | exact True.intro | omega | (simp only [inK]; omega) | (simp; done) | (simp; omega) | exact decide_eq_true (by omega) | exact decide_eq_false (by omega) | rfl | (simp [Value.oneCell']; done) | exact i64s_one _ | exact AggOk.mk (by kernel_rfl) (by kernel_rfl)) ?_
  have h64 : xs.length < 18446744073709551616 := by omega
  refine At.run 100 true [] [hC (str (numL xs.length))] rfl ⟨fun w' _ => Tryz.num_w _ h64 w', trivial⟩ ?_
  refine At.step [] rfl rfl rfl rfl rfl trivial (OpOk.toBytes rfl rfl rfl rfl rfl (by rw [bl_mk]; have := numL_len10 _ h64; omega) fun g cap0 => ?_)
  refine At.run 100 true [] [] rfl (by (repeat' apply And.intro) <;> first | exact True.intro | omega | (simp only [inK]; omega) | (simp; done) | (simp; omega) | exact decide_eq_true (by omega) | exact decide_eq_false (by omega) | rfl | (simp [Value.oneCell']; done) | exact i64s_one _ | exact AggOk.mk (by kernel_rfl) (by kernel_rfl)) ?_
  refine At.step [] rfl rfl rfl rfl rfl trivial (OpOk.alloc (cs := [sv none 0 0]) rfl (by kernel_rfl) fun bo hbo => ?_)
  refine At.run 100 true [] [hB 0] rfl (by (repeat' apply And.intro) <;> first | exact True.intro | omega | (simp only [inK]; omega) | (simp; done) | (simp; omega) | exact decide_eq_true (by omega) | exact decide_eq_false (by omega) | rfl | (simp [Value.oneCell']; done) | exact i64s_one _ | exact AggOk.mk (by kernel_rfl) (by kernel_rfl)) ?_
  refine At.step [] rfl rfl rfl rfl rfl trivial (OpOk.call rfl (fun w' hw' => Tryz.runs_w a _ cap w') ?_)
  rintro v bx' hp' ⟨b, rfl, rfl, rfl⟩
  refine At.run 100 true [] [] rfl (by (repeat' apply And.intro) <;> first | exact True.intro | omega | (simp only [inK]; omega) | (simp; done) | (simp; omega) | exact decide_eq_true (by omega) | exact decide_eq_false (by omega) | rfl | (simp [Value.oneCell']; done) | exact i64s_one _ | exact AggOk.mk (by kernel_rfl) (by kernel_rfl)) ?_
  refine At.rangeI (bi := [(b, 77, [.slice a xs.length cap])]) (bc := [(bo, 41, [sv (some g) (numL xs.length).length cap0])]) (hp := [Seg.row (some g) 5 1 (numL xs.length).length cap0 (u8s (numL xs.length))]) rfl rfl rfl (rd := slR a (i64s xs)) (fun k hk => ⟨hrow.ltR k hk, by simp [kys]⟩)
    (enc := encR) (xs := rle (diffs 0 xs)) (fun _ => rfl) rfl
    (fun pre bx hp => ∃ a1 cap1 l, l = numL xs.length ++ pre.flatMap runB ∧ bx = [(bo, 41, [sv a1 l.length cap1])] ∧ hp = [Seg.row a1 5 1 l.length cap1 (u8s l)]) ⟨some g, cap0, numL xs.length, by simp, rfl, rfl⟩
    (fun w' hext => (Tryz.runs1_w xs a cap b w' (by omega) (hrow.ext hext (by simp [kys])))) ?_ ?_
  · rintro lp D tm pre ⟨d, n⟩ bx hp w' hpre ⟨a1, cap1, l, hl, rfl, rfl⟩ hext
    refine At.run 100 true [] [] rfl trivial ?_
    refine At.begin ?_
    have hmem : ∀ x, x ∈ pre ++ [(d, n)] → inK .i64 x.1 ∧ x.2 ≤ xs.length := by
      intro x hx
      have := rle_mem _ x (hpre.subset hx)
      rw [diffs_len] at this
      exact ⟨diffs_in _ _ _ this.1, this.2.2⟩
    have hd := (hmem (d, n) (by simp)).1
    have hn := (hmem (d, n) (by simp)).2
    simp only at hd hn
    have hpl := hpre.length_le
    have hl2 := rle_len (diffs 0 xs)
    rw [diffs_len] at hl2
    simp only [List.length_append, List.length_singleton] at hpl
    have hb1 := runs_len pre (fun x hx => runB_len (hmem x (by simp [hx])).1 (by have := (hmem x (by simp [hx])).2; omega))
    have hb2 := numL_len10 _ h64
    have hb3 := numL_len10 _ (zig_lt hd)
    have hb4 := numL_len10 n (by omega)
    have hll : l.length = (numL xs.length).length + (pre.flatMap runB).length := by rw [hl]; simp
    refine At.cutRow (ι := Option Nat × Nat) ⟨1, [0, 0], []⟩ 1 (fun _ => [(4, .pointer (some ⟨bo, 0, none⟩)), (6, .int .i64 n)]) (fun i => [(bo, 41, [sv i.1 (l.length + (numL (zig d)).length) i.2])])
      (fun i => Seg.row i.1 5 1 (l.length + (numL (zig d)).length) i.2 (u8s l ++ u8s (numL (zig d)))) ?_ (fun hs2 => ?_)
    · rintro ⟨a2, cap2⟩
      refine At.run 100 true [] [] rfl trivial ?_
      refine At.draw 6 rfl rfl rfl rfl ?_
      refine AtD.pures (ob := True) true (by kernel_rfl) [1, 2] (fuel := 4) (by kernel_rfl) rfl (by (repeat' apply And.intro) <;> first | exact True.intro | omega | (simp only [inK]; omega) | (simp; done) | (simp; omega) | exact decide_eq_true (by omega) | exact decide_eq_false (by omega) | rfl | (simp [Value.oneCell']; done) | exact i64s_one _ | exact AggOk.mk (by kernel_rfl) (by kernel_rfl)) ?_
      have hcall : ∀ {S : Base} {bx : Bx} {hp : List Seg}, CallOb Tryz.prog S bx hp 15 [.int .u64 n] (str (numL n)) := fun w _ => Tryz.num_w n (by omega) w
      refine AtD.fork2 0 3 (by kernel_rfl) ?_ ?_
      · refine StepD.by [] rfl rfl rfl rfl trivial (OpOk.one true [] [hB 0] rfl rfl ?_)
        refine AtD.fork1 3 (by kernel_rfl) (StepD.by [] rfl rfl rfl rfl trivial (OpOk.one true [] [hC (str (numL n))] rfl hcall ?_))
        refine AtD.fork1 4 (by kernel_rfl) (StepD.by [] rfl rfl rfl rfl trivial (OpOk.appendStr 1 rfl rfl rfl rfl rfl rfl rfl (by rw [bl_mk]; omega) fun a3 cap3 => ?_))
        rw [bl_mk]
        refine AtD.fork1 5 (by kernel_rfl) (StepD.by0 [] rfl rfl rfl trivial (OpOk.one true [] [hB 0] rfl ⟨rfl, rfl⟩ ?_))
        refine AtD.done (by kernel_rfl) ?_
        refine At.run 100 true [] [] rfl trivial ?_
        refine At.roundEnd ⟨_, rfl, a3, cap3, l ++ numL (zig d) ++ numL n, ?_, ?_, ?_⟩
        · rw [hl]; simp [runB]
        · simp [setL, Nat.add_assoc]
        · simp only [setL]; rw [u8s_append, u8s_append]; simp [Nat.add_assoc]
      · refine StepD.by [] rfl rfl rfl rfl trivial (OpOk.one true [] [hC (str (numL n))] rfl hcall ?_)
        refine AtD.fork1 0 (by kernel_rfl) (StepD.by [] rfl rfl rfl rfl trivial (OpOk.one true [] [hB 0] rfl rfl ?_))
        refine AtD.fork1 4 (by kernel_rfl) (StepD.by [] rfl rfl rfl rfl trivial (OpOk.appendStr 1 rfl rfl rfl rfl rfl rfl rfl (by rw [bl_mk]; omega) fun a3 cap3 => ?_))
        rw [bl_mk]
        refine AtD.fork1 5 (by kernel_rfl) (StepD.by0 [] rfl rfl rfl trivial (OpOk.one true [] [hB 0] rfl ⟨rfl, rfl⟩ ?_))
        refine AtD.done (by kernel_rfl) ?_
        refine At.run 100 true [] [] rfl trivial ?_
        refine At.roundEnd ⟨_, rfl, a3, cap3, l ++ numL (zig d) ++ numL n, ?_, ?_, ?_⟩
        · rw [hl]; simp [runB]
        · simp [setL, Nat.add_assoc]
        · simp only [setL]; rw [u8s_append, u8s_append]; simp [Nat.add_assoc]
    · refine At.run 100 true [] [] rfl trivial ?_
      refine At.draw 5 rfl rfl rfl rfl ?_
      refine AtD.pures (ob := True) true (by kernel_rfl) [1] (fuel := 4) (by kernel_rfl) rfl (by (repeat' apply And.intro) <;> first | exact True.intro | omega | (simp only [inK]; omega) | (simp; done) | (simp; omega) | exact decide_eq_true (by omega) | exact decide_eq_false (by omega) | rfl | (simp [Value.oneCell']; done) | exact i64s_one _ | exact AggOk.mk (by kernel_rfl) (by kernel_rfl)) ?_
      have hcall : ∀ {S : Base} {bx : Bx} {hp : List Seg}, CallOb Tryz.prog S bx hp 112 [.int .i64 d] (str (numL (zig d))) := fun w _ => Tryz.int_w d hd w
      refine AtD.fork2 0 2 (by kernel_rfl) ?_ ?_
      · refine StepD.by [] rfl rfl rfl rfl trivial (OpOk.one true [] [hB 0] rfl rfl ?_)
        refine AtD.fork1 2 (by kernel_rfl) (StepD.by [] rfl rfl rfl rfl trivial (OpOk.one true [] [hC (str (numL (zig d)))] rfl hcall ?_))
        refine AtD.fork1 3 (by kernel_rfl) (StepD.by [] rfl rfl rfl rfl trivial (OpOk.appendStr 1 rfl rfl rfl rfl rfl rfl rfl (by rw [bl_mk]; omega) fun a2 cap2 => ?_))
        rw [bl_mk]
        refine AtD.fork1 4 (by kernel_rfl) (StepD.by0 [] rfl rfl rfl trivial (OpOk.one true [] [hB 0] rfl ⟨rfl, rfl⟩ ?_))
        refine AtD.done (by kernel_rfl) ?_
        exact At.weak (hs2 (a2, cap2)) ⟨rfl, rfl, trivial⟩
      · refine StepD.by [] rfl rfl rfl rfl trivial (OpOk.one true [] [hC (str (numL (zig d)))] rfl hcall ?_)
        refine AtD.fork1 0 (by kernel_rfl) (StepD.by [] rfl rfl rfl rfl trivial (OpOk.one true [] [hB 0] rfl rfl ?_))
        refine AtD.fork1 3 (by kernel_rfl) (StepD.by [] rfl rfl rfl rfl trivial (OpOk.appendStr 1 rfl rfl rfl rfl rfl rfl rfl (by rw [bl_mk]; omega) fun a2 cap2 => ?_))
        rw [bl_mk]
        refine AtD.fork1 4 (by kernel_rfl) (StepD.by0 [] rfl rfl rfl trivial (OpOk.one true [] [hB 0] rfl ⟨rfl, rfl⟩ ?_))
        refine AtD.done (by kernel_rfl) ?_
        exact At.weak (hs2 (a2, cap2)) ⟨rfl, rfl, trivial⟩
  · rintro D bx' hp' ⟨a1, cap1, l, hl, rfl, rfl⟩
    refine At.run 100 true [] [hB 1] rfl (by (repeat' apply And.intro) <;> first | exact True.intro | omega | (simp only [inK]; omega) | (simp; done) | (simp; omega) | exact decide_eq_true (by omega) | exact decide_eq_false (by omega) | rfl | (simp [Value.oneCell']; done) | exact i64s_one _ | exact AggOk.mk (by kernel_rfl) (by kernel_rfl)) ?_
    have hl' : l = colL xs := hl
    refine At.step [] rfl rfl rfl rfl rfl trivial (OpOk.toStr (l := l) 0 rfl rfl rfl rfl rfl rfl ?_)
    refine At.run 100 true [] [] rfl (by (repeat' apply And.intro) <;> first | exact True.intro | omega | (simp only [inK]; omega) | (simp; done) | (simp; omega) | exact decide_eq_true (by omega) | exact decide_eq_false (by omega) | rfl | (simp [Value.oneCell']; done) | exact i64s_one _ | exact AggOk.mk (by kernel_rfl) (by kernel_rfl)) ?_
    refine At.keep [] [false, true] rfl ?_
    exact At.retC (hp := []) [] rfl Tryz.func52 rfl trivial ⟨by rw [← hl']; rfl, rfl, rfl⟩
end Go.Proofs

/-
  Walks of layer 11: columns read.
-/
namespace Go.Proofs
open Go Go.Eng
set_option maxRecDepth 100000
set_option maxHeartbeats 4000000
attribute [local irreducible] Tri


/-- add: so many steps behind the column. -/
theorem Tryz.add_w (d last : Int) (n lack : Nat) (out : List Int) (b1 b2 b3 : Nat) (a : Option Nat) (cap : Nat) (w : World) (hn : n ≤ lack) (hl : lack < 18446744073709551616) (hb : out.length + n ≤ 1000000)
    (hown : Own [(b1, 2, [.int .i64 last]), (b2, 77, [sv a out.length cap]), (b3, 43, [.int .u64 lack])] [Seg.row a 2 1 out.length cap (i64s out)] w) :
    Tri Tryz.prog 113 [.int .i64 d, .int .u64 n, .pointer (some ⟨b1, 0, none⟩), .pointer (some ⟨b2, 0, none⟩), .pointer (some ⟨b3, 0, none⟩)] w
      (kys [(b1, 2, [.int .i64 last]), (b2, 77, [sv a out.length cap]), (b3, 43, [.int .u64 lack])] [Seg.row a 2 1 out.length cap (i64s out)])
      (fun v bx hp => ∃ a' cap', v = .tuple #[] ∧ bx = [(b1, 2, [.int .i64 (stepsE last d n)]), (b2, 77, [sv a' (out ++ stepsL last d n).length cap']), (b3, 43, [.int .u64 (lack - n : Nat)])] ∧
        hp = [Seg.row a' 2 1 (out ++ stepsL last d n).length cap' (i64s (out ++ stepsL last d n))]) := by
  refine Tri.enter Tryz.func113 rfl (by kernel_rfl) rfl hown ?_
  refine At.run 100 true [] [] rfl trivial ?_
  refine At.loop (n := n) (env0 := [(0, .int .i64 d), (1, .int .u64 n), (2, .pointer (some ⟨b1, 0, none⟩)), (3, .pointer (some ⟨b2, 0, none⟩)), (4, .pointer (some ⟨b3, 0, none⟩)), (7, .int .u64 n), (8, .int .u64 0)])
    (fun m env bx hp => ∃ (i : Nat) (a' : Option Nat) (cap' : Nat), m = n - i ∧ i ≤ n ∧ env = [(0, .int .i64 d), (1, .int .u64 n), (2, .pointer (some ⟨b1, 0, none⟩)), (3, .pointer (some ⟨b2, 0, none⟩)), (4, .pointer (some ⟨b3, 0, none⟩)), (7, .int .u64 n), (8, .int .u64 i)] ∧
      bx = [(b1, 2, [.int .i64 (stepsE last d i)]), (b2, 77, [sv a' (out ++ stepsL last d i).length cap']), (b3, 43, [.int .u64 lack])] ∧ hp = [Seg.row a' 2 1 (out ++ stepsL last d i).length cap' (i64s (out ++ stepsL last d i))]) rfl
    ⟨0, a, cap, by simp, by omega, rfl, by simp [stepsE, stepsL], by simp [stepsL]⟩ ⟨rfl, rfl, rfl, rfl, rfl, rfl, rfl, trivial⟩ ?_
  rintro m env bx hp ⟨i, a', cap', rfl, hi, rfl, rfl, rfl⟩ ih
  by_cases hlt : i < n
  · have hsl := stepsL_len last d i
    have hol : (out ++ stepsL last d i).length = out.length + i := by simp [hsl]
    refine At.run 100 false [true] [hB 0, hB 0, hB 1, hB 0] rfl (by (repeat' apply And.intro) <;> first | exact True.intro | omega | (simp only [inK]; omega) | (simp; done) | (simp; omega) | exact decide_eq_true (by omega) | exact decide_eq_false (by omega) | rfl | (simp [Value.oneCell']; done) | exact i64s_one _ | exact AggOk.mk (by kernel_rfl) (by kernel_rfl)) ?_
    refine At.append1 0 1 8 rfl rfl rfl rfl rfl rfl rfl rfl rfl trivial (fun _ => rfl) trivial rfl rfl rfl rfl rfl rfl rfl rfl (fun _ => rfl) (by simp [Value.oneCell']) (by omega) (by omega) (fun bb a2 cap2 => ?_)
    refine At.run 100 true [] [hB 1] rfl (by (repeat' apply And.intro) <;> first | exact True.intro | omega | (simp only [inK]; omega) | (simp; done) | (simp; omega) | exact decide_eq_true (by omega) | exact decide_eq_false (by omega) | rfl | (simp [Value.oneCell']; done) | exact i64s_one _ | exact AggOk.mk (by kernel_rfl) (by kernel_rfl)) ?_
    refine At.weak (ih (n - (i + 1)) _ _ _ (by omega) ⟨i + 1, a2, cap2, rfl, by omega, rfl, ?_, ?_⟩) ⟨rfl, rfl, rfl, rfl, rfl, rfl, some_int_eq (by omega), trivial⟩
    · rw [stepsE_snoc, stepsL_snoc]; simp [Nat.add_assoc]
    · rw [stepsL_snoc]; simp [setL, i64s, Nat.add_assoc]
  · have : i = n := by omega
    subst this
    refine At.run 100 true [false] [hB 2, hB 2] rfl (by (repeat' apply And.intro) <;> first | exact True.intro | omega | (simp only [inK]; omega) | (simp; done) | (simp; omega) | exact decide_eq_true (by omega) | exact decide_eq_false (by omega) | rfl | (simp [Value.oneCell']; done) | exact i64s_one _ | exact AggOk.mk (by kernel_rfl) (by kernel_rfl)) ?_
    refine At.ret [] rfl Tryz.func113 rfl trivial ⟨a', cap', rfl, ?_, rfl⟩
    rw [show ((lack : Int) - (i : Int)) = ((lack - i : Nat) : Int) by omega]


theorem Tryz.ColGet_bad (s : ByteArray) (most : Int) (w : World) (hm : most < 0 ∨ 65536 < most) : Fun Tryz.prog 88 [.string s, .int .i64 most] w (.tuple #[sv none 0 0, .int .i64 0, .int .i64 1]) := by
  refine Tri.enter (bx := []) (hp := []) Tryz.func88 rfl (by kernel_rfl) rfl (Own.nil w) ?_
  by_cases h0 : most < 0
  · refine At.run 100 true [true, true] [] rfl (by (repeat' apply And.intro) <;> first | exact True.intro | omega | (simp only [inK]; omega) | (simp; done) | (simp; omega) | exact decide_eq_true (by omega) | exact decide_eq_false (by omega) | rfl | (simp [Value.oneCell']; done) | exact i64s_one _ | exact AggOk.mk (by kernel_rfl) (by kernel_rfl)) ?_
    exact At.ret [] rfl Tryz.func88 rfl trivial ⟨rfl, rfl, rfl⟩
  · refine At.run 100 true [false, true] [] rfl (by (repeat' apply And.intro) <;> first | exact True.intro | omega | (simp only [inK]; omega) | (simp; done) | (simp; omega) | exact decide_eq_true (by omega) | exact decide_eq_false (by omega) | rfl | (simp [Value.oneCell']; done) | exact i64s_one _ | exact AggOk.mk (by kernel_rfl) (by kernel_rfl)) ?_
    exact At.ret [] rfl Tryz.func88 rfl trivial ⟨rfl, rfl, rfl⟩

theorem Tryz.ColGet_w (s : ByteArray) (most : Nat) (w : World) (hm : most ≤ 65536) (hlen : (bl s).length ≤ 9223372036854775807) :
    Tri Tryz.prog 88 [.string s, .int .i64 most] w [] (fun v bx hp => ∃ a cap, v = .tuple #[sv a (colG (bl s) most).1.length cap, .int .i64 (colG (bl s) most).2.1, .int .i64 (colG (bl s) most).2.2] ∧ bx = [] ∧
      hp = [Seg.row a 2 1 (colG (bl s) most).1.length cap (i64s (colG (bl s) most).1)]) := by
  refine Tri.enter (bx := []) (hp := []) Tryz.func88 rfl (by kernel_rfl) rfl (Own.nil w) ?_
  refine At.run 100 true [false, false] [] rfl (by (repeat' apply And.intro) <;> first | exact True.intro | omega | (simp only [inK]; omega) | (simp; done) | (simp; omega) | exact decide_eq_true (by omega) | exact decide_eq_false (by omega) | rfl | (simp [Value.oneCell']; done) | exact i64s_one _ | exact AggOk.mk (by kernel_rfl) (by kernel_rfl)) ?_
  refine At.step [] rfl rfl rfl rfl rfl trivial (OpOk.call rfl (fun w' hw' => Tryz.Read_w s w') ?_)
  rintro v bx' hp' ⟨b, rfl, rfl, rfl⟩
  have hN0 := rdN_lt (bl s) 0 0 most
  have hE0 := rdN_e (bl s) 0 0 most (by omega)
  have hA0 := rdN_a (l := bl s) (a := 0) (f := 0) (most := most) (by omega)
  refine At.run 100 true [] [hU (.int .u64 (rdN (bl s) 0 0 most).1) 0 (rdr s (rdN (bl s) 0 0 most).2.1 (rdN (bl s) 0 0 most).2.2)] rfl ⟨fun w' hw' => Tryz.Num_w s 0 0 b most w' (by omega) hlen (Own.head hw'.toOwn), by simp only [inK]; omega, trivial⟩ ?_
  refine At.step [] rfl rfl rfl rfl rfl trivial (OpOk.alloc (cs := [.int .u64 0]) rfl (by kernel_rfl) fun bk hbk => ?_)
  refine At.run 100 true [] [hB 0] rfl (by (repeat' apply And.intro) <;> first | exact True.intro | omega | (simp only [inK]; omega) | (simp; done) | (simp; omega) | exact decide_eq_true (by omega) | exact decide_eq_false (by omega) | rfl | (simp [Value.oneCell']; done) | exact i64s_one _ | exact AggOk.mk (by kernel_rfl) (by kernel_rfl)) ?_
  refine At.step [] rfl rfl rfl rfl rfl trivial (OpOk.alloc (cs := [sv none 0 0]) rfl (by kernel_rfl) fun bo hbo => ?_)
  refine At.run 100 true [] [] rfl (by (repeat' apply And.intro) <;> first | exact True.intro | omega | (simp only [inK]; omega) | (simp; done) | (simp; omega) | exact decide_eq_true (by omega) | exact decide_eq_false (by omega) | rfl | (simp [Value.oneCell']; done) | exact i64s_one _ | exact AggOk.mk (by kernel_rfl) (by kernel_rfl)) ?_
  refine At.step [] rfl rfl rfl rfl rfl trivial (OpOk.alloc (cs := [.int .i64 0]) rfl (by kernel_rfl) fun bla hbla => ?_)
  refine At.run 100 true [] [hB 0] rfl (by (repeat' apply And.intro) <;> first | exact True.intro | omega | (simp only [inK]; omega) | (simp; done) | (simp; omega) | exact decide_eq_true (by omega) | exact decide_eq_false (by omega) | rfl | (simp [Value.oneCell']; done) | exact i64s_one _ | exact AggOk.mk (by kernel_rfl) (by kernel_rfl)) ?_
  refine At.nilRow 2 1 ?_
  refine At.loop (n := 2 * (rdN (bl s) 0 0 most).1 + (if (rdN (bl s) 0 0 most).2.2 = 0 then 1 else 0)) (env0 := [(0, .string s), (7, .pointer (some ⟨b, 0, none⟩)), (8, .pointer (some ⟨bk, 0, none⟩)), (9, .pointer (some ⟨bo, 0, none⟩)), (11, .func (.func 113) ⟨[]⟩ ⟨[.pointer (some ⟨bla, 0, none⟩), .pointer (some ⟨bo, 0, none⟩), .pointer (some ⟨bk, 0, none⟩)]⟩), (12, .bool true), (13, .int .i64 0)])
    (fun m env bx hp => ∃ (fuel a lack : Nat) (f last was : Int) (first : Bool) (out : List Int) (aa : Option Nat) (cap : Nat), m = 2 * fuel + (if f = 0 then 1 else 0) ∧ lack ≤ fuel ∧ a ≤ (bl s).length ∧ 0 ≤ f ∧ f ≤ 4 ∧ out.length + lack ≤ most ∧
      (f = 0 → colG (bl s) most = colLoop (bl s) fuel a lack (if first then none else some was) last out) ∧ (f ≠ 0 → colG (bl s) most = ([], 0, f)) ∧
      env = [(0, .string s), (7, .pointer (some ⟨b, 0, none⟩)), (8, .pointer (some ⟨bk, 0, none⟩)), (9, .pointer (some ⟨bo, 0, none⟩)), (11, .func (.func 113) ⟨[]⟩ ⟨[.pointer (some ⟨bla, 0, none⟩), .pointer (some ⟨bo, 0, none⟩), .pointer (some ⟨bk, 0, none⟩)]⟩), (12, .bool first), (13, .int .i64 was)] ∧
      bx = [(bla, 2, [.int .i64 last]), (bo, 77, [sv aa out.length cap]), (bk, 43, [.int .u64 lack]), (b, 122, rdr s a f)] ∧ hp = [Seg.row aa 2 1 out.length cap (i64s out)]) rfl
    ⟨(rdN (bl s) 0 0 most).1, _, (rdN (bl s) 0 0 most).1, (rdN (bl s) 0 0 most).2.2, 0, 0, true, [], none, 0, rfl, Nat.le_refl _, hA0.2, hE0.1, hE0.2, by simpa using hN0.1, fun h => by rw [colG, if_neg (by simpa using h)]; rfl, fun h => by rw [colG, if_pos h], rfl, rfl, rfl⟩ ⟨rfl, rfl, rfl, rfl, rfl, rfl, rfl, trivial⟩ ?_
  clear hN0 hE0 hA0
  rintro m env bx hp ⟨fuel, a, lack, f, last, was, first, out, aa, cap, rfl, hfuel, ha, hf0, hf4, hsum, hc0, hc1, rfl, rfl, rfl⟩ ih
  have hFault : ∀ {l0 : Int} {o0 : Value} {k0 : Value} {a0 : Nat} {f0 : Int} {hp0 : List Seg}, CallOb Tryz.prog ⟨w, kys [] []⟩ [(bla, 2, [.int .i64 l0]), (bo, 77, [o0]), (bk, 43, [k0]), (b, 122, rdr s a0 f0)] hp0 29 [.pointer (some ⟨b, 0, none⟩)] (.int .i64 f0) :=
    by intro l0 o0 k0 a0 f0 hp0 w' hw'; exact Tryz.Fault_w s a0 f0 b w' (hw'.bx (b, _, rdr s a0 f0) (by simp))
  by_cases hend : 0 < lack ∧ f = 0
  · obtain ⟨hlk, rfl⟩ := hend
    have hcl := hc0 rfl
    obtain ⟨fuel', rfl⟩ : ∃ g, fuel = g + 1 := ⟨fuel - 1, by omega⟩
    rw [colLoop, if_neg (by omega)] at hcl
    have hI := rdI_in (bl s) a 0
    have hIa := rdI_a (l := bl s) (a := a) (f := 0) ha
    obtain ⟨d, a1, f1, hR1⟩ : ∃ d a1 f1, rdI (bl s) a 0 = (d, a1, f1) := ⟨_, _, _, rfl⟩
    have hIe := rdI_e (bl s) a 0 (by omega)
    simp only [hR1] at hI hIa hcl hIe
    have hN2 := rdN_lt (bl s) a1 f1 lack
    have ha2 := rdN_a (l := bl s) (a := a1) (f := f1) (most := lack) hIa.2
    have hNe := rdN_e (bl s) a1 f1 lack hIe
    have hk0 := @rdN_k0 (bl s) a1 f1 lack
    obtain ⟨k, a2, f2, hR2⟩ : ∃ k a2 f2, rdN (bl s) a1 f1 lack = (k, a2, f2) := ⟨_, _, _, rfl⟩
    simp only [hR2] at hN2 ha2 hNe hcl hk0
    have hcI : CallU Tryz.prog ⟨w, kys [] []⟩ [(bla, 2, [.int .i64 last]), (bo, 77, [sv aa out.length cap]), (bk, 43, [.int .u64 lack]), (b, 122, rdr s a 0)] [Seg.row aa 2 1 out.length cap (i64s out)] 114 [.pointer (some ⟨b, 0, none⟩)] (.int .i64 d) (b, 122, rdr s a1 f1) :=
      fun w' hw' => by have := Tryz.Int_w s a 0 b w' ha hlen (hw'.toOwn.sel [false, false, false, true] [] rfl); rw [hR1] at this; exact this
    have hcN : CallU Tryz.prog ⟨w, kys [] []⟩ [(bla, 2, [.int .i64 last]), (bo, 77, [sv aa out.length cap]), (bk, 43, [.int .u64 lack]), (b, 122, rdr s a1 f1)] [Seg.row aa 2 1 out.length cap (i64s out)] 27 [.pointer (some ⟨b, 0, none⟩), .int .u64 lack] (.int .u64 k) (b, 122, rdr s a2 f2) :=
      fun w' hw' => by have := Tryz.Num_w s a1 f1 b lack w' hIa.2 hlen (hw'.toOwn.sel [false, false, false, true] [] rfl); rw [hR2] at this; exact this
    have hcF : ∀ {f3 : Int}, CallU Tryz.prog ⟨w, kys [] []⟩ [(bla, 2, [.int .i64 last]), (bo, 77, [sv aa out.length cap]), (bk, 43, [.int .u64 lack]), (b, 122, rdr s a2 f3)] [Seg.row aa 2 1 out.length cap (i64s out)] 115 [.pointer (some ⟨b, 0, none⟩), .int .i64 3] (.tuple #[]) (b, 122, rdr s a2 (if f3 = 0 then 3 else f3)) :=
      fun w' hw' => Tryz.Fail_w s a2 _ 3 b w' (hw'.toOwn.sel [false, false, false, true] [] rfl)
    refine At.run 100 true [true, true] [hB 2, hC (.int .i64 0), hU (.int .i64 d) 3 (rdr s a1 f1), hB 2, hU (.int .u64 k) 3 (rdr s a2 f2)] rfl
      (by (repeat' apply And.intro) <;> first | exact hFault | exact hcI | exact hcN | exact True.intro | omega | rfl | (simp only [inK]; omega) | exact decide_eq_true (by omega) | exact decide_eq_false (by omega) | (simp; done) | (simp; omega) | (simp [Value.oneCell']; done) | exact i64s_one _ | exact AggOk.mk (by kernel_rfl) (by kernel_rfl)) ?_
    by_cases hf2 : f2 = 0
    · subst hf2
      rw [if_neg (by simp)] at hcl
      by_cases hkz : k = 0
      · subst hkz
        have hu : colG (bl s) most = ([], 0, 3) := by rw [hcl]; simp
        refine At.run 100 true [true, true, false] [hU (.tuple #[]) 3 (rdr s a2 3), hC (.int .i64 3)] rfl (by (repeat' apply And.intro) <;> first | exact hFault | exact hcF (f3 := 0) | exact True.intro | omega | rfl | (simp only [inK]; omega) | exact decide_eq_true (by omega) | exact decide_eq_false (by omega) | (simp; done) | (simp; omega) | (simp [Value.oneCell']; done) | exact i64s_one _ | exact AggOk.mk (by kernel_rfl) (by kernel_rfl)) ?_
        refine At.weak (ih (2 * (fuel' + 1)) _ _ _ (by simp) ⟨fuel' + 1, a2, lack, 3, last, d, false, out, aa, cap, by simp, hfuel, ha2.2, by omega, by omega, hsum, fun h => by omega, fun _ => hu, rfl, rfl, rfl⟩) ⟨rfl, rfl, rfl, rfl, rfl, rfl, rfl, trivial⟩
      · have dk : decide ((k : Int) = 0) = false := decide_eq_false (by omega)
        cases first with
        | true =>
          have hu := hcl
          rw [if_neg (by simp [hkz])] at hu
          refine At.run 100 true [false, false, false, true] [hC (.int .i64 0)] rfl (by (repeat' apply And.intro) <;> first | exact hFault | exact dk | exact True.intro | omega | rfl | (simp only [inK]; omega) | exact decide_eq_true (by omega) | exact decide_eq_false (by omega) | (simp; done) | (simp; omega) | (simp [Value.oneCell']; done) | exact i64s_one _ | exact AggOk.mk (by kernel_rfl) (by kernel_rfl)) ?_
          refine At.step [] rfl rfl rfl rfl rfl trivial (OpOk.callO [true, true, true, false] [true] rfl rfl (fun w' hw' ho => Tryz.add_w d last k lack out bla bo bk aa cap w' hN2.1 (by omega) (by omega) ho) ?_)
          rintro v bx' hp' ⟨a', cap', rfl, rfl, rfl⟩
          refine At.run 100 true [] [] rfl trivial ?_
          refine At.weak (ih (2 * fuel' + 1) _ _ _ (by simp) ⟨fuel', a2, lack - k, 0, stepsE last d k, d, false, out ++ stepsL last d k, a', cap', by simp, by omega, ha2.2, by omega, by omega, by rw [List.length_append, stepsL_len]; omega, fun _ => hu, fun h => (h rfl).elim, rfl, rfl, rfl⟩) ⟨rfl, rfl, rfl, rfl, rfl, rfl, rfl, trivial⟩
        | false =>
          by_cases hdw : d = was
          · subst hdw
            have hu : colG (bl s) most = ([], 0, 3) := by rw [hcl]; simp
            refine At.run 100 true [false, true, true, false] [hU (.tuple #[]) 3 (rdr s a2 3), hC (.int .i64 3)] rfl (by (repeat' apply And.intro) <;> first | exact hFault | exact hcF (f3 := 0) | exact True.intro | omega | rfl | (simp only [inK]; omega) | exact decide_eq_true (by omega) | exact decide_eq_false (by omega) | (simp; done) | (simp; omega) | (simp [Value.oneCell']; done) | exact i64s_one _ | exact AggOk.mk (by kernel_rfl) (by kernel_rfl)) ?_
            refine At.weak (ih (2 * (fuel' + 1)) _ _ _ (by simp) ⟨fuel' + 1, a2, lack, 3, last, d, false, out, aa, cap, by simp, hfuel, ha2.2, by omega, by omega, hsum, fun h => by omega, fun _ => hu, rfl, rfl, rfl⟩) ⟨rfl, rfl, rfl, rfl, rfl, rfl, rfl, trivial⟩
          · have hu := hcl
            rw [if_neg (by simp [hkz]; exact fun e => hdw e.symm)] at hu
            refine At.run 100 true [false, true, false, true] [hC (.int .i64 0)] rfl (by (repeat' apply And.intro) <;> first | exact hFault | exact dk | exact decide_eq_false hdw | exact True.intro | omega | rfl | (simp only [inK]; omega) | exact decide_eq_true (by omega) | exact decide_eq_false (by omega) | (simp; done) | (simp; omega) | (simp [Value.oneCell']; done) | exact i64s_one _ | exact AggOk.mk (by kernel_rfl) (by kernel_rfl)) ?_
            refine At.step [] rfl rfl rfl rfl rfl trivial (OpOk.callO [true, true, true, false] [true] rfl rfl (fun w' hw' ho => Tryz.add_w d last k lack out bla bo bk aa cap w' hN2.1 (by omega) (by omega) ho) ?_)
            rintro v bx' hp' ⟨a', cap', rfl, rfl, rfl⟩
            refine At.run 100 true [] [] rfl trivial ?_
            refine At.weak (ih (2 * fuel' + 1) _ _ _ (by simp) ⟨fuel', a2, lack - k, 0, stepsE last d k, d, false, out ++ stepsL last d k, a', cap', by simp, by omega, ha2.2, by omega, by omega, by rw [List.length_append, stepsL_len]; omega, fun _ => hu, fun h => (h rfl).elim, rfl, rfl, rfl⟩) ⟨rfl, rfl, rfl, rfl, rfl, rfl, rfl, trivial⟩
    · have hkz := hk0 hf2
      subst hkz
      have hu : colG (bl s) most = ([], 0, f2) := by rw [hcl, if_pos hf2]
      have hcF2 := hcF (f3 := f2)
      rw [if_neg hf2] at hcF2
      refine At.run 100 true [true, true, false] [hU (.tuple #[]) 3 (rdr s a2 f2), hC (.int .i64 f2)] rfl (by (repeat' apply And.intro) <;> first | exact hFault | exact hcF2 | exact True.intro | omega | rfl | (simp only [inK]; omega) | exact decide_eq_true (by omega) | exact decide_eq_false (by omega) | (simp; done) | (simp; omega) | (simp [Value.oneCell']; done) | exact i64s_one _ | exact AggOk.mk (by kernel_rfl) (by kernel_rfl)) ?_
      refine At.weak (ih (2 * (fuel' + 1)) _ _ _ (by simp) ⟨fuel' + 1, a2, lack, f2, last, d, false, out, aa, cap, by simp [hf2], hfuel, ha2.2, by omega, by omega, hsum, fun h => (hf2 h).elim, fun _ => hu, rfl, rfl, rfl⟩) ⟨rfl, rfl, rfl, rfl, rfl, rfl, rfl, trivial⟩
  · by_cases hlk : 0 < lack
    · refine At.run 100 true [true, false] [hB 2, hC (.int .i64 f)] rfl (by (repeat' apply And.intro) <;> first | exact hFault | exact True.intro | omega | rfl | (simp only [inK]; omega) | exact decide_eq_true (by omega) | exact decide_eq_false (by omega) | (simp; done) | (simp; omega) | (simp [Value.oneCell']; done) | exact i64s_one _ | exact AggOk.mk (by kernel_rfl) (by kernel_rfl)) ?_
      by_cases hf : f = 0
      · subst hf
        have hl0 : lack = 0 := by omega
        subst hl0
        have hG : colG (bl s) most = (out, a, 0) := by rw [hc0 rfl, colLoop_zero]
        refine At.run 100 true [false] [hC (.int .i64 0)] rfl ⟨rfl, hFault, trivial⟩ ?_
        refine At.quiet true [] [hB 1, hC (.int .i64 ((bl s).length - a : Nat))] ⟨by kernel_rfl, by kernel_rfl, rfl, rfl, rfl⟩ rfl rfl rfl ⟨by simp only [inK]; omega, fun w' hw' => Tryz.Left_w s a 0 b w' ha hlen (hw'.bx (b, _, rdr s _ _) (by simp)), rfl, trivial⟩ ?_
        refine At.run 100 true [] [] rfl trivial ?_
        refine At.keep [] [true] rfl ?_
        refine At.ret [] rfl Tryz.func88 rfl trivial ⟨aa, cap, ?_, rfl, ?_⟩
        · rw [hG]; simp only [tupV]; rw [show (((bl s).length : Int) - (((bl s).length - a : Nat) : Int)) = (a : Int) by omega]
        · rw [hG]
      · have hG := hc1 hf
        refine At.run 100 true [true] [hC (.int .i64 f)] rfl ⟨by simp [hf], hFault, trivial⟩ ?_
        refine At.keep [] [] rfl ?_
        refine At.nilRow 2 1 ?_
        refine At.ret [] rfl Tryz.func88 rfl trivial ⟨none, 0, ?_, rfl, ?_⟩
        · rw [hG]; rfl
        · rw [hG]; rfl
    · refine At.run 100 true [false, false] [hB 2] rfl (by (repeat' apply And.intro) <;> first | exact True.intro | omega | (simp only [inK]; omega) | (simp; done) | (simp; omega) | exact decide_eq_true (by omega) | exact decide_eq_false (by omega) | rfl | (simp [Value.oneCell']; done) | exact i64s_one _ | exact AggOk.mk (by kernel_rfl) (by kernel_rfl)) ?_
      by_cases hf : f = 0
      · subst hf
        have hl0 : lack = 0 := by omega
        subst hl0
        have hG : colG (bl s) most = (out, a, 0) := by rw [hc0 rfl, colLoop_zero]
        refine At.run 100 true [false] [hC (.int .i64 0)] rfl ⟨rfl, hFault, trivial⟩ ?_
        refine At.quiet true [] [hB 1, hC (.int .i64 ((bl s).length - a : Nat))] ⟨by kernel_rfl, by kernel_rfl, rfl, rfl, rfl⟩ rfl rfl rfl ⟨by simp only [inK]; omega, fun w' hw' => Tryz.Left_w s a 0 b w' ha hlen (hw'.bx (b, _, rdr s _ _) (by simp)), rfl, trivial⟩ ?_
        refine At.run 100 true [] [] rfl trivial ?_
        refine At.keep [] [true] rfl ?_
        refine At.ret [] rfl Tryz.func88 rfl trivial ⟨aa, cap, ?_, rfl, ?_⟩
        · rw [hG]; simp only [tupV]; rw [show (((bl s).length : Int) - (((bl s).length - a : Nat) : Int)) = (a : Int) by omega]
        · rw [hG]
      · have hG := hc1 hf
        refine At.run 100 true [true] [hC (.int .i64 f)] rfl ⟨by simp [hf], hFault, trivial⟩ ?_
        refine At.keep [] [] rfl ?_
        refine At.nilRow 2 1 ?_
        refine At.ret [] rfl Tryz.func88 rfl trivial ⟨none, 0, ?_, rfl, ?_⟩
        · rw [hG]; rfl
        · rw [hG]; rfl
end Go.Proofs

/-
  Walks of layer 11: the reference's columns.
-/
namespace Go.Proofs
open Go Go.Eng
set_option maxRecDepth 100000
set_option maxHeartbeats 4000000
attribute [local irreducible] Tri

theorem lt_of_get {α : Type} {l : List α} {i : Nat} {x : α} (h : l[i]? = some x) : i < l.length := (List.getElem?_eq_some_iff.1 h).1
theorem take_succ_get {α : Type} {l : List α} {i : Nat} {x : α} (h : l[i]? = some x) : l.take (i + 1) = l.take i ++ [x] := by
  rw [List.take_add_one, h]; rfl

theorem diffs_snoc (x : Int) : ∀ (l : List Int) (a : Int), diffs a (l ++ [x]) = diffs a l ++ [IntKind.i64.wrap (x - l.getLast?.getD a)]
  | [], a => rfl
  | y :: l, a => by
    rw [List.cons_append, diffs, diffs_snoc x l y, diffs]
    cases l with
    | nil => rfl
    | cons z l =>
      obtain ⟨q, hq⟩ : ∃ q, (z :: l).getLast? = some q := ⟨_, List.getLast?_eq_some_getLast (by simp)⟩
      rw [List.getLast?_cons_cons, hq]; rfl
theorem setL_at (A : List Value) (x y z : Value) : putL (A ++ [x, y]) (A.length + 1) [z] = A ++ [x, z] := by
  simp only [putL]; rw [setL_eq, List.set_append_right _ _ (by omega)]; simp
theorem flat_len (l : List (Int × Nat)) : (l.flatMap encR).length = l.length * 2 := by
  induction l with
  | nil => rfl
  | cons x l ih => simp [List.flatMap_cons, ih, encR]; omega

theorem Tryz.rRuns_w (xs : List Int) (a : Option Addr) (cap : Nat) (w : World) (hlen : xs.length ≤ 1048576) (hrow : SlOk w a (i64s xs)) :
    Tri Tryz.prog 89 [.slice a xs.length cap] w [] (fun v bx hp => ∃ a' cap', v = sv a' (rle (diffs 0 xs)).length cap' ∧ bx = [] ∧ hp = [Seg.row a' 129 2 (rle (diffs 0 xs)).length cap' ((rle (diffs 0 xs)).flatMap encR)]) := by
  refine Tri.enter (bx := []) (hp := []) Tryz.func89 rfl (by kernel_rfl) rfl (Own.nil w) ?_
  refine At.run 100 true [] [] rfl trivial ?_
  refine At.nilRow 129 2 ?_
  refine At.loop (n := xs.length) (env0 := [(0, .slice a xs.length cap), (3, sv none 0 0), (4, .int .i64 0), (5, .int .i64 0)]) (fun m env bx hp => ∃ (i : Nat) (rs : List (Int × Nat)) (a' : Option Nat) (cap' : Nat), m = xs.length - i ∧ i ≤ xs.length ∧ rs = rle (diffs 0 (xs.take i)) ∧
    env = [(0, .slice a xs.length cap), (3, sv a' rs.length cap'), (4, .int .i64 ((xs.take i).getLast?.getD 0)), (5, .int .i64 i)] ∧ bx = [] ∧ hp = [Seg.row a' 129 2 rs.length cap' (rs.flatMap encR)]) rfl
    ⟨0, [], none, 0, by simp, by omega, rfl, rfl, rfl, rfl⟩ ⟨rfl, rfl, rfl, rfl, trivial⟩ ?_
  rintro m env bx hp ⟨i, rs, a', cap', rfl, hi, hrs, rfl, rfl, rfl⟩ ih
  by_cases hlt : i < xs.length
  · obtain ⟨x, hxi⟩ : ∃ x, xs[i]? = some x := ⟨_, List.getElem?_eq_getElem hlt⟩
    obtain ⟨g, o, rfl, hc⟩ := hrow.get (by intro e; simp only [i64s, List.map_eq_nil_iff] at e; rw [e] at hlt; simp at hlt)
    have r1 : ∀ {bx : Bx} {hp : List Seg}, RdW ⟨w, kys [] []⟩ bx hp g (o + (i : Int).toNat * 1) [.int .i64 x] := fun {_ _} => RdW.base1 (by simp [kys]) (by rw [Nat.mul_one]; exact hc i _ (i64s_get hxi))
    have hnext : rle (diffs 0 (xs.take (i + 1))) = addR rs (IntKind.i64.wrap (x - (xs.take i).getLast?.getD 0)) := by rw [take_succ_get hxi, diffs_snoc, rle_snoc, hrs]
    have hlast : (xs.take (i + 1)).getLast?.getD 0 = x := by rw [take_succ_get hxi]; simp
    have hrl := rle_len (diffs 0 (xs.take i))
    rw [diffs_len, List.length_take, ← hrs] at hrl
    generalize (xs.take i).getLast?.getD 0 = ah at *
    rcases List.eq_nil_or_concat rs with rfl | ⟨pre, ⟨e, n⟩, rfl⟩
    · refine At.run 100 false [true, false, false] [hR [.int .i64 x], hR [.int .i64 x]] rfl (by (repeat' apply And.intro) <;> first | exact r1 | exact True.intro | omega | rfl | (simp only [inK]; omega) | exact decide_eq_true (by omega) | exact decide_eq_false (by omega) | (simp; done) | (simp; omega) | (simp [Value.oneCell']; done) | exact i64s_one _ | exact AggOk.mk (by kernel_rfl) (by kernel_rfl)) ?_
      generalize IntKind.i64.wrap (x - ah) = d at *
      refine At.append1 0 2 16 rfl rfl rfl rfl rfl rfl rfl rfl rfl trivial (fun _ => rfl) trivial rfl rfl rfl rfl rfl rfl rfl rfl (fun _ => rfl) (by simp [Value.oneCell']) (by simp) (by simp) (fun bb a2 cap2 => ?_)
      refine At.run 100 true [] [] rfl (by (repeat' apply And.intro) <;> first | exact True.intro | omega | (simp only [inK]; omega) | (simp; done) | (simp; omega) | exact decide_eq_true (by omega) | exact decide_eq_false (by omega) | rfl | (simp [Value.oneCell']; done) | exact i64s_one _ | exact AggOk.mk (by kernel_rfl) (by kernel_rfl)) ?_
      refine At.weak (ih (xs.length - (i + 1)) _ _ _ (by omega) ⟨i + 1, [(d, 1)], a2, cap2, rfl, by omega, by rw [hnext]; rfl, rfl, rfl, rfl⟩) ⟨rfl, rfl, some_int_eq hlast.symm, some_int_eq (by omega), trivial⟩
    · simp only [List.concat_eq_append] at *
      refine At.rowSome 0 rfl (by simp) (fun g2 hg2 => ?_)
      subst hg2
      have hsz : (pre ++ [(e, n)]).length = pre.length + 1 := by simp
      have hfl : (pre ++ [(e, n)]).flatMap encR = pre.flatMap encR ++ [.int .i64 e, .int .i64 n] := by simp [encR]
      have hpl := flat_len pre
      have hcells : ∀ (bx : Bx) {cs : List Value} {off : Nat}, (∀ j u, cs[j]? = some u → (pre.flatMap encR ++ [.int .i64 e, .int .i64 n])[off + j]? = some u) → RdW ⟨w, kys [] []⟩ bx [Seg.row (some g2) 129 2 (pre.length + 1) cap' (pre.flatMap encR ++ [.int .i64 e, .int .i64 n])] g2 off cs := fun bx {cs off} h => RdW.row (j := 0) rfl h
      have hnle : n ≤ 1048576 := by
        have := rle_mem (diffs 0 (xs.take i)) (e, n) (by rw [← hrs]; simp)
        rw [diffs_len, List.length_take] at this; omega
      rw [hsz, hfl]
      have c0 : ∀ {bx : Bx}, RdW ⟨w, kys [] []⟩ bx [Seg.row (some g2) 129 2 (pre.length + 1) cap' (pre.flatMap encR ++ [.int .i64 e, .int .i64 n])] g2 (0 + ((((pre.length + 1 : Nat) : Int) - 1).toNat) * 2 + (0 : Int).toNat * 1) [.int .i64 e] := fun {bx} => hcells bx (fun j u hu => by
        match j, hu with
        | 0, hu => rw [show (0 + ((((pre.length + 1 : Nat) : Int) - 1).toNat) * 2 + (0 : Int).toNat * 1 + 0) = (pre.flatMap encR).length by rw [hpl]; omega, List.getElem?_append_right (by omega)]; simpa using hu)
      have c1 : ∀ {bx : Bx}, RdW ⟨w, kys [] []⟩ bx [Seg.row (some g2) 129 2 (pre.length + 1) cap' (pre.flatMap encR ++ [.int .i64 e, .int .i64 n])] g2 (0 + ((((pre.length + 1 : Nat) : Int) - 1).toNat) * 2 + (1 : Int).toNat * 1) [.int .i64 n] := fun {bx} => hcells bx (fun j u hu => by
        match j, hu with
        | 0, hu => rw [show (0 + ((((pre.length + 1 : Nat) : Int) - 1).toNat) * 2 + (1 : Int).toNat * 1 + 0) = (pre.flatMap encR).length + 1 by rw [hpl]; simp, List.getElem?_append_right (by omega)]; simpa using hu)
      have hadd : ∀ d, addR (pre ++ [(e, n)]) d = if e = d then pre ++ [(d, n + 1)] else (pre ++ [(e, n)]) ++ [(d, 1)] := fun d => by simp [addR]
      have hw1 : IntKind.i64.wrap (((pre.length + 1 : Nat) : Int) - 1) = ((pre.length + 1 : Nat) : Int) - 1 := wrap_in64 (by simp only [inK]; omega)
      refine At.run 24 false [true] [hR [.int .i64 x], hR [.int .i64 x]] rfl (by (repeat' apply And.intro) <;> first | exact r1 | exact True.intro | omega | rfl | (simp only [inK]; omega) | exact decide_eq_true (by omega) | exact decide_eq_false (by omega) | (simp; done) | (simp; omega) | (simp [Value.oneCell']; done) | exact i64s_one _ | exact AggOk.mk (by kernel_rfl) (by kernel_rfl)) ?_
      rw [hw1]
      generalize hd : IntKind.i64.wrap (x - ah) = d at *
      by_cases hed : e = d
      · subst hed
        refine At.run 100 true [true, true] [hR [.int .i64 e]] rfl (by (repeat' apply And.intro) <;> first | exact c0 | simp; done | exact True.intro | omega | rfl | (simp only [inK]; omega) | exact decide_eq_true (by omega) | exact decide_eq_false (by omega) | (simp; done) | (simp; omega) | (simp [Value.oneCell']; done) | exact i64s_one _ | exact AggOk.mk (by kernel_rfl) (by kernel_rfl)) ?_
        refine At.draw 9 rfl rfl rfl rfl ?_
        refine AtD.pures (ob := True) true (by kernel_rfl) [0, 1, 2, 3, 6] (fuel := 4) (by kernel_rfl) rfl (by (repeat' apply And.intro) <;> first | exact True.intro | omega | (simp only [inK]; omega) | (simp; done) | (simp; omega) | exact decide_eq_true (by omega) | exact decide_eq_false (by omega) | rfl | (simp [Value.oneCell']; done) | exact i64s_one _ | exact AggOk.mk (by kernel_rfl) (by kernel_rfl)) ?_
        refine AtD.fork1 4 (by kernel_rfl) (StepD.by [] rfl rfl rfl rfl trivial (OpOk.one true [] [hR [.int .i64 n]] rfl c1 ?_))
        refine AtD.pures (ob := True) true (by kernel_rfl) [5, 7] (fuel := 1) (by kernel_rfl) rfl (by (repeat' apply And.intro) <;> first | exact True.intro | omega | (simp only [inK]; omega) | (simp; done) | (simp; omega) | exact decide_eq_true (by omega) | exact decide_eq_false (by omega) | rfl | (simp [Value.oneCell']; done) | exact i64s_one _ | exact AggOk.mk (by kernel_rfl) (by kernel_rfl)) ?_
        refine AtD.fork1 8 (by kernel_rfl) (StepD.by0 [] rfl rfl rfl trivial (OpOk.storeRow 0 rfl rfl rfl rfl (by simp [Value.oneCell']) (by simp [Value.oneCell']) rfl (by simp [hpl]) ?_))
        refine AtD.done (by kernel_rfl) ?_
        refine At.run 100 true [] [] rfl (by (repeat' apply And.intro) <;> first | exact True.intro | omega | (simp only [inK]; omega) | (simp; done) | (simp; omega) | exact decide_eq_true (by omega) | exact decide_eq_false (by omega) | rfl | (simp [Value.oneCell']; done) | exact i64s_one _ | exact AggOk.mk (by kernel_rfl) (by kernel_rfl)) ?_
        refine At.weak (ih (xs.length - (i + 1)) _ _ _ (by omega) ⟨i + 1, pre ++ [(e, n + 1)], some g2, cap', rfl, by omega, by rw [hnext, hadd, if_pos rfl], rfl, rfl, ?_⟩) ⟨rfl, some_sv_eq (by simp), some_int_eq hlast.symm, some_int_eq (by omega), trivial⟩
        have e1 : (0 + (((pre.length + 1 : Nat) : Int) - 1).toNat * 2 + (1 : Int).toNat * 1) = (pre.flatMap encR).length + 1 := by rw [hpl]; simp
        simp only [setL]
        have e2 := setL_at (pre.flatMap encR) (.int .i64 e) (.int .i64 n) (.int .i64 ((n : Int) + 1))
        rw [← e1] at e2
        have e3 : (pre ++ [(e, n + 1)]).flatMap encR = pre.flatMap encR ++ [.int .i64 e, .int .i64 ((n : Int) + 1)] := by simp [encR]
        have e4 : (pre ++ [(e, n + 1)]).length = pre.length + 1 := by simp
        rw [e3, e4, ← e2]
      · refine At.run 100 true [true, false] [hR [.int .i64 e]] rfl (by (repeat' apply And.intro) <;> first | exact c0 | exact decide_eq_false hed | exact True.intro | omega | rfl | (simp only [inK]; omega) | exact decide_eq_true (by omega) | exact decide_eq_false (by omega) | (simp; done) | (simp; omega) | (simp [Value.oneCell']; done) | exact i64s_one _ | exact AggOk.mk (by kernel_rfl) (by kernel_rfl)) ?_
        refine At.append1 0 2 16 rfl rfl rfl rfl rfl rfl rfl rfl rfl trivial (fun _ => rfl) trivial rfl rfl rfl rfl rfl rfl rfl rfl (fun _ => rfl) (by simp [Value.oneCell']) (by omega) (by omega) (fun bb a2 cap2 => ?_)
        refine At.run 100 true [] [] rfl (by (repeat' apply And.intro) <;> first | exact True.intro | omega | (simp only [inK]; omega) | (simp; done) | (simp; omega) | exact decide_eq_true (by omega) | exact decide_eq_false (by omega) | rfl | (simp [Value.oneCell']; done) | exact i64s_one _ | exact AggOk.mk (by kernel_rfl) (by kernel_rfl)) ?_
        refine At.weak (ih (xs.length - (i + 1)) _ _ _ (by omega) ⟨i + 1, (pre ++ [(e, n)]) ++ [(d, 1)], a2, cap2, rfl, by omega, by rw [hnext, hadd, if_neg hed], rfl, rfl, ?_⟩) ⟨rfl, some_sv_eq (by simp), some_int_eq hlast.symm, some_int_eq (by omega), trivial⟩
        simp [setL, encR]
  · have : i = xs.length := by omega
    subst this
    rw [List.take_length] at hrs
    refine At.run 100 true [false] [] rfl (by (repeat' apply And.intro) <;> first | exact True.intro | omega | (simp only [inK]; omega) | (simp; done) | (simp; omega) | exact decide_eq_true (by omega) | exact decide_eq_false (by omega) | rfl | (simp [Value.oneCell']; done) | exact i64s_one _ | exact AggOk.mk (by kernel_rfl) (by kernel_rfl)) ?_
    exact At.ret [] rfl Tryz.func89 rfl trivial ⟨a', cap', by rw [← hrs]; rfl, rfl, by rw [← hrs]⟩

theorem encR_cells {rs : List (Int × Nat)} {i off : Nat} {d : Int} {n : Nat} (hx : rs[i]? = some (d, n)) (ho : off = 2 * i) : ∀ (j : Nat) (u : Value), ([.int .i64 d, .int .i64 n] : List Value)[j]? = some u → (rs.flatMap encR)[off + j]? = some u := by
  intro k v hv
  subst ho
  have hlt := lt_of_get hx
  have e : rs = rs.take i ++ (d, n) :: rs.drop (i + 1) := by
    conv => lhs; rw [← List.take_append_drop i rs, List.drop_eq_getElem_cons hlt]
    congr 2; exact (List.getElem?_eq_some_iff.1 hx).2
  have hk : k < 2 := by have := lt_of_get hv; simpa using this
  have hl := flat_len (rs.take i)
  rw [List.length_take] at hl
  rw [e, List.flatMap_append, List.getElem?_append_right (by omega), List.flatMap_cons, List.getElem?_append_left (by show _ < 2; omega), ← hv]
  show ([.int .i64 d, .int .i64 n] : List Value)[_]? = _
  congr 1; omega

/-- The reference's bytes of a column. -/
theorem Tryz.rPut_w (xs : List Int) (a : Option Addr) (cap : Nat) (w : World) (hlen : xs.length ≤ 65536) (hrow : SlOk w a (i64s xs)) :
    Fun Tryz.prog 36 [.slice a xs.length cap] w (str (colL xs)) := by
  refine Tri.enter (bx := []) (hp := []) Tryz.func36 rfl (by kernel_rfl) rfl (Own.nil w) ?_
  refine At.run 100 true [] [] rfl trivial ?_
  refine At.step [] rfl rfl rfl rfl rfl trivial (OpOk.call rfl (fun w' hw' => Tryz.rRuns_w xs a cap w' (by omega) (hrow.ext hw'.ext (by simp [kys]))) ?_)
  rintro v bx' hp' ⟨a', cap', rfl, rfl, rfl⟩
  have h64 : xs.length < 18446744073709551616 := by omega
  refine At.run 100 true [] [hC (str (numL xs.length))] rfl (by (repeat' apply And.intro) <;> first | exact fun w' _ => Tryz.rnum_w _ h64 w' | exact True.intro | omega | rfl | (simp only [inK]; omega) | exact decide_eq_true (by omega) | exact decide_eq_false (by omega) | (simp; done) | (simp; omega) | (simp [Value.oneCell']; done) | exact i64s_one _ | exact AggOk.mk (by kernel_rfl) (by kernel_rfl)) ?_
  have hmem : ∀ x, x ∈ rle (diffs 0 xs) → inK .i64 x.1 ∧ x.2 ≤ xs.length := by
    intro x hx
    have := rle_mem _ x hx
    rw [diffs_len] at this
    exact ⟨diffs_in _ _ _ this.1, this.2.2⟩
  have hrl := rle_len (diffs 0 xs)
  rw [diffs_len] at hrl
  have hcol : colL xs = numL xs.length ++ (rle (diffs 0 xs)).flatMap runB := rfl
  rw [hcol]
  generalize rle (diffs 0 xs) = rs at *
  refine At.loop (n := rs.length) (env0 := [(3, sv a' rs.length cap'), (4, str (numL xs.length)), (5, .int .i64 0)]) (fun m env bx hp => ∃ i : Nat, m = rs.length - i ∧ i ≤ rs.length ∧
    env = [(3, sv a' rs.length cap'), (4, str (numL xs.length ++ (rs.take i).flatMap runB)), (5, .int .i64 i)] ∧ bx = [] ∧ hp = [Seg.row a' 129 2 rs.length cap' (rs.flatMap encR)]) rfl
    ⟨0, by simp, by omega, by simp, rfl, rfl⟩ ⟨rfl, rfl, rfl, trivial⟩ ?_
  rintro m env bx hp ⟨i, rfl, hi, rfl, rfl, rfl⟩ ih
  by_cases hlt : i < rs.length
  · refine At.run 100 true [true] [] rfl (by (repeat' apply And.intro) <;> first | exact True.intro | omega | (simp only [inK]; omega) | (simp; done) | (simp; omega) | exact decide_eq_true (by omega) | exact decide_eq_false (by omega) | rfl | (simp [Value.oneCell']; done) | exact i64s_one _ | exact AggOk.mk (by kernel_rfl) (by kernel_rfl)) ?_
    refine At.rowSome 0 rfl (by omega) (fun g hg => ?_)
    subst hg
    obtain ⟨⟨d, n⟩, hx⟩ : ∃ x, rs[i]? = some x := ⟨_, List.getElem?_eq_getElem hlt⟩
    have hm := hmem _ (List.mem_of_getElem? hx)
    simp only at hm
    have hcell : ∀ (k : Nat) (v : Value), (encR (d, n))[k]? = some v → (rs.flatMap encR)[2 * i + k]? = some v := by
      intro k v hv
      have e : rs = rs.take i ++ (d, n) :: rs.drop (i + 1) := by
        conv => lhs; rw [← List.take_append_drop i rs, List.drop_eq_getElem_cons hlt]
        congr 2; exact (List.getElem?_eq_some_iff.1 hx).2
      have hk : k < 2 := by have := lt_of_get hv; simpa [encR] using this
      have hl := flat_len (rs.take i)
      rw [List.length_take] at hl
      rw [e, List.flatMap_append, List.getElem?_append_right (by omega), List.flatMap_cons, List.getElem?_append_left (by show _ < 2; omega), ← hv]
      congr 1; omega
    have r0 : ∀ {bx : Bx}, RdW ⟨w, kys [] []⟩ bx [Seg.row (some g) 129 2 rs.length cap' (rs.flatMap encR)] g (0 + (i : Int).toNat * 2 + (0 : Int).toNat * 1) [.int .i64 d] := fun {bx} => RdW.row (j := 0) rfl (fun j u hu => by
      match j, hu with
      | 0, hu => rw [show (0 + (i : Int).toNat * 2 + (0 : Int).toNat * 1 + 0) = 2 * i + 0 by simp; omega]; simp at hu; subst hu; exact hcell 0 _ rfl)
    have r1 : ∀ {bx : Bx}, RdW ⟨w, kys [] []⟩ bx [Seg.row (some g) 129 2 rs.length cap' (rs.flatMap encR)] g (0 + (i : Int).toNat * 2 + (1 : Int).toNat * 1) [.int .i64 n] := fun {bx} => RdW.row (j := 0) rfl (fun j u hu => by
      match j, hu with
      | 0, hu => rw [show (0 + (i : Int).toNat * 2 + (1 : Int).toNat * 1 + 0) = 2 * i + 1 by simp; omega]; simp at hu; subst hu; exact hcell 1 _ rfl)
    have hn64 : n < 18446744073709551616 := by omega
    have l1 := numL_len10 _ (zig_lt hm.1)
    have l2 := numL_len10 n hn64
    have l3 := numL_len10 _ h64
    have l4 := runs_len (rs.take i) (fun x hx => runB_len (hmem x (List.mem_of_mem_take hx)).1 (by have := (hmem x (List.mem_of_mem_take hx)).2; omega))
    have l5 : (rs.take i).length ≤ 65536 := by rw [List.length_take]; omega
    refine At.quiet true [] [hR [.int .i64 d], hC (str (numL (zig d))), hR [.int .i64 n], hC (str (numL n))] ⟨by kernel_rfl, by kernel_rfl, rfl, rfl, rfl⟩ rfl rfl rfl
      (by (repeat' apply And.intro) <;> first | exact r0 | exact r1 | exact fun w' _ => Tryz.rint_w d hm.1 w' | exact fun w' _ => Tryz.rnum_w n hn64 w' | (simp only [bl_str, List.length_append]; omega) | exact True.intro | omega | rfl | (simp only [inK]; omega) | exact decide_eq_true (by omega) | exact decide_eq_false (by omega) | (simp; done) | (simp; omega) | (simp [Value.oneCell']; done) | exact i64s_one _ | exact AggOk.mk (by kernel_rfl) (by kernel_rfl)) ?_
    refine At.run 100 true [] [] rfl (by (repeat' apply And.intro) <;> first | exact True.intro | omega | (simp only [inK]; omega) | (simp; done) | (simp; omega) | exact decide_eq_true (by omega) | exact decide_eq_false (by omega) | rfl | (simp [Value.oneCell']; done) | exact i64s_one _ | exact AggOk.mk (by kernel_rfl) (by kernel_rfl)) ?_
    refine At.weak (ih (rs.length - (i + 1)) _ _ _ (by omega) ⟨i + 1, rfl, by omega, rfl, rfl, rfl⟩) ⟨rfl, ?_, some_int_eq (by omega), trivial⟩
    rw [take_succ_get hx]
    simp only [bl_str, List.flatMap_append, List.flatMap_singleton, runB, List.append_assoc]
    rfl
  · have : i = rs.length := by omega
    subst this
    refine At.run 100 true [false] [] rfl (by (repeat' apply And.intro) <;> first | exact True.intro | omega | (simp only [inK]; omega) | (simp; done) | (simp; omega) | exact decide_eq_true (by omega) | exact decide_eq_false (by omega) | rfl | (simp [Value.oneCell']; done) | exact i64s_one _ | exact AggOk.mk (by kernel_rfl) (by kernel_rfl)) ?_
    refine At.keep [] [] rfl ?_
    exact At.ret [] rfl Tryz.func36 rfl trivial ⟨by rw [List.take_length]; rfl, rfl, rfl⟩


/-- The reference's column of bytes. -/
theorem Tryz.rGet_w (s : ByteArray) (most : Nat) (w : World) (hm : most ≤ 65536) (hlen : (bl s).length ≤ 9223372036854775807) :
    Tri Tryz.prog 39 [.string s, .int .i64 most] w [] (fun v bx hp => ∃ a cap, v = .tuple #[sv a (colG (bl s) most).1.length cap, .int .i64 (colG (bl s) most).2.1, .int .i64 (colG (bl s) most).2.2] ∧ bx = [] ∧
      hp = [Seg.row a 2 1 (colG (bl s) most).1.length cap (i64s (colG (bl s) most).1)]) := by
  refine Tri.enter (bx := []) (hp := []) Tryz.func39 rfl (by kernel_rfl) rfl (Own.nil w) ?_
  refine At.run 100 true [] [] rfl trivial ?_
  refine At.step [] rfl rfl rfl rfl rfl trivial (OpOk.call rfl (fun w' hw' => Tryz.rOf_w s w') ?_)
  rintro v bx' hp' ⟨b, rfl, rfl, rfl⟩
  have hN0 := rdN_lt (bl s) 0 0 most
  have hE0 := rdN_e (bl s) 0 0 most (by omega)
  have hA0 := rdN_a (l := bl s) (a := 0) (f := 0) (most := most) (by omega)
  have hk0 := @rdN_k0 (bl s) 0 0 most
  have hcg : colG (bl s) most = if (rdN (bl s) 0 0 most).2.2 ≠ 0 then ([], 0, (rdN (bl s) 0 0 most).2.2) else colLoop (bl s) (rdN (bl s) 0 0 most).1 (rdN (bl s) 0 0 most).2.1 (rdN (bl s) 0 0 most).1 none 0 [] := rfl
  have hc0 : CallU Tryz.prog ⟨w, kys [] []⟩ [(b, 84, rdr s 0 0)] [] 38 [.pointer (some ⟨b, 0, none⟩), .int .u64 most] (.int .u64 (rdN (bl s) 0 0 most).1) (b, 84, rdr s (rdN (bl s) 0 0 most).2.1 (rdN (bl s) 0 0 most).2.2) :=
    fun w' hw' => Tryz.rNum_w s 0 0 b most w' (by omega) hlen (Own.head hw'.toOwn)
  obtain ⟨n0, a0, f0, hR0⟩ : ∃ n a f, rdN (bl s) 0 0 most = (n, a, f) := ⟨_, _, _, rfl⟩
  simp only [hR0] at hN0 hE0 hA0 hcg hc0 hk0
  refine At.run 100 true [] [hU (.int .u64 n0) 0 (rdr s a0 f0)] rfl (by (repeat' apply And.intro) <;> first | exact hc0 | exact True.intro | omega | rfl | (simp only [inK]; omega) | exact decide_eq_true (by omega) | exact decide_eq_false (by omega) | (simp; done) | (simp; omega) | (simp [Value.oneCell']; done) | exact i64s_one _ | exact AggOk.mk (by kernel_rfl) (by kernel_rfl)) ?_
  refine At.nilRow 2 1 ?_
  refine At.loop (n := n0) (env0 := [(0, .string s), (7, .pointer (some ⟨b, 0, none⟩)), (8, .int .i64 n0), (9, sv none 0 0), (10, .int .i64 0), (11, .int .i64 0)])
    (fun fuel env bx hp => ∃ (a lack : Nat) (f last was : Int) (out : List Int) (aa : Option Nat) (cap : Nat), lack ≤ fuel ∧ a ≤ (bl s).length ∧ out.length + lack = n0 ∧
      ((f = 0 ∧ (fuel ≠ n0 → out ≠ []) ∧ colG (bl s) most = colLoop (bl s) fuel a lack (if out = [] then none else some was) last out) ∨ (f ≠ 0 ∧ lack = 0 ∧ colG (bl s) most = ([], 0, f))) ∧
      env = [(0, .string s), (7, .pointer (some ⟨b, 0, none⟩)), (8, .int .i64 n0), (9, sv aa out.length cap), (10, .int .i64 last), (11, .int .i64 was)] ∧
      bx = [(b, 84, rdr s a f)] ∧ hp = [Seg.row aa 2 1 out.length cap (i64s out)]) rfl
    ⟨a0, n0, f0, 0, 0, [], none, 0, Nat.le_refl _, hA0.2, by simp, ?_, rfl, rfl, rfl⟩ ⟨rfl, rfl, rfl, rfl, rfl, rfl, trivial⟩ ?_
  · by_cases hf : f0 = 0
    · left; refine ⟨hf, fun h => (h rfl).elim, ?_⟩
      rw [hcg, if_neg (by simpa using hf)]; rfl
    · right; exact ⟨hf, hk0 hf, by rw [hcg, if_pos hf]⟩
  clear hcg hc0 hk0
  rintro fuel env bx hp ⟨a, lack, f, last, was, out, aa, cap, hfuel, ha, hsum, hst, rfl, rfl, rfl⟩ ih
  have hlen0 : ∀ {bx : Bx} {hp : List Seg}, ((out.length : Int) ≤ n0) := fun {_ _} => by omega
  by_cases hlk : 0 < lack
  · have hf : f = 0 := by rcases hst with h | h; exact h.1; omega
    subst hf
    have hst' : (fuel ≠ n0 → out ≠ []) ∧ colG (bl s) most = colLoop (bl s) fuel a lack (if out = [] then none else some was) last out := by rcases hst with h | h; exact h.2; exact (h.1 rfl).elim
    obtain ⟨hnee, hcl⟩ := hst'
    clear hst
    obtain ⟨fuel', rfl⟩ : ∃ g, fuel = g + 1 := ⟨fuel - 1, by omega⟩
    rw [colLoop, if_neg (by omega)] at hcl
    have hI := rdI_in (bl s) a 0
    have hIa := rdI_a (l := bl s) (a := a) (f := 0) ha
    obtain ⟨d, a1, f1, hR1⟩ : ∃ d a1 f1, rdI (bl s) a 0 = (d, a1, f1) := ⟨_, _, _, rfl⟩
    have hIe := rdI_e (bl s) a 0 (by omega)
    simp only [hR1] at hI hIa hcl hIe
    have hN2 := rdN_lt (bl s) a1 f1 lack
    have ha2 := rdN_a (l := bl s) (a := a1) (f := f1) (most := lack) hIa.2
    have hNe := rdN_e (bl s) a1 f1 lack hIe
    have hk0 := @rdN_k0 (bl s) a1 f1 lack
    obtain ⟨k, a2, f2, hR2⟩ : ∃ k a2 f2, rdN (bl s) a1 f1 lack = (k, a2, f2) := ⟨_, _, _, rfl⟩
    simp only [hR2] at hN2 ha2 hNe hcl hk0
    have hcI : ∀ {hp : List Seg}, CallU Tryz.prog ⟨w, kys [] []⟩ [(b, 84, rdr s a 0)] hp 92 [.pointer (some ⟨b, 0, none⟩)] (.int .i64 d) (b, 84, rdr s a1 f1) :=
      fun {_} w' hw' => by have := Tryz.rInt_w s a 0 b w' ha hlen (Own.head hw'.toOwn); rw [hR1] at this; exact this
    have hcN : ∀ {hp : List Seg}, CallU Tryz.prog ⟨w, kys [] []⟩ [(b, 84, rdr s a1 f1)] hp 38 [.pointer (some ⟨b, 0, none⟩), .int .u64 ((n0 : Int) - (out.length : Int))] (.int .u64 k) (b, 84, rdr s a2 f2) :=
      fun {_} w' hw' => by
        rw [show (n0 : Int) - (out.length : Int) = (lack : Int) by omega]
        have := Tryz.rNum_w s a1 f1 b lack w' hIa.2 hlen (Own.head hw'.toOwn); rw [hR2] at this; exact this
    refine At.run 100 true [true, true] [hB 0, hU (.int .i64 d) 0 (rdr s a1 f1), hU (.int .u64 k) 0 (rdr s a2 f2), hB 0] rfl (by (repeat' apply And.intro) <;> first | exact hcI | exact hcN | exact True.intro | omega | rfl | (simp only [inK]; omega) | exact decide_eq_true (by omega) | exact decide_eq_false (by omega) | (simp; done) | (simp; omega) | (simp [Value.oneCell']; done) | exact i64s_one _ | exact AggOk.mk (by kernel_rfl) (by kernel_rfl)) ?_
    by_cases hf2 : f2 = 0
    · subst hf2
      rw [if_neg (by simp)] at hcl
      refine At.run 100 true [false] [] rfl (by (repeat' apply And.intro) <;> first | exact True.intro | omega | (simp only [inK]; omega) | (simp; done) | (simp; omega) | exact decide_eq_true (by omega) | exact decide_eq_false (by omega) | rfl | (simp [Value.oneCell']; done) | exact i64s_one _ | exact AggOk.mk (by kernel_rfl) (by kernel_rfl)) ?_
      by_cases hkz : k = 0
      · have hu : colG (bl s) most = ([], 0, 3) := by rw [hcl]; simp [hkz]
        refine At.run 100 true [true, true] [] rfl (by (repeat' apply And.intro) <;> first | exact True.intro | omega | (simp only [inK]; omega) | (simp; done) | (simp; omega) | exact decide_eq_true (by omega) | exact decide_eq_false (by omega) | rfl | (simp [Value.oneCell']; done) | exact i64s_one _ | exact AggOk.mk (by kernel_rfl) (by kernel_rfl)) ?_
        refine At.run 100 true [] [] rfl trivial ?_
        refine At.keep [] [] rfl ?_
        refine At.nilRow 2 1 ?_
        exact At.ret [] rfl Tryz.func39 rfl trivial ⟨none, 0, by rw [hu]; rfl, rfl, by rw [hu]; rfl⟩
      · have hnn : out ++ stepsL last d k ≠ [] := fun e => by
          have := congrArg List.length e
          rw [List.length_append, stepsL_len] at this; simp at this; omega
        by_cases ho : out = []
        · have hol : out.length = 0 := by rw [ho]; rfl
          have hu := hcl
          rw [if_neg (by simp [hkz, ho])] at hu
          refine At.run 100 true [false, false, false] [] rfl (by (repeat' apply And.intro) <;> first | exact True.intro | omega | (simp only [inK]; omega) | (simp; done) | (simp; omega) | exact decide_eq_true (by omega) | exact decide_eq_false (by omega) | rfl | (simp [Value.oneCell']; done) | exact i64s_one _ | exact AggOk.mk (by kernel_rfl) (by kernel_rfl)) ?_
          refine At.loop (n := k) (env0 := [(0, .string s), (7, .pointer (some ⟨b, 0, none⟩)), (8, .int .i64 n0), (9, sv aa out.length cap), (10, .int .i64 last), (13, .int .i64 d), (14, .int .i64 k), (15, .int .i64 0)])
            (fun m env bx hp => ∃ (i : Nat) (a' : Option Nat) (cap' : Nat), m = k - i ∧ i ≤ k ∧ env = [(0, .string s), (7, .pointer (some ⟨b, 0, none⟩)), (8, .int .i64 n0), (9, sv a' (out ++ stepsL last d i).length cap'), (10, .int .i64 (stepsE last d i)), (13, .int .i64 d), (14, .int .i64 k), (15, .int .i64 i)] ∧
              bx = [(b, 84, rdr s a2 0)] ∧ hp = [Seg.row a' 2 1 (out ++ stepsL last d i).length cap' (i64s (out ++ stepsL last d i))]) rfl
            ⟨0, aa, cap, by simp, by omega, by simp [stepsE, stepsL], rfl, by simp [stepsL]⟩ ⟨rfl, rfl, rfl, rfl, rfl, rfl, rfl, rfl, trivial⟩ ?_
          rintro m env bx hp ⟨i, a', cap', rfl, hi, rfl, rfl, rfl⟩ ih2
          by_cases hlt : i < k
          · have hsl := stepsL_len last d i
            have hol : (out ++ stepsL last d i).length = out.length + i := by simp [hsl]
            refine At.run 100 false [true] [] rfl (by (repeat' apply And.intro) <;> first | exact True.intro | omega | (simp only [inK]; omega) | (simp; done) | (simp; omega) | exact decide_eq_true (by omega) | exact decide_eq_false (by omega) | rfl | (simp [Value.oneCell']; done) | exact i64s_one _ | exact AggOk.mk (by kernel_rfl) (by kernel_rfl)) ?_
            refine At.append1 0 1 8 rfl rfl rfl rfl rfl rfl rfl rfl rfl trivial (fun _ => rfl) trivial rfl rfl rfl rfl rfl rfl rfl rfl (fun _ => rfl) (by simp [Value.oneCell']) (by omega) (by omega) (fun bb a2 cap2 => ?_)
            refine At.run 100 true [] [] rfl (by (repeat' apply And.intro) <;> first | exact True.intro | omega | (simp only [inK]; omega) | (simp; done) | (simp; omega) | exact decide_eq_true (by omega) | exact decide_eq_false (by omega) | rfl | (simp [Value.oneCell']; done) | exact i64s_one _ | exact AggOk.mk (by kernel_rfl) (by kernel_rfl)) ?_
            refine At.weak (ih2 (k - (i + 1)) _ _ _ (by omega) ⟨i + 1, a2, cap2, rfl, by omega, rfl, rfl, ?_⟩) ⟨rfl, rfl, rfl, some_sv_eq (by rw [stepsL_snoc]; simp [Nat.add_assoc]), some_int_eq (stepsE_snoc ..).symm, rfl, rfl, some_int_eq (by omega), trivial⟩
            rw [stepsL_snoc]; simp [setL, i64s, Nat.add_assoc]
          · have : i = k := by omega
            subst this
            refine At.run 100 true [false] [] rfl (by (repeat' apply And.intro) <;> first | exact True.intro | omega | (simp only [inK]; omega) | (simp; done) | (simp; omega) | exact decide_eq_true (by omega) | exact decide_eq_false (by omega) | rfl | (simp [Value.oneCell']; done) | exact i64s_one _ | exact AggOk.mk (by kernel_rfl) (by kernel_rfl)) ?_
            refine At.weak (ih fuel' _ _ _ (by omega) ⟨a2, lack - i, 0, stepsE last d i, d, out ++ stepsL last d i, a', cap', by omega, ha2.2, by rw [List.length_append, stepsL_len]; omega, .inl ⟨rfl, fun _ => hnn, by rw [if_neg hnn]; exact hu⟩, rfl, rfl, rfl⟩) ⟨rfl, rfl, rfl, rfl, rfl, rfl, trivial⟩
        · have hol : 0 < out.length := List.length_pos_iff.2 ho
          by_cases hdw : d = was
          · have hu : colG (bl s) most = ([], 0, 3) := by rw [hcl]; simp [ho, hdw]
            refine At.run 100 true [false, true, true] [] rfl (by (repeat' apply And.intro) <;> first | exact True.intro | omega | (simp only [inK]; omega) | (simp; done) | (simp; omega) | exact decide_eq_true (by omega) | exact decide_eq_false (by omega) | rfl | (simp [Value.oneCell']; done) | exact i64s_one _ | exact AggOk.mk (by kernel_rfl) (by kernel_rfl)) ?_
            refine At.run 100 true [] [] rfl trivial ?_
            refine At.keep [] [] rfl ?_
            refine At.nilRow 2 1 ?_
            exact At.ret [] rfl Tryz.func39 rfl trivial ⟨none, 0, by rw [hu]; rfl, rfl, by rw [hu]; rfl⟩
          · have hu := hcl
            rw [if_neg (by simp [hkz, ho]; exact fun e => hdw e.symm)] at hu
            refine At.run 100 true [false, true, false] [] rfl (by (repeat' apply And.intro) <;> first | exact True.intro | omega | (simp only [inK]; omega) | (simp; done) | (simp; omega) | exact decide_eq_true (by omega) | exact decide_eq_false (by omega) | rfl | (simp [Value.oneCell']; done) | exact i64s_one _ | exact AggOk.mk (by kernel_rfl) (by kernel_rfl)) ?_
            refine At.loop (n := k) (env0 := [(0, .string s), (7, .pointer (some ⟨b, 0, none⟩)), (8, .int .i64 n0), (9, sv aa out.length cap), (10, .int .i64 last), (13, .int .i64 d), (14, .int .i64 k), (15, .int .i64 0)])
              (fun m env bx hp => ∃ (i : Nat) (a' : Option Nat) (cap' : Nat), m = k - i ∧ i ≤ k ∧ env = [(0, .string s), (7, .pointer (some ⟨b, 0, none⟩)), (8, .int .i64 n0), (9, sv a' (out ++ stepsL last d i).length cap'), (10, .int .i64 (stepsE last d i)), (13, .int .i64 d), (14, .int .i64 k), (15, .int .i64 i)] ∧
                bx = [(b, 84, rdr s a2 0)] ∧ hp = [Seg.row a' 2 1 (out ++ stepsL last d i).length cap' (i64s (out ++ stepsL last d i))]) rfl
              ⟨0, aa, cap, by simp, by omega, by simp [stepsE, stepsL], rfl, by simp [stepsL]⟩ ⟨rfl, rfl, rfl, rfl, rfl, rfl, rfl, rfl, trivial⟩ ?_
            rintro m env bx hp ⟨i, a', cap', rfl, hi, rfl, rfl, rfl⟩ ih2
            by_cases hlt : i < k
            · have hsl := stepsL_len last d i
              have hol : (out ++ stepsL last d i).length = out.length + i := by simp [hsl]
              refine At.run 100 false [true] [] rfl (by (repeat' apply And.intro) <;> first | exact True.intro | omega | (simp only [inK]; omega) | (simp; done) | (simp; omega) | exact decide_eq_true (by omega) | exact decide_eq_false (by omega) | rfl | (simp [Value.oneCell']; done) | exact i64s_one _ | exact AggOk.mk (by kernel_rfl) (by kernel_rfl)) ?_
              refine At.append1 0 1 8 rfl rfl rfl rfl rfl rfl rfl rfl rfl trivial (fun _ => rfl) trivial rfl rfl rfl rfl rfl rfl rfl rfl (fun _ => rfl) (by simp [Value.oneCell']) (by omega) (by omega) (fun bb a2 cap2 => ?_)
              refine At.run 100 true [] [] rfl (by (repeat' apply And.intro) <;> first | exact True.intro | omega | (simp only [inK]; omega) | (simp; done) | (simp; omega) | exact decide_eq_true (by omega) | exact decide_eq_false (by omega) | rfl | (simp [Value.oneCell']; done) | exact i64s_one _ | exact AggOk.mk (by kernel_rfl) (by kernel_rfl)) ?_
              refine At.weak (ih2 (k - (i + 1)) _ _ _ (by omega) ⟨i + 1, a2, cap2, rfl, by omega, rfl, rfl, ?_⟩) ⟨rfl, rfl, rfl, some_sv_eq (by rw [stepsL_snoc]; simp [Nat.add_assoc]), some_int_eq (stepsE_snoc ..).symm, rfl, rfl, some_int_eq (by omega), trivial⟩
              rw [stepsL_snoc]; simp [setL, i64s, Nat.add_assoc]
            · have : i = k := by omega
              subst this
              refine At.run 100 true [false] [] rfl (by (repeat' apply And.intro) <;> first | exact True.intro | omega | (simp only [inK]; omega) | (simp; done) | (simp; omega) | exact decide_eq_true (by omega) | exact decide_eq_false (by omega) | rfl | (simp [Value.oneCell']; done) | exact i64s_one _ | exact AggOk.mk (by kernel_rfl) (by kernel_rfl)) ?_
              refine At.weak (ih fuel' _ _ _ (by omega) ⟨a2, lack - i, 0, stepsE last d i, d, out ++ stepsL last d i, a', cap', by omega, ha2.2, by rw [List.length_append, stepsL_len]; omega, .inl ⟨rfl, fun _ => hnn, by rw [if_neg hnn]; exact hu⟩, rfl, rfl, rfl⟩) ⟨rfl, rfl, rfl, rfl, rfl, rfl, trivial⟩
    · have hu : colG (bl s) most = ([], 0, f2) := by rw [hcl, if_pos hf2]
      refine At.run 100 true [true] [] rfl (by (repeat' apply And.intro) <;> first | simp [hf2]; done | exact True.intro | omega | rfl | (simp only [inK]; omega) | exact decide_eq_true (by omega) | exact decide_eq_false (by omega) | (simp; done) | (simp; omega) | (simp [Value.oneCell']; done) | exact i64s_one _ | exact AggOk.mk (by kernel_rfl) (by kernel_rfl)) ?_
      refine At.quiet true [] [hB 0] ⟨by kernel_rfl, by kernel_rfl, rfl, rfl, rfl⟩ rfl rfl rfl (by (repeat' apply And.intro) <;> first | exact True.intro | omega | (simp only [inK]; omega) | (simp; done) | (simp; omega) | exact decide_eq_true (by omega) | exact decide_eq_false (by omega) | rfl | (simp [Value.oneCell']; done) | exact i64s_one _ | exact AggOk.mk (by kernel_rfl) (by kernel_rfl)) ?_
      refine At.run 100 true [] [] rfl trivial ?_
      refine At.keep [] [] rfl ?_
      refine At.nilRow 2 1 ?_
      exact At.ret [] rfl Tryz.func39 rfl trivial ⟨none, 0, by rw [hu]; rfl, rfl, by rw [hu]; rfl⟩
  · have hl0 : lack = 0 := by omega
    subst hl0
    refine At.run 100 true [false, false] [] rfl (by (repeat' apply And.intro) <;> first | exact True.intro | omega | (simp only [inK]; omega) | (simp; done) | (simp; omega) | exact decide_eq_true (by omega) | exact decide_eq_false (by omega) | rfl | (simp [Value.oneCell']; done) | exact i64s_one _ | exact AggOk.mk (by kernel_rfl) (by kernel_rfl)) ?_
    rcases hst with ⟨rfl, _, hc⟩ | ⟨hf, _, hu⟩
    · have hG : colG (bl s) most = (out, a, 0) := by rw [hc, colLoop_zero]
      refine At.run 100 true [false] [hB 0] rfl (by (repeat' apply And.intro) <;> first | exact True.intro | omega | (simp only [inK]; omega) | (simp; done) | (simp; omega) | exact decide_eq_true (by omega) | exact decide_eq_false (by omega) | rfl | (simp [Value.oneCell']; done) | exact i64s_one _ | exact AggOk.mk (by kernel_rfl) (by kernel_rfl)) ?_
      refine At.quiet true [] [hB 0] ⟨by kernel_rfl, by kernel_rfl, rfl, rfl, rfl⟩ rfl rfl rfl (by (repeat' apply And.intro) <;> first | exact True.intro | omega | (simp only [inK]; omega) | (simp; done) | (simp; omega) | exact decide_eq_true (by omega) | exact decide_eq_false (by omega) | rfl | (simp [Value.oneCell']; done) | exact i64s_one _ | exact AggOk.mk (by kernel_rfl) (by kernel_rfl)) ?_
      refine At.run 100 true [] [] rfl trivial ?_
      refine At.keep [] [true] rfl ?_
      exact At.ret [] rfl Tryz.func39 rfl trivial ⟨aa, cap, by rw [hG]; rfl, rfl, by rw [hG]⟩
    · refine At.run 100 true [true] [hB 0] rfl (by (repeat' apply And.intro) <;> first | simp [hf]; done | exact True.intro | omega | rfl | (simp only [inK]; omega) | exact decide_eq_true (by omega) | exact decide_eq_false (by omega) | (simp; done) | (simp; omega) | (simp [Value.oneCell']; done) | exact i64s_one _ | exact AggOk.mk (by kernel_rfl) (by kernel_rfl)) ?_
      refine At.quiet true [] [hB 0] ⟨by kernel_rfl, by kernel_rfl, rfl, rfl, rfl⟩ rfl rfl rfl (by (repeat' apply And.intro) <;> first | exact True.intro | omega | (simp only [inK]; omega) | (simp; done) | (simp; omega) | exact decide_eq_true (by omega) | exact decide_eq_false (by omega) | rfl | (simp [Value.oneCell']; done) | exact i64s_one _ | exact AggOk.mk (by kernel_rfl) (by kernel_rfl)) ?_
      refine At.run 100 true [] [] rfl trivial ?_
      refine At.keep [] [] rfl ?_
      refine At.nilRow 2 1 ?_
      exact At.ret [] rfl Tryz.func39 rfl trivial ⟨none, 0, by rw [hu]; rfl, rfl, by rw [hu]; rfl⟩
end Go.Proofs

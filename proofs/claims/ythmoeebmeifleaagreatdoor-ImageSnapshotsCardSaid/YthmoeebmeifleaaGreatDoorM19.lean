/-
  Walks of layer 1: the reader's steps.
-/
import Derived.Test.YthmoeebmeifleaaGreatDoorM18
import Derived.Test.YthmoeebmeifleaaGreatDoorM5
import Derived.Test.YthmoeebmeifleaaGreatDoorM7
import Derived.Test.YthmoeebmeifleaaGreatDoorM2
import Derived.Test.YthmoeebmeifleaaGreatDoorM8
/-
  Walks of layer 1: the reader's steps.
-/
namespace Go.Proofs
open Go Go.Eng
set_option maxRecDepth 100000
set_option maxHeartbeats 4000000
attribute [local irreducible] Tri

/-- A reader's cells. -/
def rdr (s : ByteArray) (a : Nat) (f : Int) : List Value := [.string s, .int .i64 a, .int .i64 f]

/-- What a step does, that comes to x, a fault e, and the place a1. -/
def StepR (P : Program) (F : FuncId) (cap : List Value) (b t : Nat) (s : ByteArray) (a0 : Nat) (rest : Bx) (x : Value) (e : Int) (a1 : Nat) (w : World) : Prop :=
  ∀ w', Ext (kys ((b, t, rdr s a0 0) :: rest) []) w w' → Own ((b, t, rdr s a0 0) :: rest) [] w' → Tri P F cap w' (kys ((b, t, rdr s a0 0) :: rest) []) (fun v bx hp => v = .tuple #[x, .int .i64 e] ∧ bx = (b, t, rdr s a1 0) :: rest ∧ hp = [])

theorem Tryz.guardU_w (s : ByteArray) (a0 a1 : Nat) (f e x : Int) (b : Nat) (rest : Bx) (F : Nat) (cap : List Value) (w : World) (hown : Own ((b, 234, rdr s a0 f) :: rest) [] w)
    (hstep : f = 0 → StepR Tryz.prog F cap b 234 s a0 rest (.int .u64 x) e a1 w) :
    Tri Tryz.prog 139 [.pointer (some ⟨b, 0, none⟩), .func (.func F) ⟨[]⟩ ⟨cap⟩] w (kys ((b, 234, rdr s a0 f) :: rest) [])
      (fun v bx hp => v = .int .u64 (if f = 0 ∧ e = 0 then x else 0) ∧ bx = (b, 234, if f ≠ 0 then rdr s a0 f else if e = 0 then rdr s a1 0 else rdr s a0 e) :: rest ∧ hp = []) := by
  refine Tri.enter Tryz.func139 rfl (by kernel_rfl) rfl hown ?_
  by_cases hf : f = 0
  · subst hf
    refine At.run 100 true [false, false] [hB 0, hB 0, hB 0] rfl ⟨rfl, rfl, rfl, rfl, rfl, rfl, rfl, rfl, rfl, trivial⟩ ?_
    refine At.step [] rfl rfl rfl rfl rfl trivial (OpOk.callAll (Q := fun v bx hp => v = .tuple #[.int .u64 x, .int .i64 e] ∧ bx = (b, 234, rdr s a1 0) :: rest ∧ hp = []) rfl (fun w' hw' => by rw [allArgs_eq]; exact hstep rfl w' hw'.ext hw'.toOwn) ?_)
    rintro v bx' hp' ⟨rfl, rfl, rfl⟩
    by_cases he : e = 0
    · subst he
      refine At.run 100 true [false] [] rfl ⟨rfl, trivial⟩ ?_
      exact At.ret [] rfl Tryz.func139 rfl trivial ⟨rfl, rfl, rfl⟩
    · have hd : (!decide (e = 0)) = true := by simp [he]
      refine At.run 100 true [true] [hB 0, hB 0] rfl ⟨⟨rfl, rfl⟩, ⟨rfl, rfl⟩, hd, trivial⟩ ?_
      refine At.ret [] rfl Tryz.func139 rfl trivial ⟨?_, ?_, rfl⟩
      · rw [if_neg (by simp [he])]; rfl
      · rw [if_neg (by simp), if_neg he]; rfl
  · have hd : (!decide (f = 0)) = true := by simp [hf]
    refine At.run 100 true [false, true] [hB 0] rfl ⟨hd, rfl, rfl, rfl, rfl, rfl, rfl, rfl, trivial⟩ ?_
    refine At.ret [] rfl Tryz.func139 rfl trivial ⟨?_, ?_, rfl⟩
    · rw [if_neg (by simp [hf])]; rfl
    · rw [if_pos hf]

theorem Tryz.guardI_w (s : ByteArray) (a0 a1 : Nat) (f e x : Int) (b : Nat) (rest : Bx) (F : Nat) (cap : List Value) (w : World) (hown : Own ((b, 234, rdr s a0 f) :: rest) [] w)
    (hstep : f = 0 → StepR Tryz.prog F cap b 234 s a0 rest (.int .i64 x) e a1 w) :
    Tri Tryz.prog 284 [.pointer (some ⟨b, 0, none⟩), .func (.func F) ⟨[]⟩ ⟨cap⟩] w (kys ((b, 234, rdr s a0 f) :: rest) [])
      (fun v bx hp => v = .int .i64 (if f = 0 ∧ e = 0 then x else 0) ∧ bx = (b, 234, if f ≠ 0 then rdr s a0 f else if e = 0 then rdr s a1 0 else rdr s a0 e) :: rest ∧ hp = []) := by
  refine Tri.enter Tryz.func284 rfl (by kernel_rfl) rfl hown ?_
  by_cases hf : f = 0
  · subst hf
    refine At.run 100 true [false, false] [hB 0, hB 0, hB 0] rfl ⟨rfl, rfl, rfl, rfl, rfl, rfl, rfl, rfl, rfl, trivial⟩ ?_
    refine At.step [] rfl rfl rfl rfl rfl trivial (OpOk.callAll (Q := fun v bx hp => v = .tuple #[.int .i64 x, .int .i64 e] ∧ bx = (b, 234, rdr s a1 0) :: rest ∧ hp = []) rfl (fun w' hw' => by rw [allArgs_eq]; exact hstep rfl w' hw'.ext hw'.toOwn) ?_)
    rintro v bx' hp' ⟨rfl, rfl, rfl⟩
    by_cases he : e = 0
    · subst he
      refine At.run 100 true [false] [] rfl ⟨rfl, trivial⟩ ?_
      exact At.ret [] rfl Tryz.func284 rfl trivial ⟨rfl, rfl, rfl⟩
    · have hd : (!decide (e = 0)) = true := by simp [he]
      refine At.run 100 true [true] [hB 0, hB 0] rfl ⟨⟨rfl, rfl⟩, ⟨rfl, rfl⟩, hd, trivial⟩ ?_
      refine At.ret [] rfl Tryz.func284 rfl trivial ⟨?_, ?_, rfl⟩
      · rw [if_neg (by simp [he])]; rfl
      · rw [if_neg (by simp), if_neg he]; rfl
  · have hd : (!decide (f = 0)) = true := by simp [hf]
    refine At.run 100 true [false, true] [hB 0] rfl ⟨hd, rfl, rfl, rfl, rfl, rfl, rfl, rfl, trivial⟩ ?_
    refine At.ret [] rfl Tryz.func284 rfl trivial ⟨?_, ?_, rfl⟩
    · rw [if_neg (by simp [hf])]; rfl
    · rw [if_pos hf]

theorem Tryz.guardN_w (s : ByteArray) (a0 a1 : Nat) (f e x : Int) (b : Nat) (rest : Bx) (F : Nat) (cap : List Value) (w : World) (hown : Own ((b, 234, rdr s a0 f) :: rest) [] w)
    (hstep : f = 0 → StepR Tryz.prog F cap b 234 s a0 rest (.int .i64 x) e a1 w) :
    Tri Tryz.prog 142 [.pointer (some ⟨b, 0, none⟩), .func (.func F) ⟨[]⟩ ⟨cap⟩] w (kys ((b, 234, rdr s a0 f) :: rest) [])
      (fun v bx hp => v = .int .i64 (if f = 0 ∧ e = 0 then x else 0) ∧ bx = (b, 234, if f ≠ 0 then rdr s a0 f else if e = 0 then rdr s a1 0 else rdr s a0 e) :: rest ∧ hp = []) := by
  refine Tri.enter Tryz.func142 rfl (by kernel_rfl) rfl hown ?_
  by_cases hf : f = 0
  · subst hf
    refine At.run 100 true [false, false] [hB 0, hB 0, hB 0] rfl ⟨rfl, rfl, rfl, rfl, rfl, rfl, rfl, rfl, rfl, trivial⟩ ?_
    refine At.step [] rfl rfl rfl rfl rfl trivial (OpOk.callAll (Q := fun v bx hp => v = .tuple #[.int .i64 x, .int .i64 e] ∧ bx = (b, 234, rdr s a1 0) :: rest ∧ hp = []) rfl (fun w' hw' => by rw [allArgs_eq]; exact hstep rfl w' hw'.ext hw'.toOwn) ?_)
    rintro v bx' hp' ⟨rfl, rfl, rfl⟩
    by_cases he : e = 0
    · subst he
      refine At.run 100 true [false] [] rfl ⟨rfl, trivial⟩ ?_
      exact At.ret [] rfl Tryz.func142 rfl trivial ⟨rfl, rfl, rfl⟩
    · have hd : (!decide (e = 0)) = true := by simp [he]
      refine At.run 100 true [true] [hB 0, hB 0] rfl ⟨⟨rfl, rfl⟩, ⟨rfl, rfl⟩, hd, trivial⟩ ?_
      refine At.ret [] rfl Tryz.func142 rfl trivial ⟨?_, ?_, rfl⟩
      · rw [if_neg (by simp [he])]; rfl
      · rw [if_neg (by simp), if_neg he]; rfl
  · have hd : (!decide (f = 0)) = true := by simp [hf]
    refine At.run 100 true [false, true] [hB 0] rfl ⟨hd, rfl, rfl, rfl, rfl, rfl, rfl, rfl, trivial⟩ ?_
    refine At.ret [] rfl Tryz.func142 rfl trivial ⟨?_, ?_, rfl⟩
    · rw [if_neg (by simp [hf])]; rfl
    · rw [if_pos hf]

end Go.Proofs

/-
  Walks of layer 1: the reader's numbers.
-/
namespace Go.Proofs
open Go Go.Eng
set_option maxRecDepth 100000
set_option maxHeartbeats 4000000
attribute [local irreducible] Tri

theorem rot2 {α : Type} (a b : α) : [a, b].Perm [b, a] := List.Perm.swap b a []
theorem rot3 {α : Type} (a b c : α) : [a, b, c].Perm [c, a, b] := by simpa using List.perm_append_comm (l₁ := [a, b]) (l₂ := [c])

theorem Own.head {e : Nat × TypeId × List Value} {bx : Bx} {hp : List Seg} {w : World} (h : Own (e :: bx) hp w) : Own [e] [] w :=
  ⟨by simp [kys], fun k hk => h.lt k (by simp only [kys, List.map_cons, List.map_nil, List.flatMap_nil, List.append_nil, List.mem_singleton] at hk; subst hk; exact List.mem_cons_self ..), fun x hx => h.bx x (by simp only [List.mem_singleton] at hx; subst hx; exact List.mem_cons_self ..), by simp⟩

theorem Tryz.num1_w (s : ByteArray) (a0 : Nat) (b br bm most : Nat) (w : World) (ha : a0 ≤ (bl s).length) (hlen : (bl s).length ≤ 9223372036854775807) :
    StepR Tryz.prog 140 [.pointer (some ⟨br, 0, none⟩), .pointer (some ⟨bm, 0, none⟩)] b 234 s a0 [(bm, 131, [.int .u64 most]), (br, 151, [.pointer (some ⟨b, 0, none⟩)])]
      (.int .u64 (digP ((bl s).drop a0) 0 0).1) (numE ((bl s).drop a0) most) (a0 + (digP ((bl s).drop a0) 0 0).2.1) w := by
  intro w1 hext hown
  refine Tri.enter Tryz.func140 rfl (by kernel_rfl) rfl hown ?_
  refine At.run 100 true [] [hB 2] rfl ⟨rfl, trivial⟩ ?_
  obtain ⟨n, k, e, hD⟩ : ∃ n k e, digP ((bl s).drop a0) 0 0 = (n, k, e) := ⟨_, _, _, rfl⟩
  simp only [numE, hD]
  refine At.run 100 true [] [hU (.tuple #[.int .u64 n, .int .i64 e]) 0 (rdr s (a0 + k) 0)] rfl ⟨fun w' hw' => by have := Tryz.digits_w s a0 0 b w' ha hlen (Own.head hw'.toOwn); rw [hD] at this; exact this, trivial⟩ ?_
  by_cases he : e = 0
  · by_cases hm : most < n
    · refine At.run 100 true [true, true] [hB 1] rfl oK ?_
      exact At.ret [] rfl Tryz.func140 rfl trivial ⟨by simp [he, hm]; rfl, rfl, rfl⟩
    · refine At.run 100 true [true, false] [hB 1] rfl oK ?_
      exact At.ret [] rfl Tryz.func140 rfl trivial ⟨by simp [he, hm]; rfl, rfl, rfl⟩
  · refine At.run 100 true [false, false] [] rfl oK ?_
    exact At.ret [] rfl Tryz.func140 rfl trivial ⟨by simp [he]; rfl, rfl, rfl⟩

theorem Tryz.int1_w (s : ByteArray) (a0 : Nat) (b br : Nat) (w : World) (ha : a0 ≤ (bl s).length) (hlen : (bl s).length ≤ 9223372036854775807) :
    StepR Tryz.prog 285 [.pointer (some ⟨br, 0, none⟩)] b 234 s a0 [(br, 151, [.pointer (some ⟨b, 0, none⟩)])]
      (.int .i64 (zag (digP ((bl s).drop a0) 0 0).1)) (digP ((bl s).drop a0) 0 0).2.2 (a0 + (digP ((bl s).drop a0) 0 0).2.1) w := by
  intro w1 hext hown
  refine Tri.enter Tryz.func285 rfl (by kernel_rfl) rfl hown ?_
  refine At.run 100 true [] [hB 1] rfl ⟨rfl, trivial⟩ ?_
  have hlt := digP_lt ((bl s).drop a0) 0 0 (by omega) (by simp)
  obtain ⟨n, k, e, hD⟩ : ∃ n k e, digP ((bl s).drop a0) 0 0 = (n, k, e) := ⟨_, _, _, rfl⟩
  simp only [hD] at hlt ⊢
  refine At.run 100 true [] [hU (.tuple #[.int .u64 n, .int .i64 e]) 0 (rdr s (a0 + k) 0), hC (.int .i64 (zag n))] rfl ⟨fun w' hw' => Tryz.zag_w n hlt w', fun w' hw' => by have := Tryz.digits_w s a0 0 b w' ha hlen (Own.head hw'.toOwn); rw [hD] at this; exact this, trivial⟩ ?_
  exact At.ret [] rfl Tryz.func285 rfl trivial ⟨rfl, rfl, rfl⟩

theorem Tryz.Num_w (s : ByteArray) (a0 : Nat) (f : Int) (b most : Nat) (w : World) (ha : a0 ≤ (bl s).length) (hlen : (bl s).length ≤ 9223372036854775807)
    (hown : Own [(b, 234, rdr s a0 f)] [] w) :
    FunU Tryz.prog 79 [.pointer (some ⟨b, 0, none⟩), .int .u64 most] w (.int .u64 (rdN (bl s) a0 f most).1) (b, 234, rdr s (rdN (bl s) a0 f most).2.1 (rdN (bl s) a0 f most).2.2) := by
  refine Tri.enter (bx := [(b, 234, rdr s a0 f)]) (hp := []) Tryz.func79 rfl (by kernel_rfl) rfl hown ?_
  refine At.run 100 true [] [] rfl trivial ?_
  refine At.step [] rfl rfl rfl rfl rfl trivial (OpOk.box rfl rfl rfl fun br hbr => ?_)
  refine At.step [] rfl rfl rfl rfl rfl trivial (OpOk.box rfl rfl rfl fun bm hbm => ?_)
  refine At.run 100 true [] [hB 1] rfl oK ?_
  refine At.perm (rot3 _ _ _) (List.Perm.refl _) ?_
  refine At.step [] rfl rfl rfl rfl rfl trivial (OpOk.callAll rfl (fun w' hw' => Tryz.guardU_w s a0 _ f _ _ b _ _ _ w' hw'.toOwn (fun _ => Tryz.num1_w s a0 b br bm most w' ha hlen)) ?_)
  rintro v bx' hp' ⟨rfl, rfl, rfl⟩
  refine At.run 100 true [] [] rfl trivial ?_
  refine At.keep [true, false, false] [] rfl ?_
  refine At.ret [] rfl Tryz.func79 rfl trivial ⟨?_, ?_, rfl⟩
  · unfold rdN
    by_cases hf : f = 0
    · by_cases he : numE ((bl s).drop a0) most = 0 <;> simp [hf, he, tupV]
    · simp [hf, tupV]
  · unfold rdN
    by_cases hf : f = 0
    · by_cases he : numE ((bl s).drop a0) most = 0 <;> simp [hf, he]
    · simp [hf]

theorem Tryz.Int_w (s : ByteArray) (a0 : Nat) (f : Int) (b : Nat) (w : World) (ha : a0 ≤ (bl s).length) (hlen : (bl s).length ≤ 9223372036854775807)
    (hown : Own [(b, 234, rdr s a0 f)] [] w) :
    FunU Tryz.prog 232 [.pointer (some ⟨b, 0, none⟩)] w (.int .i64 (rdI (bl s) a0 f).1) (b, 234, rdr s (rdI (bl s) a0 f).2.1 (rdI (bl s) a0 f).2.2) := by
  refine Tri.enter (bx := [(b, 234, rdr s a0 f)]) (hp := []) Tryz.func232 rfl (by kernel_rfl) rfl hown ?_
  refine At.run 100 true [] [] rfl trivial ?_
  refine At.step [] rfl rfl rfl rfl rfl trivial (OpOk.box rfl rfl rfl fun br hbr => ?_)
  refine At.run 100 true [] [hB 0] rfl oK ?_
  refine At.perm (rot2 _ _) (List.Perm.refl _) ?_
  refine At.step [] rfl rfl rfl rfl rfl trivial (OpOk.callAll rfl (fun w' hw' => Tryz.guardI_w s a0 _ f _ _ b _ _ _ w' hw'.toOwn (fun _ => Tryz.int1_w s a0 b br w' ha hlen)) ?_)
  rintro v bx' hp' ⟨rfl, rfl, rfl⟩
  refine At.run 100 true [] [] rfl trivial ?_
  refine At.keep [true, false] [] rfl ?_
  refine At.ret [] rfl Tryz.func232 rfl trivial ⟨?_, ?_, rfl⟩
  · unfold rdI
    by_cases hf : f = 0
    · by_cases he : (digP ((bl s).drop a0) 0 0).2.2 = 0 <;> simp [hf, he, tupV]
    · simp [hf, tupV]
  · unfold rdI
    by_cases hf : f = 0
    · by_cases he : (digP ((bl s).drop a0) 0 0).2.2 = 0 <;> simp [hf, he]
    · simp [hf]

theorem Tryz.fail1_w (s : ByteArray) (a0 : Nat) (e : Int) (b be : Nat) (w : World) :
    StepR Tryz.prog 143 [.pointer (some ⟨be, 0, none⟩)] b 234 s a0 [(be, 51, [.int .i64 e])] (.int .i64 0) e a0 w := by
  intro w1 hext hown
  refine Tri.enter Tryz.func143 rfl (by kernel_rfl) rfl hown ?_
  refine At.run 100 true [] [] rfl trivial ?_
  refine At.quiet true [] [hB 1] ⟨by kernel_rfl, by kernel_rfl, rfl, rfl, rfl⟩ rfl rfl rfl oK ?_
  refine At.run 100 true [] [] rfl trivial ?_
  exact At.ret [] rfl Tryz.func143 rfl trivial ⟨rfl, rfl, rfl⟩

theorem Tryz.Fail_w (s : ByteArray) (a0 : Nat) (f e : Int) (b : Nat) (w : World) (hown : Own [(b, 234, rdr s a0 f)] [] w) :
    FunU Tryz.prog 80 [.pointer (some ⟨b, 0, none⟩), .int .i64 e] w (.tuple #[]) (b, 234, rdr s a0 (if f = 0 then e else f)) := by
  refine Tri.enter (bx := [(b, 234, rdr s a0 f)]) (hp := []) Tryz.func80 rfl (by kernel_rfl) rfl hown ?_
  refine At.run 100 true [] [] rfl trivial ?_
  refine At.step [] rfl rfl rfl rfl rfl trivial (OpOk.box rfl rfl rfl fun be hbe => ?_)
  refine At.run 100 true [] [] rfl oK ?_
  refine At.perm (rot2 _ _) (List.Perm.refl _) ?_
  refine At.step [] rfl rfl rfl rfl rfl trivial (OpOk.callAll rfl (fun w' hw' => Tryz.guardN_w s a0 _ f _ _ b _ _ _ w' hw'.toOwn (fun _ => Tryz.fail1_w s a0 e b be w')) ?_)
  rintro v bx' hp' ⟨rfl, rfl, rfl⟩
  refine At.run 100 true [] [] rfl trivial ?_
  refine At.keep [true, false] [] rfl ?_
  refine At.ret [] rfl Tryz.func80 rfl trivial ⟨rfl, ?_, rfl⟩
  by_cases hf : f = 0
  · by_cases he : e = 0 <;> simp [hf, he]
  · simp [hf]

theorem Tryz.Fault_w (s : ByteArray) (a0 : Nat) (f : Int) (b : Nat) (w : World) (hb : w.heap[b]? = some (.cells (rdr s a0 f).toArray 234 (0, 0))) :
    Fun Tryz.prog 82 [.pointer (some ⟨b, 0, none⟩)] w (.int .i64 f) := by
  refine Tri.enter (bx := []) (hp := []) Tryz.func82 rfl (by kernel_rfl) rfl (Own.nil w) ?_
  refine At.run 100 true [false] [hR [.int .i64 f]] rfl ⟨RdW.blkB1 (by simp [kys]) hb rfl, rfl, trivial⟩ ?_
  exact At.ret [] rfl Tryz.func82 rfl trivial ⟨rfl, rfl, rfl⟩

theorem Tryz.Left_w (s : ByteArray) (a0 : Nat) (f : Int) (b : Nat) (w : World) (ha : a0 ≤ (bl s).length) (hlen : (bl s).length ≤ 9223372036854775807) (hb : w.heap[b]? = some (.cells (rdr s a0 f).toArray 234 (0, 0))) :
    Fun Tryz.prog 83 [.pointer (some ⟨b, 0, none⟩)] w (.int .i64 ((bl s).length - a0 : Nat)) := by
  refine Tri.enter (bx := []) (hp := []) Tryz.func83 rfl (by kernel_rfl) rfl (Own.nil w) ?_
  refine At.run 100 true [false] [] rfl oK ?_
  refine At.quiet true [] [hR [.string s], hR [.int .i64 a0]] ⟨by kernel_rfl, by kernel_rfl, rfl, rfl, rfl⟩ rfl rfl rfl ⟨by simp only [inK]; omega, RdW.blkB1 (by simp [kys]) hb rfl, RdW.blkB1 (by simp [kys]) hb rfl, trivial⟩ ?_
  refine At.run 100 true [] [] rfl trivial ?_
  exact At.ret [] rfl Tryz.func83 rfl trivial ⟨int_eq (by omega), rfl, rfl⟩

theorem Tryz.Read_w (s : ByteArray) (w : World) :
    Tri Tryz.prog 78 [.string s] w [] (fun v bx hp => ∃ b, v = .pointer (some ⟨b, 0, none⟩) ∧ bx = [(b, 234, rdr s 0 0)] ∧ hp = []) := by
  refine Tri.enter (bx := []) (hp := []) Tryz.func78 rfl (by kernel_rfl) rfl (Own.nil w) ?_
  refine At.run 100 true [] [] rfl oK ?_
  refine At.step [] rfl rfl rfl rfl rfl trivial (OpOk.box rfl rfl rfl fun b hb => ?_)
  refine At.run 100 true [] [] rfl oK ?_
  exact At.ret [] rfl Tryz.func78 rfl trivial ⟨b, rfl, rfl, rfl⟩
end Go.Proofs

/-
  Walks of layer 1: the reference's reader.
-/
namespace Go.Proofs
open Go Go.Eng
set_option maxRecDepth 100000
set_option maxHeartbeats 4000000
attribute [local irreducible] Tri

@[simp] theorem bl_str (l : List UInt8) : bl ⟨l.toArray⟩ = l := rfl
/-- The reference's digits. -/
def digR (l : List UInt8) : Nat × Nat × Nat := if (digP l 0 0).2.2 = 0 then ((digP l 0 0).1, (digP l 0 0).2.1, 0) else (0, 0, (digP l 0 0).2.2)

theorem Tryz.rdigits_w (l : List UInt8) (w : World) (hlen : l.length ≤ 9223372036854775807) :
    Fun Tryz.prog 190 [str l] w (.tuple #[.int .u64 (digR l).1, .int .i64 (digR l).2.1, .int .i64 (digR l).2.2]) := by
  refine Tri.enter (bx := []) (hp := []) Tryz.func190 rfl (by kernel_rfl) rfl (Own.nil w) ?_
  refine At.run 100 true [] [] rfl trivial ?_
  refine At.loop (n := l.length) (env0 := [(0, str l), (5, .int .u64 0), (6, .int .u64 1), (7, .int .i64 0)]) (fun m env bx hp => ∃ (k acc : Nat), m = l.length - k ∧ k ≤ l.length ∧ k ≤ 9 ∧ acc < 128 ^ k ∧ digP l 0 0 = digP (l.drop k) k acc ∧
    env = [(0, str l), (5, .int .u64 acc), (6, .int .u64 ((128 ^ k : Nat) : Int)), (7, .int .i64 k)] ∧ bx = [] ∧ hp = []) rfl
    ⟨0, 0, by simp, by omega, by omega, by simp, by simp, rfl, rfl, rfl⟩ ⟨rfl, rfl, rfl, rfl, trivial⟩ ?_
  rintro m env bx hp ⟨k, acc, rfl, hk, hk9, hacc, he, rfl, rfl, rfl⟩ ih
  by_cases h : k = l.length
  · refine At.run 100 true [false] [] rfl (by simp only [bl_str]; exact oK) ?_
    have hd : l.drop k = [] := by rw [h]; simp
    have hr : digP l 0 0 = (0, k, 2) := by rw [he, hd]; rfl
    exact At.ret [] rfl Tryz.func190 rfl trivial ⟨by unfold digR; rw [hr]; rfl, rfl, rfl⟩
  · obtain ⟨c, hc⟩ : ∃ c, l[k]? = some c := ⟨_, List.getElem?_eq_getElem (by omega)⟩
    have hd : l.drop k = c :: l.drop (k + 1) := by
      rw [List.drop_eq_getElem_cons (by omega)]; congr 1; exact (List.getElem?_eq_some_iff.1 hc).2
    rw [hd] at he
    have ec : (bl ⟨l.toArray⟩)[((k : Nat) : Int).toNat]?.getD 0 = c := by rw [Int.toNat_natCast, bl_str]; simp [hc]
    have hcl := c.toNat_lt
    have hp9 : (128 : Nat) ^ k ≤ 128 ^ 9 := Nat.pow_le_pow_right (by decide) hk9
    have hL : k < (bl ⟨l.toArray⟩).length := by rw [bl_str]; omega
    have hb64 := hlen
    rw [← bl_str l] at hb64
    have hlt : decide ((k : Int) < (((bl ⟨l.toArray⟩).length : Nat) : Int)) = true := decide_eq_true (by omega)
    have hix : (0 : Int) ≤ k ∧ (k : Int) < (((bl ⟨l.toArray⟩).length : Nat) : Int) := by omega
    by_cases h9 : k = 9
    · subst h9
      by_cases hc1 : 1 < c.toNat
      · refine At.run 100 true [true, true, true] [] rfl (by simp only [ec]; exact oK) ?_
        have hr : digP l 0 0 = (0, 9 + 1, 3) := by rw [he]; simp [digP, hc1]
        exact At.ret [] rfl Tryz.func190 rfl trivial ⟨by unfold digR; rw [hr]; rfl, rfl, rfl⟩
      · by_cases hz : c.toNat = 0
        · refine At.run 100 true [true, true, false, true, true] [] rfl (by simp only [ec]; exact oK) ?_
          have hr : digP l 0 0 = (0, 9 + 1, 3) := by rw [he]; simp [digP, hz]
          exact At.ret [] rfl Tryz.func190 rfl trivial ⟨by unfold digR; rw [hr]; rfl, rfl, rfl⟩
        · refine At.run 100 false [true, true, false, true, false, true] [] rfl (by simp only [ec]; exact oK) ?_
          have hr : digP l 0 0 = (acc + c.toNat * 128 ^ 9, 9 + 1, 0) := by rw [he]; simp [digP, hc1, hz]; omega
          refine At.ret [] rfl Tryz.func190 rfl trivial ⟨?_, rfl, rfl⟩
          unfold digR; rw [hr]
          simp only [ec, tupV, if_true]
          have e1 : IntKind.u64.wrap ((acc : Int) + IntKind.u64.wrap (IntKind.u64.wrap ((c.toNat : Int).tmod 128) * ((128 ^ 9 : Nat) : Int))) = ((acc + c.toNat * 128 ^ 9 : Nat) : Int) := by
            have hc2 : c.toNat = 1 := by omega
            have e3 : ((1 : Nat) : Int).tmod 128 = 1 := by decide
            rw [hc2, e3]; simp only [wrap_u64]; omega
          have e2 : IntKind.i64.wrap (((9 : Nat) : Int) + 1) = ((9 + 1 : Nat) : Int) := by rw [wrap_i64]; omega
          rw [e1, e2]; rfl
    · have hk8 : (128 : Nat) ^ k ≤ 128 ^ 8 := Nat.pow_le_pow_right (by decide) (by omega)
      have h3 : c.toNat % 128 * 128 ^ k ≤ 127 * 128 ^ k := Nat.mul_le_mul_right _ (by omega)
      have h3' : (c.toNat : Int) % 128 * ((128 ^ k : Nat) : Int) = ((c.toNat % 128 * 128 ^ k : Nat) : Int) := by rw [Int.natCast_mul, Int.natCast_emod]; rfl
      have hpos : 0 < (128 : Nat) ^ k := Nat.pow_pos (by decide)
      by_cases hz : 0 < k ∧ c.toNat = 0
      · refine At.run 100 true [true, false, false, true, true] [] rfl (by simp only [ec]; exact oK) ?_
        have hr : digP l 0 0 = (0, k + 1, 3) := by rw [he]; simp [digP, hz.2, hz.1, h9]
        exact At.ret [] rfl Tryz.func190 rfl trivial ⟨by unfold digR; rw [hr]; rfl, rfl, rfl⟩
      · by_cases h128 : c.toNat < 128
        · have hm : c.toNat % 128 = c.toNat := Nat.mod_eq_of_lt h128
          have hr : digP l 0 0 = (acc + c.toNat % 128 * 128 ^ k, k + 1, 0) := by rw [he, hm, digP, if_neg (by omega), if_pos h128, if_neg (by omega)]
          by_cases hk0 : 0 < k
          · refine At.run 100 true [true, false, false, true, false, true] [] rfl (by simp only [ec, h3']; exact oK) ?_
            refine At.ret [] rfl Tryz.func190 rfl trivial ⟨?_, rfl, rfl⟩
            unfold digR; rw [hr]
            simp only [ec, h3', tupV, if_true]; rfl
          · refine At.run 100 true [true, false, false, false, false, true] [] rfl (by simp only [ec, h3']; exact oK) ?_
            refine At.ret [] rfl Tryz.func190 rfl trivial ⟨?_, rfl, rfl⟩
            unfold digR; rw [hr]
            simp only [ec, h3', tupV, if_true]; rfl
        · have hr : digP l 0 0 = digP (l.drop (k + 1)) (k + 1) (acc + c.toNat % 128 * 128 ^ k) := by rw [he, digP, if_neg (by omega), if_neg h128]
          have e4 : ((128 ^ k : Nat) : Int) * 128 = ((128 ^ (k + 1) : Nat) : Int) := by rw [Nat.pow_succ, Int.natCast_mul]; rfl
          have hk9' : (128 : Nat) ^ (k + 1) ≤ 128 ^ 9 := Nat.pow_le_pow_right (by decide) (by omega)
          by_cases hk0 : 0 < k
          · refine At.run 100 true [true, false, false, true, false, false] [] rfl (by simp only [ec, h3', e4]; exact oK) ?_
            refine At.weak (ih (l.length - (k + 1)) _ _ _ (by omega) ⟨k + 1, acc + c.toNat % 128 * 128 ^ k, rfl, by omega, by omega, by rw [Nat.pow_succ]; omega, hr, rfl, rfl, rfl⟩) ⟨rfl, some_int_eq (by rw [ec, h3']; rfl), some_int_eq e4, some_int_eq (by omega), trivial⟩
          · refine At.run 100 true [true, false, false, false, false, false] [] rfl (by simp only [ec, h3', e4]; exact oK) ?_
            refine At.weak (ih (l.length - (k + 1)) _ _ _ (by omega) ⟨k + 1, acc + c.toNat % 128 * 128 ^ k, rfl, by omega, by omega, by rw [Nat.pow_succ]; omega, hr, rfl, rfl, rfl⟩) ⟨rfl, some_int_eq (by rw [ec, h3']; rfl), some_int_eq e4, some_int_eq (by omega), trivial⟩

theorem Tryz.rOf_w (s : ByteArray) (w : World) :
    Tri Tryz.prog 94 [.string s] w [] (fun v bx hp => ∃ b, v = .pointer (some ⟨b, 0, none⟩) ∧ bx = [(b, 176, rdr s 0 0)] ∧ hp = []) := by
  refine Tri.enter (bx := []) (hp := []) Tryz.func94 rfl (by kernel_rfl) rfl (Own.nil w) ?_
  refine At.run 100 true [] [] rfl oK ?_
  refine At.step [] rfl rfl rfl rfl rfl trivial (OpOk.box rfl rfl rfl fun b hb => ?_)
  refine At.run 100 true [] [] rfl oK ?_
  exact At.ret [] rfl Tryz.func94 rfl trivial ⟨b, rfl, rfl, rfl⟩

theorem Tryz.rNum_w (s : ByteArray) (a0 : Nat) (f : Int) (b most : Nat) (w : World) (ha : a0 ≤ (bl s).length) (hlen : (bl s).length ≤ 9223372036854775807)
    (hown : Own [(b, 176, rdr s a0 f)] [] w) :
    FunU Tryz.prog 95 [.pointer (some ⟨b, 0, none⟩), .int .u64 most] w (.int .u64 (rdN (bl s) a0 f most).1) (b, 176, rdr s (rdN (bl s) a0 f most).2.1 (rdN (bl s) a0 f most).2.2) := by
  refine Tri.enter (bx := [(b, 176, rdr s a0 f)]) (hp := []) Tryz.func95 rfl (by kernel_rfl) rfl hown ?_
  by_cases hf : f = 0
  · subst hf
    refine At.run 100 true [false] [hB 0] rfl oK ?_
    have hk := digP_k ((bl s).drop a0) 0 0
    rw [List.length_drop] at hk
    unfold rdN numE
    obtain ⟨n, k, e, hD⟩ : ∃ n k e, digP ((bl s).drop a0) 0 0 = (n, k, e) := ⟨_, _, _, rfl⟩
    have hd := fun w' => Tryz.rdigits_w ((bl s).drop a0) w' (by rw [List.length_drop]; omega)
    unfold digR at hd
    simp only [hD] at hd hk ⊢
    by_cases he : e = 0
    · subst he
      simp only [if_true] at hd
      refine At.quiet true [] [hB 0, hB 0, hC (.tuple #[.int .u64 n, .int .i64 k, .int .i64 0])] ⟨by kernel_rfl, by kernel_rfl, rfl, rfl, rfl⟩ rfl rfl rfl ⟨fun w' _ => hd w', ⟨by omega, by omega⟩, rfl, rfl, trivial⟩ ?_
      by_cases hm : most < n
      · refine At.run 100 true [true, true, true] [hB 0] rfl ⟨⟨rfl, rfl⟩, rfl, decide_eq_true (by omega), decide_eq_true (by omega), rfl, rfl, rfl, trivial⟩ ?_
        refine At.ret [] rfl Tryz.func95 rfl trivial ⟨?_, ?_, rfl⟩
        · simp [hm, tupV]
        · simp [hm, rdr]
      · refine At.run 100 true [true, false, false] [hB 0, hB 0] rfl oK ?_
        refine At.ret [] rfl Tryz.func95 rfl trivial ⟨?_, ?_, rfl⟩
        · simp [hm, tupV]
        · simp [hm, rdr]
    · simp only [if_neg he] at hd
      refine At.quiet true [] [hB 0, hB 0, hC (.tuple #[.int .u64 0, .int .i64 0, .int .i64 e])] ⟨by kernel_rfl, by kernel_rfl, rfl, rfl, rfl⟩ rfl rfl rfl ⟨fun w' _ => hd w', ⟨by omega, by omega⟩, rfl, rfl, trivial⟩ ?_
      refine At.run 100 true [false, false, true] [hB 0] rfl oK ?_
      refine At.ret [] rfl Tryz.func95 rfl trivial ⟨?_, ?_, rfl⟩
      · simp [he, tupV]
      · simp [he, rdr]
  · refine At.run 100 true [true] [hB 0] rfl oK ?_
    refine At.ret [] rfl Tryz.func95 rfl trivial ⟨?_, ?_, rfl⟩
    · simp [rdN, hf, tupV]
    · simp [rdN, hf]

theorem rdI_eq (l : List UInt8) (a : Nat) (f : Int) : rdI l a f = (zag (rdN l a f 18446744073709551615).1, (rdN l a f 18446744073709551615).2) := by
  have := digP_lt (l.drop a) 0 0 (by omega) (by simp)
  have e : numE (l.drop a) 18446744073709551615 = (digP (l.drop a) 0 0).2.2 := by unfold numE; rw [if_neg (by omega)]
  unfold rdI rdN
  rw [e]
  split
  · simp [zag]
  · split <;> simp [zag]

theorem Tryz.rInt_w (s : ByteArray) (a0 : Nat) (f : Int) (b : Nat) (w : World) (ha : a0 ≤ (bl s).length) (hlen : (bl s).length ≤ 9223372036854775807)
    (hown : Own [(b, 176, rdr s a0 f)] [] w) :
    FunU Tryz.prog 191 [.pointer (some ⟨b, 0, none⟩)] w (.int .i64 (rdI (bl s) a0 f).1) (b, 176, rdr s (rdI (bl s) a0 f).2.1 (rdI (bl s) a0 f).2.2) := by
  refine Tri.enter (bx := [(b, 176, rdr s a0 f)]) (hp := []) Tryz.func191 rfl (by kernel_rfl) rfl hown ?_
  have hlt := (rdN_lt (bl s) a0 f 18446744073709551615).2
  rw [rdI_eq]
  refine At.run 100 true [] [hU (.int .u64 (rdN (bl s) a0 f 18446744073709551615).1) 0 (rdr s (rdN (bl s) a0 f 18446744073709551615).2.1 (rdN (bl s) a0 f 18446744073709551615).2.2), hC (.int .i64 (zag (rdN (bl s) a0 f 18446744073709551615).1))] rfl
    ⟨fun w' _ => Tryz.rzag_w _ hlt w', fun w' hw' => Tryz.rNum_w s a0 f b 18446744073709551615 w' ha hlen hw'.toOwn, trivial⟩ ?_
  exact At.ret [] rfl Tryz.func191 rfl trivial ⟨rfl, rfl, rfl⟩
end Go.Proofs

/-
  Walks of layer 11: columns.
-/
namespace Go.Proofs
open Go Go.Eng
set_option maxRecDepth 100000
set_option maxHeartbeats 4000000
attribute [local irreducible] Tri

theorem Own.tail {e : Nat × TypeId × List Value} {bx : Bx} {hp : List Seg} {w : World} (h : Own (e :: bx) hp w) : Own bx hp w :=
  ⟨(List.nodup_cons.1 h.nd).2, fun k hk => h.lt k (List.mem_cons_of_mem _ hk), fun e he => h.bx e (List.mem_cons_of_mem _ he), h.hp⟩

def encR (x : Int × Nat) : List Value := [.int .i64 x.1, .int .i64 x.2]

end Go.Proofs

/-
  Walks of layer 11: columns read.
-/
namespace Go.Proofs
open Go Go.Eng
set_option maxRecDepth 100000
set_option maxHeartbeats 4000000
attribute [local irreducible] Tri


/-- add: so many steps behind the column. -/
theorem Tryz.add_w (d last : Int) (n lack : Nat) (out : List Int) (b1 b2 b3 : Nat) (a : Option Nat) (cap : Nat) (w : World) (hn : n ≤ lack) (hl : lack < 18446744073709551616) (hb : out.length + n ≤ 1000000)
    (hown : Own [(b1, 2, [.int .i64 last]), (b2, 177, [sv a out.length cap]), (b3, 131, [.int .u64 lack])] [Seg.row a 2 1 out.length cap (i64s out)] w) :
    Tri Tryz.prog 231 [.int .i64 d, .int .u64 n, .pointer (some ⟨b1, 0, none⟩), .pointer (some ⟨b2, 0, none⟩), .pointer (some ⟨b3, 0, none⟩)] w
      (kys [(b1, 2, [.int .i64 last]), (b2, 177, [sv a out.length cap]), (b3, 131, [.int .u64 lack])] [Seg.row a 2 1 out.length cap (i64s out)])
      (fun v bx hp => ∃ a' cap', v = .tuple #[] ∧ bx = [(b1, 2, [.int .i64 (stepsE last d n)]), (b2, 177, [sv a' (out ++ stepsL last d n).length cap']), (b3, 131, [.int .u64 (lack - n : Nat)])] ∧
        hp = [Seg.row a' 2 1 (out ++ stepsL last d n).length cap' (i64s (out ++ stepsL last d n))]) := by
  refine Tri.enter Tryz.func231 rfl (by kernel_rfl) rfl hown ?_
  refine At.run 100 true [] [] rfl trivial ?_
  refine At.loop (n := n) (env0 := [(0, .int .i64 d), (1, .int .u64 n), (2, .pointer (some ⟨b1, 0, none⟩)), (3, .pointer (some ⟨b2, 0, none⟩)), (4, .pointer (some ⟨b3, 0, none⟩)), (7, .int .u64 n), (8, .int .u64 0)])
    (fun m env bx hp => ∃ (i : Nat) (a' : Option Nat) (cap' : Nat), m = n - i ∧ i ≤ n ∧ env = [(0, .int .i64 d), (1, .int .u64 n), (2, .pointer (some ⟨b1, 0, none⟩)), (3, .pointer (some ⟨b2, 0, none⟩)), (4, .pointer (some ⟨b3, 0, none⟩)), (7, .int .u64 n), (8, .int .u64 i)] ∧
      bx = [(b1, 2, [.int .i64 (stepsE last d i)]), (b2, 177, [sv a' (out ++ stepsL last d i).length cap']), (b3, 131, [.int .u64 lack])] ∧ hp = [Seg.row a' 2 1 (out ++ stepsL last d i).length cap' (i64s (out ++ stepsL last d i))]) rfl
    ⟨0, a, cap, by simp, by omega, rfl, by simp [stepsE, stepsL], by simp [stepsL]⟩ ⟨rfl, rfl, rfl, rfl, rfl, rfl, rfl, trivial⟩ ?_
  rintro m env bx hp ⟨i, a', cap', rfl, hi, rfl, rfl, rfl⟩ ih
  by_cases hlt : i < n
  · have hsl := stepsL_len last d i
    have hol : (out ++ stepsL last d i).length = out.length + i := by simp [hsl]
    refine At.run 100 false [true] [hB 0, hB 0, hB 1, hB 0] rfl oK ?_
    refine At.append1 0 1 8 rfl rfl rfl rfl rfl rfl rfl rfl rfl trivial (fun _ => rfl) trivial rfl rfl rfl rfl rfl rfl rfl rfl (fun _ => rfl) (by simp [Value.oneCell']) (by omega) (by omega) (fun bb a2 cap2 => ?_)
    refine At.run 100 true [] [hB 1] rfl oK ?_
    refine At.weak (ih (n - (i + 1)) _ _ _ (by omega) ⟨i + 1, a2, cap2, rfl, by omega, rfl, ?_, ?_⟩) ⟨rfl, rfl, rfl, rfl, rfl, rfl, some_int_eq (by omega), trivial⟩
    · rw [stepsE_snoc, stepsL_snoc]; simp [Nat.add_assoc]
    · rw [stepsL_snoc]; simp [setL, i64s, Nat.add_assoc]
  · have : i = n := by omega
    subst this
    refine At.run 100 true [false] [hB 2, hB 2] rfl oK ?_
    refine At.ret [] rfl Tryz.func231 rfl trivial ⟨a', cap', rfl, ?_, rfl⟩
    rw [show ((lack : Int) - (i : Int)) = ((lack - i : Nat) : Int) by omega]


theorem Tryz.ColGet_bad (s : ByteArray) (most : Int) (w : World) (hm : most < 0 ∨ 65536 < most) : Fun Tryz.prog 147 [.string s, .int .i64 most] w (.tuple #[sv none 0 0, .int .i64 0, .int .i64 1]) := by
  refine Tri.enter (bx := []) (hp := []) Tryz.func147 rfl (by kernel_rfl) rfl (Own.nil w) ?_
  by_cases h0 : most < 0
  · refine At.run 100 true [true, true] [] rfl oK ?_
    exact At.ret [] rfl Tryz.func147 rfl trivial ⟨rfl, rfl, rfl⟩
  · refine At.run 100 true [false, true] [] rfl oK ?_
    exact At.ret [] rfl Tryz.func147 rfl trivial ⟨rfl, rfl, rfl⟩

theorem Tryz.ColGet_w (s : ByteArray) (most : Nat) (w : World) (hm : most ≤ 65536) (hlen : (bl s).length ≤ 9223372036854775807) :
    Tri Tryz.prog 147 [.string s, .int .i64 most] w [] (fun v bx hp => ∃ a cap, v = .tuple #[sv a (colG (bl s) most).1.length cap, .int .i64 (colG (bl s) most).2.1, .int .i64 (colG (bl s) most).2.2] ∧ bx = [] ∧
      hp = [Seg.row a 2 1 (colG (bl s) most).1.length cap (i64s (colG (bl s) most).1)]) := by
  refine Tri.enter (bx := []) (hp := []) Tryz.func147 rfl (by kernel_rfl) rfl (Own.nil w) ?_
  refine At.run 100 true [false, false] [] rfl oK ?_
  refine At.step [] rfl rfl rfl rfl rfl trivial (OpOk.call rfl (fun w' hw' => Tryz.Read_w s w') ?_)
  rintro v bx' hp' ⟨b, rfl, rfl, rfl⟩
  have hN0 := rdN_lt (bl s) 0 0 most
  have hE0 := rdN_e (bl s) 0 0 most (by omega)
  have hA0 := rdN_a (l := bl s) (a := 0) (f := 0) (most := most) (by omega)
  refine At.run 100 true [] [hU (.int .u64 (rdN (bl s) 0 0 most).1) 0 (rdr s (rdN (bl s) 0 0 most).2.1 (rdN (bl s) 0 0 most).2.2)] rfl ⟨fun w' hw' => Tryz.Num_w s 0 0 b most w' (by omega) hlen (Own.head hw'.toOwn), by simp only [inK]; omega, trivial⟩ ?_
  refine At.step [] rfl rfl rfl rfl rfl trivial (OpOk.alloc (cs := [.int .u64 0]) rfl (by kernel_rfl) fun bk hbk => ?_)
  refine At.run 100 true [] [hB 0] rfl oK ?_
  refine At.step [] rfl rfl rfl rfl rfl trivial (OpOk.alloc (cs := [sv none 0 0]) rfl (by kernel_rfl) fun bo hbo => ?_)
  refine At.run 100 true [] [] rfl oK ?_
  refine At.step [] rfl rfl rfl rfl rfl trivial (OpOk.alloc (cs := [.int .i64 0]) rfl (by kernel_rfl) fun bla hbla => ?_)
  refine At.run 100 true [] [hB 0] rfl oK ?_
  refine At.nilRow 2 1 ?_
  refine At.loop (n := 2 * (rdN (bl s) 0 0 most).1 + (if (rdN (bl s) 0 0 most).2.2 = 0 then 1 else 0)) (env0 := [(0, .string s), (7, .pointer (some ⟨b, 0, none⟩)), (8, .pointer (some ⟨bk, 0, none⟩)), (9, .pointer (some ⟨bo, 0, none⟩)), (11, .func (.func 231) ⟨[]⟩ ⟨[.pointer (some ⟨bla, 0, none⟩), .pointer (some ⟨bo, 0, none⟩), .pointer (some ⟨bk, 0, none⟩)]⟩), (12, .bool true), (13, .int .i64 0)])
    (fun m env bx hp => ∃ (fuel a lack : Nat) (f last was : Int) (first : Bool) (out : List Int) (aa : Option Nat) (cap : Nat), m = 2 * fuel + (if f = 0 then 1 else 0) ∧ lack ≤ fuel ∧ a ≤ (bl s).length ∧ 0 ≤ f ∧ f ≤ 4 ∧ out.length + lack ≤ most ∧
      (f = 0 → colG (bl s) most = colLoop (bl s) fuel a lack (if first then none else some was) last out) ∧ (f ≠ 0 → colG (bl s) most = ([], 0, f)) ∧
      env = [(0, .string s), (7, .pointer (some ⟨b, 0, none⟩)), (8, .pointer (some ⟨bk, 0, none⟩)), (9, .pointer (some ⟨bo, 0, none⟩)), (11, .func (.func 231) ⟨[]⟩ ⟨[.pointer (some ⟨bla, 0, none⟩), .pointer (some ⟨bo, 0, none⟩), .pointer (some ⟨bk, 0, none⟩)]⟩), (12, .bool first), (13, .int .i64 was)] ∧
      bx = [(bla, 2, [.int .i64 last]), (bo, 177, [sv aa out.length cap]), (bk, 131, [.int .u64 lack]), (b, 234, rdr s a f)] ∧ hp = [Seg.row aa 2 1 out.length cap (i64s out)]) rfl
    ⟨(rdN (bl s) 0 0 most).1, _, (rdN (bl s) 0 0 most).1, (rdN (bl s) 0 0 most).2.2, 0, 0, true, [], none, 0, rfl, Nat.le_refl _, hA0.2, hE0.1, hE0.2, by simpa using hN0.1, fun h => by rw [colG, if_neg (by simpa using h)]; rfl, fun h => by rw [colG, if_pos h], rfl, rfl, rfl⟩ ⟨rfl, rfl, rfl, rfl, rfl, rfl, rfl, trivial⟩ ?_
  clear hN0 hE0 hA0
  rintro m env bx hp ⟨fuel, a, lack, f, last, was, first, out, aa, cap, rfl, hfuel, ha, hf0, hf4, hsum, hc0, hc1, rfl, rfl, rfl⟩ ih
  have hFault : ∀ {l0 : Int} {o0 : Value} {k0 : Value} {a0 : Nat} {f0 : Int} {hp0 : List Seg}, CallOb Tryz.prog ⟨w, kys [] []⟩ [(bla, 2, [.int .i64 l0]), (bo, 177, [o0]), (bk, 131, [k0]), (b, 234, rdr s a0 f0)] hp0 82 [.pointer (some ⟨b, 0, none⟩)] (.int .i64 f0) :=
    by intro l0 o0 k0 a0 f0 hp0 w' hw'; exact Tryz.Fault_w s a0 f0 b w' (hw'.bx (b, _, rdr s a0 f0) (by simp))
  by_cases hend : 0 < lack ∧ f = 0
  · obtain ⟨hlk, rfl⟩ := hend
    have hcl := hc0 rfl
    obtain ⟨fuel', rfl⟩ : ∃ g, fuel = g + 1 := ⟨fuel - 1, by omega⟩
    rw [colLoop, if_neg (by omega)] at hcl
    have hI := rdI_in (bl s) a 0
    have hIa := rdI_a (l := bl s) (a := a) (f := 0) ha
    obtain ⟨d, a1, f1, hR1⟩ : ∃ d a1 f1, rdI (bl s) a 0 = (d, a1, f1) := ⟨_, _, _, rfl⟩
    have hIe := rdI_e (bl s) a 0 (by omega)
    simp only [hR1] at hI hIa hcl hIe
    have hN2 := rdN_lt (bl s) a1 f1 lack
    have ha2 := rdN_a (l := bl s) (a := a1) (f := f1) (most := lack) hIa.2
    have hNe := rdN_e (bl s) a1 f1 lack hIe
    have hk0 := @rdN_k0 (bl s) a1 f1 lack
    obtain ⟨k, a2, f2, hR2⟩ : ∃ k a2 f2, rdN (bl s) a1 f1 lack = (k, a2, f2) := ⟨_, _, _, rfl⟩
    simp only [hR2] at hN2 ha2 hNe hcl hk0
    have hcI : CallU Tryz.prog ⟨w, kys [] []⟩ [(bla, 2, [.int .i64 last]), (bo, 177, [sv aa out.length cap]), (bk, 131, [.int .u64 lack]), (b, 234, rdr s a 0)] [Seg.row aa 2 1 out.length cap (i64s out)] 232 [.pointer (some ⟨b, 0, none⟩)] (.int .i64 d) (b, 234, rdr s a1 f1) :=
      fun w' hw' => by have := Tryz.Int_w s a 0 b w' ha hlen (hw'.toOwn.sel [false, false, false, true] [] rfl); rw [hR1] at this; exact this
    have hcN : CallU Tryz.prog ⟨w, kys [] []⟩ [(bla, 2, [.int .i64 last]), (bo, 177, [sv aa out.length cap]), (bk, 131, [.int .u64 lack]), (b, 234, rdr s a1 f1)] [Seg.row aa 2 1 out.length cap (i64s out)] 79 [.pointer (some ⟨b, 0, none⟩), .int .u64 lack] (.int .u64 k) (b, 234, rdr s a2 f2) :=
      fun w' hw' => by have := Tryz.Num_w s a1 f1 b lack w' hIa.2 hlen (hw'.toOwn.sel [false, false, false, true] [] rfl); rw [hR2] at this; exact this
    have hcF : ∀ {f3 : Int}, CallU Tryz.prog ⟨w, kys [] []⟩ [(bla, 2, [.int .i64 last]), (bo, 177, [sv aa out.length cap]), (bk, 131, [.int .u64 lack]), (b, 234, rdr s a2 f3)] [Seg.row aa 2 1 out.length cap (i64s out)] 80 [.pointer (some ⟨b, 0, none⟩), .int .i64 3] (.tuple #[]) (b, 234, rdr s a2 (if f3 = 0 then 3 else f3)) :=
      fun w' hw' => Tryz.Fail_w s a2 _ 3 b w' (hw'.toOwn.sel [false, false, false, true] [] rfl)
    refine At.run 100 true [true, true] [hB 2, hC (.int .i64 0), hU (.int .i64 d) 3 (rdr s a1 f1), hB 2, hU (.int .u64 k) 3 (rdr s a2 f2)] rfl
      (by and_intros <;> first | exact hFault | exact hcI | exact hcN | exact oK) ?_
    by_cases hf2 : f2 = 0
    · subst hf2
      rw [if_neg (by simp)] at hcl
      by_cases hkz : k = 0
      · subst hkz
        have hu : colG (bl s) most = ([], 0, 3) := by rw [hcl]; simp
        refine At.run 100 true [true, true, false] [hU (.tuple #[]) 3 (rdr s a2 3), hC (.int .i64 3)] rfl (by and_intros <;> first | exact hFault | exact hcF (f3 := 0) | exact oK) ?_
        refine At.weak (ih (2 * (fuel' + 1)) _ _ _ (by simp) ⟨fuel' + 1, a2, lack, 3, last, d, false, out, aa, cap, by simp, hfuel, ha2.2, by omega, by omega, hsum, fun h => by omega, fun _ => hu, rfl, rfl, rfl⟩) ⟨rfl, rfl, rfl, rfl, rfl, rfl, rfl, trivial⟩
      · have dk : decide ((k : Int) = 0) = false := decide_eq_false (by omega)
        cases first with
        | true =>
          have hu := hcl
          rw [if_neg (by simp [hkz])] at hu
          refine At.run 100 true [false, false, false, true] [hC (.int .i64 0)] rfl (by and_intros <;> first | exact hFault | exact dk | exact oK) ?_
          refine At.step [] rfl rfl rfl rfl rfl trivial (OpOk.callO [true, true, true, false] [true] rfl rfl (fun w' hw' ho => Tryz.add_w d last k lack out bla bo bk aa cap w' hN2.1 (by omega) (by omega) ho) ?_)
          rintro v bx' hp' ⟨a', cap', rfl, rfl, rfl⟩
          refine At.run 100 true [] [] rfl trivial ?_
          refine At.weak (ih (2 * fuel' + 1) _ _ _ (by simp) ⟨fuel', a2, lack - k, 0, stepsE last d k, d, false, out ++ stepsL last d k, a', cap', by simp, by omega, ha2.2, by omega, by omega, by rw [List.length_append, stepsL_len]; omega, fun _ => hu, fun h => (h rfl).elim, rfl, rfl, rfl⟩) ⟨rfl, rfl, rfl, rfl, rfl, rfl, rfl, trivial⟩
        | false =>
          by_cases hdw : d = was
          · subst hdw
            have hu : colG (bl s) most = ([], 0, 3) := by rw [hcl]; simp
            refine At.run 100 true [false, true, true, false] [hU (.tuple #[]) 3 (rdr s a2 3), hC (.int .i64 3)] rfl (by and_intros <;> first | exact hFault | exact hcF (f3 := 0) | exact oK) ?_
            refine At.weak (ih (2 * (fuel' + 1)) _ _ _ (by simp) ⟨fuel' + 1, a2, lack, 3, last, d, false, out, aa, cap, by simp, hfuel, ha2.2, by omega, by omega, hsum, fun h => by omega, fun _ => hu, rfl, rfl, rfl⟩) ⟨rfl, rfl, rfl, rfl, rfl, rfl, rfl, trivial⟩
          · have hu := hcl
            rw [if_neg (by simp [hkz]; exact fun e => hdw e.symm)] at hu
            refine At.run 100 true [false, true, false, true] [hC (.int .i64 0)] rfl (by and_intros <;> first | exact hFault | exact dk | exact decide_eq_false hdw | exact oK) ?_
            refine At.step [] rfl rfl rfl rfl rfl trivial (OpOk.callO [true, true, true, false] [true] rfl rfl (fun w' hw' ho => Tryz.add_w d last k lack out bla bo bk aa cap w' hN2.1 (by omega) (by omega) ho) ?_)
            rintro v bx' hp' ⟨a', cap', rfl, rfl, rfl⟩
            refine At.run 100 true [] [] rfl trivial ?_
            refine At.weak (ih (2 * fuel' + 1) _ _ _ (by simp) ⟨fuel', a2, lack - k, 0, stepsE last d k, d, false, out ++ stepsL last d k, a', cap', by simp, by omega, ha2.2, by omega, by omega, by rw [List.length_append, stepsL_len]; omega, fun _ => hu, fun h => (h rfl).elim, rfl, rfl, rfl⟩) ⟨rfl, rfl, rfl, rfl, rfl, rfl, rfl, trivial⟩
    · have hkz := hk0 hf2
      subst hkz
      have hu : colG (bl s) most = ([], 0, f2) := by rw [hcl, if_pos hf2]
      have hcF2 := hcF (f3 := f2)
      rw [if_neg hf2] at hcF2
      refine At.run 100 true [true, true, false] [hU (.tuple #[]) 3 (rdr s a2 f2), hC (.int .i64 f2)] rfl (by and_intros <;> first | exact hFault | exact hcF2 | exact oK) ?_
      refine At.weak (ih (2 * (fuel' + 1)) _ _ _ (by simp) ⟨fuel' + 1, a2, lack, f2, last, d, false, out, aa, cap, by simp [hf2], hfuel, ha2.2, by omega, by omega, hsum, fun h => (hf2 h).elim, fun _ => hu, rfl, rfl, rfl⟩) ⟨rfl, rfl, rfl, rfl, rfl, rfl, rfl, trivial⟩
  · by_cases hlk : 0 < lack
    · refine At.run 100 true [true, false] [hB 2, hC (.int .i64 f)] rfl (by and_intros <;> first | exact hFault | exact oK) ?_
      by_cases hf : f = 0
      · subst hf
        have hl0 : lack = 0 := by omega
        subst hl0
        have hG : colG (bl s) most = (out, a, 0) := by rw [hc0 rfl, colLoop_zero]
        refine At.run 100 true [false] [hC (.int .i64 0)] rfl ⟨rfl, hFault, trivial⟩ ?_
        refine At.quiet true [] [hB 1, hC (.int .i64 ((bl s).length - a : Nat))] ⟨by kernel_rfl, by kernel_rfl, rfl, rfl, rfl⟩ rfl rfl rfl ⟨by simp only [inK]; omega, fun w' hw' => Tryz.Left_w s a 0 b w' ha hlen (hw'.bx (b, _, rdr s _ _) (by simp)), rfl, trivial⟩ ?_
        refine At.run 100 true [] [] rfl trivial ?_
        refine At.keep [] [true] rfl ?_
        refine At.ret [] rfl Tryz.func147 rfl trivial ⟨aa, cap, ?_, rfl, ?_⟩
        · rw [hG]; simp only [tupV]; rw [show (((bl s).length : Int) - (((bl s).length - a : Nat) : Int)) = (a : Int) by omega]
        · rw [hG]
      · have hG := hc1 hf
        refine At.run 100 true [true] [hC (.int .i64 f)] rfl ⟨by simp [hf], hFault, trivial⟩ ?_
        refine At.keep [] [] rfl ?_
        refine At.nilRow 2 1 ?_
        refine At.ret [] rfl Tryz.func147 rfl trivial ⟨none, 0, ?_, rfl, ?_⟩
        · rw [hG]; rfl
        · rw [hG]; rfl
    · refine At.run 100 true [false, false] [hB 2] rfl oK ?_
      by_cases hf : f = 0
      · subst hf
        have hl0 : lack = 0 := by omega
        subst hl0
        have hG : colG (bl s) most = (out, a, 0) := by rw [hc0 rfl, colLoop_zero]
        refine At.run 100 true [false] [hC (.int .i64 0)] rfl ⟨rfl, hFault, trivial⟩ ?_
        refine At.quiet true [] [hB 1, hC (.int .i64 ((bl s).length - a : Nat))] ⟨by kernel_rfl, by kernel_rfl, rfl, rfl, rfl⟩ rfl rfl rfl ⟨by simp only [inK]; omega, fun w' hw' => Tryz.Left_w s a 0 b w' ha hlen (hw'.bx (b, _, rdr s _ _) (by simp)), rfl, trivial⟩ ?_
        refine At.run 100 true [] [] rfl trivial ?_
        refine At.keep [] [true] rfl ?_
        refine At.ret [] rfl Tryz.func147 rfl trivial ⟨aa, cap, ?_, rfl, ?_⟩
        · rw [hG]; simp only [tupV]; rw [show (((bl s).length : Int) - (((bl s).length - a : Nat) : Int)) = (a : Int) by omega]
        · rw [hG]
      · have hG := hc1 hf
        refine At.run 100 true [true] [hC (.int .i64 f)] rfl ⟨by simp [hf], hFault, trivial⟩ ?_
        refine At.keep [] [] rfl ?_
        refine At.nilRow 2 1 ?_
        refine At.ret [] rfl Tryz.func147 rfl trivial ⟨none, 0, ?_, rfl, ?_⟩
        · rw [hG]; rfl
        · rw [hG]; rfl
end Go.Proofs

/-
  Walks of layer 1: the reader's numbers.
-/
import Derived.Test.YtfpoclhenokhhaaGreatW6
import Derived.Test.YtfpoclhenokhhaaGreatP5
import Derived.Test.YtfpoclhenokhhaaGreatE14
namespace Go.Proofs
open Go Go.Eng
set_option maxRecDepth 100000
set_option maxHeartbeats 4000000
attribute [local irreducible] Tri

theorem rot2 {α : Type} (a b : α) : [a, b].Perm [b, a] := List.Perm.swap b a []
theorem rot3 {α : Type} (a b c : α) : [a, b, c].Perm [c, a, b] := by simpa using List.perm_append_comm (l₁ := [a, b]) (l₂ := [c])

theorem Own.head {e : Nat × TypeId × List Value} {bx : Bx} {hp : List Seg} {w : World} (h : Own (e :: bx) hp w) : Own [e] [] w :=
  ⟨by simp [kys], fun k hk => h.lt k (by simp only [kys, List.map_cons, List.map_nil, List.flatMap_nil, List.append_nil, List.mem_singleton] at hk; subst hk; exact List.mem_cons_self ..), fun x hx => h.bx x (by simp only [List.mem_singleton] at hx; subst hx; exact List.mem_cons_self ..), by simp⟩

theorem Tryz.num1_w (s : ByteArray) (a0 : Nat) (b br bm most : Nat) (w : World) (ha : a0 ≤ (bl s).length) (hlen : (bl s).length ≤ 9223372036854775807) :
    StepR Tryz.prog 86 [.pointer (some ⟨br, 0, none⟩), .pointer (some ⟨bm, 0, none⟩)] b 122 s a0 [(bm, 43, [.int .u64 most]), (br, 65, [.pointer (some ⟨b, 0, none⟩)])]
      (.int .u64 (digP ((bl s).drop a0) 0 0).1) (numE ((bl s).drop a0) most) (a0 + (digP ((bl s).drop a0) 0 0).2.1) w := by
  intro w1 hext hown
  refine Tri.enter Tryz.func86 rfl (by kernel_rfl) rfl hown ?_
  refine At.run 100 true [] [hB 2] rfl ⟨rfl, trivial⟩ ?_
  obtain ⟨n, k, e, hD⟩ : ∃ n k e, digP ((bl s).drop a0) 0 0 = (n, k, e) := ⟨_, _, _, rfl⟩
  simp only [numE, hD]
  refine At.run 100 true [] [hU (.tuple #[.int .u64 n, .int .i64 e]) 0 (rdr s (a0 + k) 0)] rfl ⟨fun w' hw' => by have := Tryz.digits_w s a0 0 b w' ha hlen (Own.head hw'.toOwn); rw [hD] at this; exact this, trivial⟩ ?_
  by_cases he : e = 0
  · by_cases hm : most < n
    · refine At.run 100 true [true, true] [hB 1] rfl (by (repeat' apply And.intro) <;> first | exact True.intro | omega | (simp only [inK]; omega) | (simp; done) | (simp; omega) | exact decide_eq_true (by omega) | exact decide_eq_false (by omega) | rfl | (simp [Value.oneCell']; done) | exact i64s_one _ | exact AggOk.mk (by kernel_rfl) (by kernel_rfl)) ?_
      exact At.ret [] rfl Tryz.func86 rfl trivial ⟨by simp [he, hm]; rfl, rfl, rfl⟩
    · refine At.run 100 true [true, false] [hB 1] rfl (by (repeat' apply And.intro) <;> first | exact True.intro | omega | (simp only [inK]; omega) | (simp; done) | (simp; omega) | exact decide_eq_true (by omega) | exact decide_eq_false (by omega) | rfl | (simp [Value.oneCell']; done) | exact i64s_one _ | exact AggOk.mk (by kernel_rfl) (by kernel_rfl)) ?_
      exact At.ret [] rfl Tryz.func86 rfl trivial ⟨by simp [he, hm]; rfl, rfl, rfl⟩
  · refine At.run 100 true [false, false] [] rfl (by (repeat' apply And.intro) <;> first | exact True.intro | omega | (simp only [inK]; omega) | (simp; done) | (simp; omega) | exact decide_eq_true (by omega) | exact decide_eq_false (by omega) | rfl | (simp [Value.oneCell']; done) | exact i64s_one _ | exact AggOk.mk (by kernel_rfl) (by kernel_rfl)) ?_
    exact At.ret [] rfl Tryz.func86 rfl trivial ⟨by simp [he]; rfl, rfl, rfl⟩

theorem Tryz.int1_w (s : ByteArray) (a0 : Nat) (b br : Nat) (w : World) (ha : a0 ≤ (bl s).length) (hlen : (bl s).length ≤ 9223372036854775807) :
    StepR Tryz.prog 125 [.pointer (some ⟨br, 0, none⟩)] b 122 s a0 [(br, 65, [.pointer (some ⟨b, 0, none⟩)])]
      (.int .i64 (zag (digP ((bl s).drop a0) 0 0).1)) (digP ((bl s).drop a0) 0 0).2.2 (a0 + (digP ((bl s).drop a0) 0 0).2.1) w := by
  intro w1 hext hown
  refine Tri.enter Tryz.func125 rfl (by kernel_rfl) rfl hown ?_
  refine At.run 100 true [] [hB 1] rfl ⟨rfl, trivial⟩ ?_
  have hlt := digP_lt ((bl s).drop a0) 0 0 (by omega) (by simp)
  obtain ⟨n, k, e, hD⟩ : ∃ n k e, digP ((bl s).drop a0) 0 0 = (n, k, e) := ⟨_, _, _, rfl⟩
  simp only [hD] at hlt ⊢
  refine At.run 100 true [] [hU (.tuple #[.int .u64 n, .int .i64 e]) 0 (rdr s (a0 + k) 0), hC (.int .i64 (zag n))] rfl ⟨fun w' hw' => Tryz.zag_w n hlt w', fun w' hw' => by have := Tryz.digits_w s a0 0 b w' ha hlen (Own.head hw'.toOwn); rw [hD] at this; exact this, trivial⟩ ?_
  exact At.ret [] rfl Tryz.func125 rfl trivial ⟨rfl, rfl, rfl⟩

theorem Tryz.Num_w (s : ByteArray) (a0 : Nat) (f : Int) (b most : Nat) (w : World) (ha : a0 ≤ (bl s).length) (hlen : (bl s).length ≤ 9223372036854775807)
    (hown : Own [(b, 122, rdr s a0 f)] [] w) :
    FunU Tryz.prog 27 [.pointer (some ⟨b, 0, none⟩), .int .u64 most] w (.int .u64 (rdN (bl s) a0 f most).1) (b, 122, rdr s (rdN (bl s) a0 f most).2.1 (rdN (bl s) a0 f most).2.2) := by
  refine Tri.enter (bx := [(b, 122, rdr s a0 f)]) (hp := []) Tryz.func27 rfl (by kernel_rfl) rfl hown ?_
  refine At.run 100 true [] [] rfl trivial ?_
  refine At.step [] rfl rfl rfl rfl rfl trivial (OpOk.box rfl rfl rfl fun br hbr => ?_)
  refine At.step [] rfl rfl rfl rfl rfl trivial (OpOk.box rfl rfl rfl fun bm hbm => ?_)
  refine At.run 100 true [] [hB 1] rfl (by (repeat' apply And.intro) <;> first | exact True.intro | omega | (simp only [inK]; omega) | (simp; done) | (simp; omega) | exact decide_eq_true (by omega) | exact decide_eq_false (by omega) | rfl | (simp [Value.oneCell']; done) | exact i64s_one _ | exact AggOk.mk (by kernel_rfl) (by kernel_rfl)) ?_
  refine At.perm (rot3 _ _ _) (List.Perm.refl _) ?_
  refine At.step [] rfl rfl rfl rfl rfl trivial (OpOk.callAll rfl (fun w' hw' => Tryz.guardU_w s a0 _ f _ _ b _ _ _ w' hw'.toOwn (fun _ => Tryz.num1_w s a0 b br bm most w' ha hlen)) ?_)
  rintro v bx' hp' ⟨rfl, rfl, rfl⟩
  refine At.run 100 true [] [] rfl trivial ?_
  refine At.keep [true, false, false] [] rfl ?_
  refine At.ret [] rfl Tryz.func27 rfl trivial ⟨?_, ?_, rfl⟩
  · unfold rdN
    by_cases hf : f = 0
    · by_cases he : numE ((bl s).drop a0) most = 0 <;> simp [hf, he, tupV]
    · simp [hf, tupV]
  · unfold rdN
    by_cases hf : f = 0
    · by_cases he : numE ((bl s).drop a0) most = 0 <;> simp [hf, he]
    · simp [hf]

theorem Tryz.Int_w (s : ByteArray) (a0 : Nat) (f : Int) (b : Nat) (w : World) (ha : a0 ≤ (bl s).length) (hlen : (bl s).length ≤ 9223372036854775807)
    (hown : Own [(b, 122, rdr s a0 f)] [] w) :
    FunU Tryz.prog 114 [.pointer (some ⟨b, 0, none⟩)] w (.int .i64 (rdI (bl s) a0 f).1) (b, 122, rdr s (rdI (bl s) a0 f).2.1 (rdI (bl s) a0 f).2.2) := by
  refine Tri.enter (bx := [(b, 122, rdr s a0 f)]) (hp := []) Tryz.func114 rfl (by kernel_rfl) rfl hown ?_
  refine At.run 100 true [] [] rfl trivial ?_
  refine At.step [] rfl rfl rfl rfl rfl trivial (OpOk.box rfl rfl rfl fun br hbr => ?_)
  refine At.run 100 true [] [hB 0] rfl (by (repeat' apply And.intro) <;> first | exact True.intro | omega | (simp only [inK]; omega) | (simp; done) | (simp; omega) | exact decide_eq_true (by omega) | exact decide_eq_false (by omega) | rfl | (simp [Value.oneCell']; done) | exact i64s_one _ | exact AggOk.mk (by kernel_rfl) (by kernel_rfl)) ?_
  refine At.perm (rot2 _ _) (List.Perm.refl _) ?_
  refine At.step [] rfl rfl rfl rfl rfl trivial (OpOk.callAll rfl (fun w' hw' => Tryz.guardI_w s a0 _ f _ _ b _ _ _ w' hw'.toOwn (fun _ => Tryz.int1_w s a0 b br w' ha hlen)) ?_)
  rintro v bx' hp' ⟨rfl, rfl, rfl⟩
  refine At.run 100 true [] [] rfl trivial ?_
  refine At.keep [true, false] [] rfl ?_
  refine At.ret [] rfl Tryz.func114 rfl trivial ⟨?_, ?_, rfl⟩
  · unfold rdI
    by_cases hf : f = 0
    · by_cases he : (digP ((bl s).drop a0) 0 0).2.2 = 0 <;> simp [hf, he, tupV]
    · simp [hf, tupV]
  · unfold rdI
    by_cases hf : f = 0
    · by_cases he : (digP ((bl s).drop a0) 0 0).2.2 = 0 <;> simp [hf, he]
    · simp [hf]

theorem Tryz.fail1_w (s : ByteArray) (a0 : Nat) (e : Int) (b be : Nat) (w : World) :
    StepR Tryz.prog 128 [.pointer (some ⟨be, 0, none⟩)] b 122 s a0 [(be, 30, [.int .i64 e])] (.int .i64 0) e a0 w := by
  intro w1 hext hown
  refine Tri.enter Tryz.func128 rfl (by kernel_rfl) rfl hown ?_
  refine At.run 100 true [] [] rfl trivial ?_
  refine At.quiet true [] [hB 1] ⟨by kernel_rfl, by kernel_rfl, rfl, rfl, rfl⟩ rfl rfl rfl (by (repeat' apply And.intro) <;> first | exact True.intro | omega | (simp only [inK]; omega) | (simp; done) | (simp; omega) | exact decide_eq_true (by omega) | exact decide_eq_false (by omega) | rfl | (simp [Value.oneCell']; done) | exact i64s_one _ | exact AggOk.mk (by kernel_rfl) (by kernel_rfl)) ?_
  refine At.run 100 true [] [] rfl trivial ?_
  exact At.ret [] rfl Tryz.func128 rfl trivial ⟨rfl, rfl, rfl⟩

theorem Tryz.Fail_w (s : ByteArray) (a0 : Nat) (f e : Int) (b : Nat) (w : World) (hown : Own [(b, 122, rdr s a0 f)] [] w) :
    FunU Tryz.prog 115 [.pointer (some ⟨b, 0, none⟩), .int .i64 e] w (.tuple #[]) (b, 122, rdr s a0 (if f = 0 then e else f)) := by
  refine Tri.enter (bx := [(b, 122, rdr s a0 f)]) (hp := []) Tryz.func115 rfl (by kernel_rfl) rfl hown ?_
  refine At.run 100 true [] [] rfl trivial ?_
  refine At.step [] rfl rfl rfl rfl rfl trivial (OpOk.box rfl rfl rfl fun be hbe => ?_)
  refine At.run 100 true [] [] rfl (by (repeat' apply And.intro) <;> first | exact True.intro | omega | (simp only [inK]; omega) | (simp; done) | (simp; omega) | exact decide_eq_true (by omega) | exact decide_eq_false (by omega) | rfl | (simp [Value.oneCell']; done) | exact i64s_one _ | exact AggOk.mk (by kernel_rfl) (by kernel_rfl)) ?_
  refine At.perm (rot2 _ _) (List.Perm.refl _) ?_
  refine At.step [] rfl rfl rfl rfl rfl trivial (OpOk.callAll rfl (fun w' hw' => Tryz.guardN_w s a0 _ f _ _ b _ _ _ w' hw'.toOwn (fun _ => Tryz.fail1_w s a0 e b be w')) ?_)
  rintro v bx' hp' ⟨rfl, rfl, rfl⟩
  refine At.run 100 true [] [] rfl trivial ?_
  refine At.keep [true, false] [] rfl ?_
  refine At.ret [] rfl Tryz.func115 rfl trivial ⟨rfl, ?_, rfl⟩
  by_cases hf : f = 0
  · by_cases he : e = 0 <;> simp [hf, he]
  · simp [hf]

theorem Tryz.Fault_w (s : ByteArray) (a0 : Nat) (f : Int) (b : Nat) (w : World) (hb : w.heap[b]? = some (.cells (rdr s a0 f).toArray 122 (0, 0))) :
    Fun Tryz.prog 29 [.pointer (some ⟨b, 0, none⟩)] w (.int .i64 f) := by
  refine Tri.enter (bx := []) (hp := []) Tryz.func29 rfl (by kernel_rfl) rfl (Own.nil w) ?_
  refine At.run 100 true [false] [hR [.int .i64 f]] rfl ⟨RdW.blkB1 (by simp [kys]) hb rfl, rfl, trivial⟩ ?_
  exact At.ret [] rfl Tryz.func29 rfl trivial ⟨rfl, rfl, rfl⟩

theorem Tryz.Left_w (s : ByteArray) (a0 : Nat) (f : Int) (b : Nat) (w : World) (ha : a0 ≤ (bl s).length) (hlen : (bl s).length ≤ 9223372036854775807) (hb : w.heap[b]? = some (.cells (rdr s a0 f).toArray 122 (0, 0))) :
    Fun Tryz.prog 28 [.pointer (some ⟨b, 0, none⟩)] w (.int .i64 ((bl s).length - a0 : Nat)) := by
  refine Tri.enter (bx := []) (hp := []) Tryz.func28 rfl (by kernel_rfl) rfl (Own.nil w) ?_
  refine At.run 100 true [false] [] rfl (by (repeat' apply And.intro) <;> first | exact True.intro | omega | (simp only [inK]; omega) | (simp; done) | (simp; omega) | exact decide_eq_true (by omega) | exact decide_eq_false (by omega) | rfl | (simp [Value.oneCell']; done) | exact i64s_one _ | exact AggOk.mk (by kernel_rfl) (by kernel_rfl)) ?_
  refine At.quiet true [] [hR [.string s], hR [.int .i64 a0]] ⟨by kernel_rfl, by kernel_rfl, rfl, rfl, rfl⟩ rfl rfl rfl ⟨by simp only [inK]; omega, RdW.blkB1 (by simp [kys]) hb rfl, RdW.blkB1 (by simp [kys]) hb rfl, trivial⟩ ?_
  refine At.run 100 true [] [] rfl trivial ?_
  exact At.ret [] rfl Tryz.func28 rfl trivial ⟨int_eq (by omega), rfl, rfl⟩

theorem Tryz.Read_w (s : ByteArray) (w : World) :
    Tri Tryz.prog 26 [.string s] w [] (fun v bx hp => ∃ b, v = .pointer (some ⟨b, 0, none⟩) ∧ bx = [(b, 122, rdr s 0 0)] ∧ hp = []) := by
  refine Tri.enter (bx := []) (hp := []) Tryz.func26 rfl (by kernel_rfl) rfl (Own.nil w) ?_
  refine At.run 100 true [] [] rfl (by (repeat' apply And.intro) <;> first | exact True.intro | omega | (simp only [inK]; omega) | (simp; done) | (simp; omega) | exact decide_eq_true (by omega) | exact decide_eq_false (by omega) | rfl | (simp [Value.oneCell']; done) | exact i64s_one _ | exact AggOk.mk (by kernel_rfl) (by kernel_rfl)) ?_
  refine At.step [] rfl rfl rfl rfl rfl trivial (OpOk.box rfl rfl rfl fun b hb => ?_)
  refine At.run 100 true [] [] rfl (by (repeat' apply And.intro) <;> first | exact True.intro | omega | (simp only [inK]; omega) | (simp; done) | (simp; omega) | exact decide_eq_true (by omega) | exact decide_eq_false (by omega) | rfl | (simp [Value.oneCell']; done) | exact i64s_one _ | exact AggOk.mk (by kernel_rfl) (by kernel_rfl)) ?_
  exact At.ret [] rfl Tryz.func26 rfl trivial ⟨b, rfl, rfl, rfl⟩
end Go.Proofs

/-
  Walks of layer 9: the statements' own functions, and the document's example.
-/
import Derived.Test.YtfpoclhenokhhaaW47
import Derived.Test.YtfpoclhenokhhaaP6
namespace Go.Proofs
open Go Go.Eng
set_option maxRecDepth 100000
set_option maxHeartbeats 4000000
attribute [local irreducible] Tri

theorem Try.alive9d_w (i : Nat) (w : World) : Fun Try.prog 66 [.int .i64 i] w (.int .i64 i) := by
  refine Tri.enter (bx := []) (hp := []) Try.func66 rfl (by kernel_rfl) rfl (Own.nil w) ?_
  refine At.run 100 true [] [] rfl (by (repeat' apply And.intro) <;> first | exact True.intro | omega | (simp only [inK]; omega) | (simp; done) | (simp; omega) | exact decide_eq_true (by omega) | exact decide_eq_false (by omega) | rfl | (simp [Value.oneCell']; done) | exact i64s_one _ | exact AggOk.mk (by kernel_rfl) (by kernel_rfl)) ?_
  exact At.retK [] [] [] rfl rfl Try.func66 rfl trivial ⟨rfl, rfl, rfl⟩

theorem WOk.nilBoxes {S : Base} {bx : Bx} {hp : List Seg} {w : World} (h : WOk S bx hp w) : WOk S bx (Try.boxesS [] :: hp) w :=
  WOk.packS (bx1 := []) (by rw [List.append_nil]; exact h)

theorem Try.alive9_w (w : World) : Fun Try.prog 18 [] w (.bool true) := by
  refine Tri.enter (bx := []) (hp := []) Try.func18 rfl (by kernel_rfl) rfl (Own.nil w) ?_
  refine At.run 100 true [] [] rfl (by (repeat' apply And.intro) <;> first | exact True.intro | omega | (simp only [inK]; omega) | (simp; done) | (simp; omega) | exact decide_eq_true (by omega) | exact decide_eq_false (by omega) | rfl | (simp [Value.oneCell']; done) | exact i64s_one _ | exact AggOk.mk (by kernel_rfl) (by kernel_rfl)) ?_
  refine At.step [] rfl rfl rfl rfl rfl trivial (OpOk.call rfl (fun w' _ => Try.New_w 9 w') ?_)
  intro v bx' hp' hR
  unfold Try.OfR at hR
  rw [if_neg (by decide), if_neg (by decide)] at hR
  obtain ⟨d, bs, bk, FS, FK, rfl, rfl, rfl, h1, h2⟩ := hR
  obtain rfl : FS = [] := List.map_eq_nil_iff.1 h1
  obtain rfl : FK = [] := List.map_eq_nil_iff.1 h2.eq_nil
  refine At.run 100 true [false, false] [] rfl (by (repeat' apply And.intro) <;> first | exact True.intro | omega | (simp only [inK]; omega) | (simp; done) | (simp; omega) | exact decide_eq_true (by omega) | exact decide_eq_false (by omega) | rfl | (simp [Value.oneCell']; done) | exact i64s_one _ | exact AggOk.mk (by kernel_rfl) (by kernel_rfl)) ?_
  refine At.nilRow 119 2 ?_
  refine At.reshape (fun w' hw' => WOk.nilBoxes hw') ?_
  refine At.order [] [2, 1, 2, 3] rfl rfl ?_
  refine At.step [] rfl rfl rfl rfl rfl trivial (OpOk.callO [true] [true, true, true] rfl rfl (fun w' hw' ho => Try.DWrite_w d 9 bs (.map (some bk)) none 0 [] [] [97] 0 [120, 121, 122] w' ho (by decide) (by decide) (by simp) (by decide) (by decide) (by decide) (by simp [inK])) ?_)
  rintro v bx' hp' ⟨rfl, hS⟩
  have e1 : wrE 9 [] [97] 0 [120, 121, 122] = 0 := by decide
  rw [e1] at hS ⊢
  rw [if_neg (by decide)] at hS
  obtain ⟨a1, p1, g1, c1, b1, b2, b3, rfl, rfl⟩ := hS
  refine At.run 100 true [] [] rfl (by (repeat' apply And.intro) <;> first | exact True.intro | omega | (simp only [inK]; omega) | (simp; done) | (simp; omega) | exact decide_eq_true (by omega) | exact decide_eq_false (by omega) | rfl | (simp [Value.oneCell']; done) | exact i64s_one _ | exact AggOk.mk (by kernel_rfl) (by kernel_rfl)) ?_
  have e2 : putF [] ⟨[97], wrB (bytesF [] [97]) (Int.toNat 0) [120, 121, 122], g1, c1⟩ = [⟨[97], [120, 121, 122], g1, c1⟩] := rfl
  rw [e2]
  refine At.step [] rfl rfl rfl rfl rfl trivial (OpOk.callO [true] [true, true, true] rfl rfl (fun w' hw' ho => Try.DWrite_w d 9 bs (.map (some bk)) a1 p1 [⟨[97], [120, 121, 122], g1, c1⟩] [⟨[97], 0, [120, 121, 122], b1, b2, b3⟩] [97] 3 [112, 113] w' ho (by decide) (by simp [usedF]) (by simp) (by simp) (by decide) (by decide) (by simp [inK])) ?_)
  rintro v bx' hp' ⟨rfl, hS⟩
  have e3 : wrE 9 [⟨[97], [120, 121, 122], g1, c1⟩] [97] 3 [112, 113] = 0 := rfl
  rw [e3] at hS ⊢
  rw [if_neg (by decide)] at hS
  obtain ⟨a2, p2, g2, c2, b4, b5, b6, rfl, rfl⟩ := hS
  refine At.run 100 true [] [] rfl (by (repeat' apply And.intro) <;> first | exact True.intro | omega | (simp only [inK]; omega) | (simp; done) | (simp; omega) | exact decide_eq_true (by omega) | exact decide_eq_false (by omega) | rfl | (simp [Value.oneCell']; done) | exact i64s_one _ | exact AggOk.mk (by kernel_rfl) (by kernel_rfl)) ?_
  refine At.order [] [2, 2, 3] rfl rfl ?_
  refine At.step [] rfl rfl rfl rfl rfl trivial (OpOk.callO [true] [true, true, true] rfl rfl (fun w' hw' ho => Try.Crash_w d 9 bs bk a2 p2 [] [⟨[97], 0, [120, 121, 122], b1, b2, b3⟩, ⟨[97], 3, [112, 113], b4, b5, b6⟩] 66 [] (fun i => i) w' ho (fun i w'' _ _ => Try.alive9d_w i w'') (by intro p hp; simp [nbs] at hp) (by simp) (by simp)) ?_)
  rintro v bx' hp' ⟨rfl, b7, F3, F2, rfl, rfl, hF2, hF3, -⟩
  have e4 : crashN (nbs []) ([(⟨[97], 0, [120, 121, 122], b1, b2, b3⟩ : PendE), ⟨[97], 3, [112, 113], b4, b5, b6⟩].map PendE.wn) (fun i => (i : Int)) 0 = [([97], [0, 0, 0, 112])] := rfl
  rw [e4] at hF2
  rw [hF2] at hF3
  have hF3' := List.perm_singleton.1 hF3
  have hby : bytesF F3 [97] = [0, 0, 0, 112] := by rw [← readN_nbs, hF3']; rfl
  have hne : ∀ f, f ∈ F3 → 0 < f.bytes.length := by
    intro f hf
    have := mem_nbs hf
    rw [hF3'] at this
    simp only [List.mem_singleton, Prod.mk.injEq] at this
    rw [this.2]; decide
  have hRd : ∀ {hp : List Seg}, CallOb Try.prog ⟨w, kys [] []⟩ ([(d, 112, dkV 9 b7 (.map (some bk)) (.slice none 0 0))] ++ []) (Seg.files 5 b7 F3 :: hp) 23 [.pointer (some ⟨d, 0, none⟩), str [97]] (str [0, 0, 0, 112]) := fun {_} w' hw' => by
    rw [← hby]
    exact Try.DRead_w d 9 b7 (.map (some bk)) (.slice none 0 0) F3 [97] w' (hw'.bx (d, 112, dkV 9 b7 (.map (some bk)) (.slice none 0 0)) (by simp)) (hw'.files (by simp)) hne
  refine At.run 100 true [true, true] [hC (str [0, 0, 0, 112])] rfl (by (repeat' apply And.intro) <;> first | exact hRd | exact True.intro | omega | rfl | (simp only [inK]; omega) | exact decide_eq_true (by omega) | exact decide_eq_false (by omega) | (simp; done) | (simp; omega) | (simp [Value.oneCell']; done) | exact i64s_one _ | exact AggOk.mk (by kernel_rfl) (by kernel_rfl)) ?_
  refine At.keep [] [] rfl ?_
  exact At.ret [] rfl Try.func18 rfl trivial ⟨rfl, rfl, rfl⟩

/-- How many bytes are chosen. -/
def keepN (xs : List Int) (i : Nat) : Int := match xs[i]? with
  | some x => x
  | none => 1073741824

theorem Try.Keep1_w (xs : List Int) (a : Option Addr) (cap i b : Nat) (w : World) (hb : w.heap[b]? = some (.cells ([.slice a xs.length cap] : List Value).toArray 40 (0, 0))) (hrow : SlOk w a (i64s xs)) (hl : xs.length ≤ 9223372036854775807) :
    Fun Try.prog 72 [.int .i64 i, .pointer (some ⟨b, 0, none⟩)] w (.int .i64 (keepN xs i)) := by
  refine Tri.enter (bx := []) (hp := []) Try.func72 rfl (by kernel_rfl) rfl (Own.nil w) ?_
  have rb : ∀ {bx : Bx} {hp : List Seg}, RdW ⟨w, kys [] []⟩ bx hp b 0 [.slice a xs.length cap] := fun {_ _} => RdW.blkB1 (by simp [kys]) hb rfl
  by_cases hi : i < xs.length
  · obtain ⟨x, hx⟩ : ∃ x, xs[i]? = some x := ⟨_, List.getElem?_eq_getElem hi⟩
    have hk : keepN xs i = x := by simp [keepN, hx]
    have hne : i64s xs ≠ [] := by intro h; have := congrArg List.length h; rw [i64s_len] at this; change xs.length = 0 at this; omega
    obtain ⟨g, o, rfl, hc⟩ := hrow.get hne
    have rx : ∀ {bx : Bx} {hp : List Seg}, RdW ⟨w, kys [] []⟩ bx hp g (o + (i : Int).toNat * 1) [.int .i64 x] := fun {_ _} => RdW.sl hc (by simp [kys]) i (by omega) (fun j u hu => by
      match j, hu with
      | 0, hu => simp at hu; subst hu; simpa using i64s_get hx)
    refine At.run 100 true [true] [hR [.slice (some ⟨g, o, none⟩) xs.length cap], hR [.slice (some ⟨g, o, none⟩) xs.length cap], hR [.int .i64 x]] rfl (by (repeat' apply And.intro) <;> first | exact rb | exact rx | exact True.intro | omega | rfl | (simp only [inK]; omega) | exact decide_eq_true (by omega) | exact decide_eq_false (by omega) | (simp; done) | (simp; omega) | (simp [Value.oneCell']; done) | exact i64s_one _ | exact AggOk.mk (by kernel_rfl) (by kernel_rfl)) ?_
    exact At.retK [] [] [] rfl rfl Try.func72 rfl trivial ⟨by rw [hk]; rfl, rfl, rfl⟩
  · have hk : keepN xs i = 1073741824 := by simp [keepN, List.getElem?_eq_none (show xs.length ≤ i by omega)]
    refine At.run 100 true [false] [hR [.slice a xs.length cap]] rfl (by (repeat' apply And.intro) <;> first | exact rb | exact True.intro | omega | rfl | (simp only [inK]; omega) | exact decide_eq_true (by omega) | exact decide_eq_false (by omega) | (simp; done) | (simp; omega) | (simp [Value.oneCell']; done) | exact i64s_one _ | exact AggOk.mk (by kernel_rfl) (by kernel_rfl)) ?_
    exact At.retK [] [] [] rfl rfl Try.func72 rfl trivial ⟨by rw [hk]; rfl, rfl, rfl⟩

theorem Try.Keep_w (v0 : Value) (w : World) (h1 : v0.oneCell' = true) (h2 : ∃ a n c, v0 = .slice a n c) : Tri Try.prog 25 [v0] w [] (fun v bx hp => ∃ b, v = .func (.func 72) ⟨[]⟩ ⟨[.pointer (some ⟨b, 0, none⟩)]⟩ ∧ bx = [(b, 40, [v0])] ∧ hp = []) := by
  obtain ⟨a, n, c, rfl⟩ := h2
  refine Tri.enter (bx := []) (hp := []) Try.func25 rfl (by kernel_rfl) rfl (Own.nil w) ?_
  refine At.run 100 true [] [] rfl trivial ?_
  refine At.step [] rfl rfl rfl rfl rfl trivial (OpOk.box rfl rfl rfl fun b hb => ?_)
  refine At.run 100 true [] [] rfl (by (repeat' apply And.intro) <;> first | exact True.intro | omega | (simp only [inK]; omega) | (simp; done) | (simp; omega) | exact decide_eq_true (by omega) | exact decide_eq_false (by omega) | rfl | (simp [Value.oneCell']; done) | exact i64s_one _ | exact AggOk.mk (by kernel_rfl) (by kernel_rfl)) ?_
  exact At.ret [] rfl Try.func25 rfl trivial ⟨b, rfl, rfl, rfl⟩

theorem Try.none9_w (n : List UInt8) (at0 : Int) (s : List UInt8) (w : World) : Fun Try.prog 9 [str n, .int .i64 at0, str s] w (.bool true) := by
  refine Tri.enter (bx := []) (hp := []) Try.func9 rfl (by kernel_rfl) rfl (Own.nil w) ?_
  have hA : ∀ {bx : Bx} {hp : List Seg}, CallOb Try.prog ⟨w, kys [] []⟩ bx hp 18 [] (.bool true) := fun {_ _} w' hw' => Try.alive9_w w'
  refine At.run 200 true [false, true, true, true, true, true, true, true, true, true] [hC (.bool true), hC (.int .i64 1), hC (.int .i64 1), hC (.int .i64 1), hC (str []), hC (.slice none 0 0), hC (.slice none 0 0), hC (.int .i64 0), hC (.int .i64 0), hC (.int .i64 0)] rfl (by (repeat' apply And.intro) <;> first | exact hA | exact fun w' _ => Try.Write0_w _ _ _ w' | exact fun w' _ => Try.Sync0_w w' | exact fun w' _ => Try.Cut0_w _ _ w' | exact fun w' _ => Try.DRead0_w _ w' | exact fun w' _ => Try.Files0_w w' | exact fun w' _ => Try.Kept0_w w' | exact fun w' _ => Try.Used0_w w' | exact fun w' _ => Try.Room0_w w' | exact fun w' _ => Try.Pending0_w w' | exact True.intro | omega | rfl | (simp only [inK]; omega) | exact decide_eq_true (by omega) | exact decide_eq_false (by omega) | (simp; done) | (simp; omega) | (simp [Value.oneCell']; done) | exact i64s_one _ | exact AggOk.mk (by kernel_rfl) (by kernel_rfl)) ?_
  refine At.step [true] rfl rfl rfl rfl rfl rfl (OpOk.call rfl (fun w' _ => Try.Keep_w (.slice none 0 0) w' rfl ⟨_, _, _, rfl⟩) ?_)
  rintro v bx' hp' ⟨b, rfl, rfl, rfl⟩
  refine At.run 100 true [true] [hC (.int .i64 1)] rfl (by (repeat' apply And.intro) <;> first | exact fun w' _ => Try.Crash0_w _ w' | exact True.intro | omega | rfl | (simp only [inK]; omega) | exact decide_eq_true (by omega) | exact decide_eq_false (by omega) | (simp; done) | (simp; omega) | (simp [Value.oneCell']; done) | exact i64s_one _ | exact AggOk.mk (by kernel_rfl) (by kernel_rfl)) ?_
  refine At.keep [] [] rfl ?_
  exact At.ret [] rfl Try.func9 rfl trivial ⟨rfl, rfl, rfl⟩

end Go.Proofs

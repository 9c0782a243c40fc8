/-
  Walk of the statement ImageSnapshots.
-/
import Derived.Test.YthmoeebmeifleaaGreatDoorM15
import Derived.Test.YthmoeebmeifleaaGreatDoorM7
import Derived.Test.YthmoeebmeifleaaGreatDoorM40
import Derived.Test.YthmoeebmeifleaaGreatDoorM34
import Derived.Test.YthmoeebmeifleaaGreatDoorM20
/-
  Walk of the statement ImageSnapshots.
-/
namespace Go.Proofs
open Go Go.Eng
set_option maxRecDepth 100000
set_option maxHeartbeats 4000000
attribute [local irreducible] Tri

theorem getBk_zero' (s : List UInt8) (h : (getBk s).2 ≠ 0) : (getBk s).1 = zeroBk := by
  unfold getBk at h ⊢
  split
  · rfl
  · rename_i h1
    rw [if_neg h1] at h
    simp only at h ⊢
    split
    · rfl
    · rename_i h2
      rw [if_neg h2] at h
      split
      · rfl
      · rename_i h3
        rw [if_neg h3] at h
        split
        · rfl
        · rename_i h4
          rw [if_neg h4] at h
          split
          · rfl
          · rename_i h5
            rw [if_neg h5] at h
            split
            · rename_i h6; rw [if_pos h6] at h; exact (h rfl).elim
            · rfl
theorem zeroBk_in' : BkIn zeroBk := ⟨fun x hx => by simp [zeroBk] at hx, fun x hx => by simp [zeroBk] at hx, fun x hx => by simp [zeroBk] at hx, fun x hx => by simp [zeroBk] at hx, by simp [zeroBk], by simp [zeroBk], by simp [zeroBk], by simp [zeroBk], by simp [zeroBk, inK]⟩
theorem getBk_in' (s : List UInt8) : BkIn (getBk s).1 := by
  by_cases h : (getBk s).2 = 0
  · exact (getBk_get (Prod.ext rfl h)).2.2.1
  · rw [getBk_zero' s h]; exact zeroBk_in'
theorem snapF_in (S : FL) (n : Int) : BkIn (snapF S n).1 := by
  unfold snapF
  split
  · exact zeroBk_in'
  · split
    · exact zeroBk_in'
    · split
      · exact zeroBk_in'
      · exact getBk_in' _
theorem Tryz.imageSnapshots_w (S : FL) (n : Int) (a : Option Addr) (cap : Nat) (w : World) (hlen : S.length ≤ 9223372036854775807) (hrow : SlOk w a (fl S)) (hns : ∀ p, p ∈ S → p.1.length ≤ 9223372036854775807 ∧ p.2.length ≤ 9223372036854775807) (hn : inK .i64 n) (hT : Tryz.Pow w) :
    Fun Tryz.prog 4 [.slice a S.length cap, .int .i64 n] w (.bool true) := by
  refine Tri.enter (bx := []) (hp := []) Tryz.func4 rfl (by kernel_rfl) rfl (Own.nil w) ?_
  have fA : ∀ {bx : Bx} {hp : List Seg}, CallOb Tryz.prog ⟨w, kys [] []⟩ bx hp 14 [] (.bool true) := fun {_ _} w' hw' => Tryz.alive21_w w' (tab_ext hT hw'.ext)
  obtain ⟨gr, hgr⟩ : ∃ gr, greatF S = gr := ⟨_, rfl⟩
  have fG : ∀ {bx : Bx} {hp : List Seg}, CallOb Tryz.prog ⟨w, kys [] []⟩ bx hp 15 [.slice a S.length cap] (.bool gr) := fun {_ _} w' hw' => by
    rw [← hgr]; exact Tryz.great09_w S a cap w' hlen (hrow.ext hw'.ext (by simp [kys])) hns
  cases gr with
  | true =>
    refine At.go [false, true] [hC (.bool true), hC (.bool true)] rfl (by and_intros <;> first | exact fA | exact fG | exact oK) ?_
    refine At.rt [] [] [] Tryz.func4 ?_
    exact ⟨rfl, rfl, rfl⟩
  | false =>
    obtain ⟨h60, hS⟩ := greatF_lens hgr
    refine At.go [false, false] [hC (.bool true), hC (.bool false)] rfl (by and_intros <;> first | exact fA | exact fG | exact oK) ?_
    refine At.step [] rfl rfl rfl rfl rfl trivial (OpOk.call rfl (fun w' hw' => Tryz.imSnapshots_w S a cap w' h60 (hrow.ext hw'.ext (by simp [kys])) fun p hp => (hns p hp).1) ?_)
    rintro _ _ _ ⟨g1, k1, rfl, rfl, rfl⟩
    refine At.go [] [] rfl (by and_intros <;> first | exact trivial | exact oK) ?_
    refine At.step [] rfl rfl rfl rfl rfl trivial (OpOk.call rfl (fun w' hw' => Tryz.rfSnapshots_w S a cap w' h60 (hrow.ext hw'.ext (by simp [kys])) fun p hp => (hns p hp).1) ?_)
    rintro _ _ _ ⟨g2, k2, rfl, rfl, rfl⟩
    have hnl := numsF_len 2 S
    generalize numsF 2 S = D at hnl
    refine At.go [false] [] rfl (by and_intros <;> first | (simp; done) | exact oK) ?_
    refine At.loop (env0 := [(0, .slice a (List.length S) cap), (1, .int .i64 n), (5, .slice (svA g1) D.length k1), (6, .slice (svA g2) D.length k2), (7, .int .i64 0)]) (fun m_ env bx hp => ∃ (i : Nat), m_ = D.length - i ∧ (i ≤ D.length) ∧ env = [(0, .slice a (List.length S) cap), (1, .int .i64 n), (5, .slice (svA g1) D.length k1), (6, .slice (svA g2) D.length k2), (7, .int .i64 i)] ∧ bx = [] ∧ hp = [Seg.row g2 3 1 D.length k2 (i64s D), Seg.row g1 3 1 D.length k1 (i64s D)]) rfl
      ⟨0, rfl, (by omega), rfl, rfl, rfl⟩ sB ?_
    rintro m_ env bx hp ⟨i, rfl, hi, rfl, rfl, rfl⟩ ih
    by_cases hlt : i < D.length
    · obtain ⟨x, hx⟩ : ∃ x, D[i]? = some x := ⟨_, List.getElem?_eq_getElem hlt⟩
      refine At.rowSome 0 rfl (by omega) fun q2 hq => ?_
      subst hq
      refine At.rowSome 1 rfl (by omega) fun q1 hq => ?_
      subst hq
      have r : ∀ {bx : Bx} {hp : List Seg} (m q cc : Nat), nth hp m = some (Seg.row (some q) 3 1 D.length cc (i64s D)) → RdW ⟨w, kys [] []⟩ bx hp q (0 + (i : Int).toNat * 1) [.int .i64 x] := fun {_ _} m q cc e => RdW.row1 e (i := i) (by rw [i64s, List.getElem?_map, hx]; rfl) (by omega)
      refine At.go [true] [] rfl (by and_intros <;> first | exact r 0 _ _ rfl | exact r 1 _ _ rfl | (simp; done) | exact decide_eq_true (by omega) | exact oK) ?_
      refine At.qt [] [hR [.int .i64 x], hR [.int .i64 x]] rfl rfl (by and_intros <;> first | exact r 0 _ _ rfl | exact r 1 _ _ rfl | (simp; done) | exact decide_eq_true (by omega) | exact oK) ?_
      refine At.go [false] [] rfl (by and_intros <;> first | exact r 0 _ _ rfl | exact r 1 _ _ rfl | (simp; done) | exact decide_eq_true (by omega) | exact oK) ?_
      exact At.weak (ih _ _ _ _ (by omega) ⟨i + 1, rfl, by omega, rfl, rfl, rfl⟩) sB
    · refine At.go [false] [] rfl (by and_intros <;> first | exact decide_eq_false (by omega) | exact oK) ?_
      refine At.step [] rfl rfl rfl rfl rfl trivial (OpOk.call rfl (fun w' hw' => Tryz.imSnapshot_w S n a cap w' h60 hS (hrow.ext hw'.ext (by simp [kys])) hn (tab_ext hT hw'.ext)) ?_)
      rintro _ _ _ ⟨G, rfl, rfl, rfl⟩
      refine At.go [] [] rfl (by and_intros <;> first | (simp; done) | exact oK) ?_
      refine At.al fun b8 hb8 => ?_
      refine At.go [] [hB 0] rfl (by and_intros <;> first | (simp [Value.oneCell', bkV]; done) | exact oK) ?_
      refine At.step [] rfl rfl rfl rfl rfl trivial (OpOk.call rfl (fun w' hw' => Tryz.rfSnapshot_w S n a cap w' h60 hS (hrow.ext hw'.ext (by simp [kys]))) ?_)
      rintro _ _ _ ⟨G2, rfl, rfl, rfl⟩
      have hin := snapF_in S n
      generalize snapF S n = B at hin
      have fS : ∀ {bx : Bx} {X : List Seg}, CallOb Tryz.prog ⟨w, kys [] []⟩ bx (Tryz.bkRows B.1 G2 ++ (Tryz.bkRows B.1 G ++ X)) 20 [.agg ⟨bkV B.1 G.A⟩, .agg ⟨bkV B.1 G2.A⟩] (.bool true) := fun {_ _} w' hw' => by
        have := Tryz.rSame_w B.1 B.1 G.A G2.A w' hin hin (Tryz.bkRows_ok hw' (fun s hs => by simp [hs])) (Tryz.bkRows_ok hw' (fun s hs => by simp [hs]))
        rwa [show sameB B.1 B.1 = true by simp [sameB]] at this
      refine At.go [] [] rfl (by and_intros <;> first | exact fS | (simp; done) | (simp; done) | exact oK) ?_
      refine At.al fun b10 hb10 => ?_
      refine At.go [true] [hB 0, hB 1, hB 0, hC (.bool true)] rfl (by and_intros <;> first | exact fS | (simp [Value.oneCell', bkV]; done) | (simp; done) | exact oK) ?_
      refine At.rt [] [] [] Tryz.func4 ?_
      exact ⟨rfl, rfl, rfl⟩
end Go.Proofs

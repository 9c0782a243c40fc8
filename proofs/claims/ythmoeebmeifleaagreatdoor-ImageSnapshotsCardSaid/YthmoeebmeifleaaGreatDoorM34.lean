/-
  Walks: lists of strings alike; the statement's example of layer 21.
-/
import Derived.Test.YthmoeebmeifleaaGreatDoorM15
import Derived.Test.YthmoeebmeifleaaGreatDoorM7
import Derived.Test.YthmoeebmeifleaaGreatDoorM26
import Derived.Test.YthmoeebmeifleaaGreatDoorM32
import Derived.Test.YthmoeebmeifleaaGreatDoorM33
/-
  Walks: lists of strings alike; the statement's example of layer 21.
-/
namespace Go.Proofs
open Go Go.Eng
set_option maxRecDepth 100000
set_option maxHeartbeats 4000000
attribute [local irreducible] Tri

theorem same_no {A B : List (List UInt8)} (hl : A.length = B.length) (h : ∀ j, j < A.length → A[j]? = B[j]?) : A = B := by
  apply List.ext_getElem?
  intro j
  by_cases hj : j < A.length
  · exact h j hj
  · rw [List.getElem?_eq_none (by omega), List.getElem?_eq_none (by omega)]
end Go.Proofs

/-
  Walk of the statement ImageReads.
-/
namespace Go.Proofs
open Go Go.Eng
set_option maxRecDepth 100000
set_option maxHeartbeats 4000000
attribute [local irreducible] Tri

theorem nm0 : nmB 115 0 = [115, 48] := by
  unfold nmB Lib.itoa
  rw [if_pos (by decide), if_neg (by decide), Lib.decDigits, dif_pos (by decide)]; rfl
def exS : FL := [([115, 48], [1, 97, 165])]
theorem ex_rows : frowsB [1, 97, 165] = [[97]] ∧ justB [1, 97, 165] = true := by decide
theorem ex_heads : headsF [] 4 = ([], true) := rfl
theorem ex_seg0 : segF [] 0 = ([], true) := by
  unfold segF; rw [nm0]; rfl
theorem ex_seg1 : segF exS 0 = ([[97]], true) := by
  unfold segF; rw [nm0]
  have e : readN exS [115, 48] = [1, 97, 165] := rfl
  rw [e, ex_rows.1, ex_rows.2]; rfl
theorem ex_last : lastF [] = -1 := by rw [lastF_max]; rfl
theorem Tryz.alive21_w (w : World) (hT : Tryz.Pow w) : Fun Tryz.prog 14 [] w (.bool true) := by
  have h0 : ∀ p, p ∈ ([] : FL) → p.2.length ≤ 6000 := fun p hp => by cases hp
  have hin : inK .i64 0 := by simp only [inK]; omega
  have fL : ∀ {bx : Bx} {hp : List Seg}, CallOb Tryz.prog ⟨w, kys [] []⟩ bx hp 36 [.slice none 0 0] (.int .i64 (-1)) := fun {_ _} w' _ => by
    have := Tryz.imLast_w [] none 0 w' (by decide) (.inl rfl) (fun p hp => by cases hp); rwa [ex_last] at this
  refine Tri.enter (bx := []) (hp := []) Tryz.func14 rfl (by kernel_rfl) rfl (Own.nil w) ?_
  refine At.go [] [] rfl (by and_intros <;> first | exact trivial | exact oK) ?_
  refine At.step [] rfl rfl rfl rfl rfl trivial (OpOk.call rfl (fun w' hw' => Tryz.imHeaders_w [] 0 4 0 0 none 0 w' (by decide) h0 (.inl rfl)) ?_)
  rintro _ _ _ ⟨g1, k1, rfl, rfl, rfl⟩
  rw [ex_heads]
  refine At.go [] [] rfl (by and_intros <;> first | exact trivial | exact oK) ?_
  refine At.step [] rfl rfl rfl rfl rfl trivial (OpOk.call rfl (fun w' hw' => Tryz.imSegment_w [] 0 none 0 w' (by decide) h0 (.inl rfl) hin (tab_ext hT hw'.ext)) ?_)
  rintro _ _ _ ⟨g2, k2, rfl, rfl, rfl⟩
  rw [ex_seg0]
  refine At.go [] [] rfl (by and_intros <;> first | exact trivial | exact oK) ?_
  refine At.st [] (OpOk.buildSlice rfl rfl rfl rfl rfl rfl rfl (fun bs hbs => ?_))
  skip
  refine At.step [] rfl rfl rfl rfl rfl trivial (OpOk.call rfl (fun w' hw' => Tryz.imSegment_w exS 0 (some ⟨bs, 0, none⟩) 1 w' (by decide) (fun p hp => by simp [exS] at hp; subst hp; decide) (SlOk.blk (hw'.bx _ (nth_mem (i := 0) rfl))) hin (tab_ext hT hw'.ext)) ?_)
  rintro _ _ _ ⟨g3, k3, rfl, rfl, rfl⟩
  rw [ex_seg1]
  refine At.rowSome 0 rfl (by decide) fun q hq => ?_
  subst hq
  have r : ∀ {bx : Bx} {hp : List Seg}, nth hp 0 = some (Seg.row (some q) 9 1 (([[97]], true) : List (List UInt8) × Bool).1.length k3 ((([[97]], true) : List (List UInt8) × Bool).1.map str)) → RdW ⟨w, kys [] []⟩ bx hp q (0 + Int.toNat 0 * 1) [str [97]] := fun {_ _} h => RdW.row1 h (i := 0) rfl rfl
  refine At.go [true, true, true, true, true, true, true] [hC (.int .i64 (-1)), hR [.string { data := #[97] }]] rfl (by and_intros <;> first | exact fL | exact r rfl | (simp; done) | exact oK) ?_
  refine At.rt [] [] [] Tryz.func14 ?_
  exact ⟨rfl, rfl, rfl⟩

theorem headsF_len {S : FL} {n : Int} (h : ∀ p, p ∈ S → p.2.length ≤ 6000) : (headsF S n).1.length ≤ 6000 := by
  unfold headsF
  split
  · have h1 := hsB_len n (frowsB (readN S headsB))
    have h2 := (scan_len (readN S headsB)).1
    have h3 := readF_len (n := headsB) h
    have h4 : (frowsB (readN S headsB)).length = (scan (readN S headsB)).length := by unfold frowsB; rw [List.length_map]
    simp only; omega
  · exact Nat.zero_le _
theorem segF_len {S : FL} {k : Int} (h : ∀ p, p ∈ S → p.2.length ≤ 6000) : (segF S k).1.length ≤ 6000 := by
  unfold segF
  split
  · exact Nat.zero_le _
  · have h2 := (scan_len (readN S (nmB 115 k))).1
    have h3 := readF_len (n := nmB 115 k) h
    have h4 : (frowsB (readN S (nmB 115 k))).length = (scan (readN S (nmB 115 k))).length := by unfold frowsB; rw [List.length_map]
    simp only; omega

end Go.Proofs

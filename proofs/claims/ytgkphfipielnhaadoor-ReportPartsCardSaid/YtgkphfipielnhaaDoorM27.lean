/-
  Walks of layer 28: the statement of parts.
-/
import Derived.Test.YtgkphfipielnhaaDoorM15
import Derived.Test.YtgkphfipielnhaaDoorM7
import Derived.Test.YtgkphfipielnhaaDoorM25
import Derived.Test.YtgkphfipielnhaaDoorM26
import Derived.Test.YtgkphfipielnhaaDoorM12
/-
  Walks of layer 28: the statement of parts.
-/
namespace Go.Proofs
open Go Go.Eng
set_option maxRecDepth 100000
set_option maxHeartbeats 4000000
attribute [local irreducible] Tri

theorem cntC_app (A B : List (List Int)) (c : Int) : cntC A A.length c + cntC B B.length c = cntC (A ++ B) (A ++ B).length c := by
  unfold cntC
  rw [List.take_length, List.take_length, List.take_length, List.filter_append, List.length_append]
  omega
theorem Tryd.parts28_w (A B : List (List Int)) (a b : Option Addr) (c d : Nat) (w : World) (pA : ∀ p, p ∈ A → PairOk p) (pB : ∀ p, p ∈ B → PairOk p) (hla : A.length ≤ 9223372036854775807) (hlb : B.length ≤ 9223372036854775807) (ha : SlOk w a (A.flatMap i64s)) (hb : SlOk w b (B.flatMap i64s)) (hW : Tryd.Rsn w) :
    Fun Tryd.prog 4 [.slice a A.length c, .slice b B.length d] w (.bool true) := by
  refine Tri.enter (bx := []) (hp := []) Tryd.func4 rfl (by kernel_rfl) rfl (Own.nil w) ?_
  have hAl : ∀ {bx : Bx} {hp : List Seg}, CallOb Tryd.prog ⟨w, kys [] []⟩ bx hp 10 [] (.bool true) := fun {_ _} w' hw' => Tryd.alive28_w w' (hW.ext hw'.ext (by simp [kys]))
  have h9a : ∀ p, p ∈ A → p.length = 9 := fun p hp => (pA p hp).1
  have h9b : ∀ p, p ∈ B → p.length = 9 := fun p hp => (pB p hp).1
  by_cases hg : 200 < A.length
  · refine At.go [false, true, true] [hC (.bool true)] rfl (by and_intros <;> first | exact hAl | (simp; omega) | exact oK) ?_
    refine At.rt [] [] [] Tryd.func4 ?_
    exact ⟨rfl, rfl, rfl⟩
  by_cases hg2 : 200 < B.length
  · refine At.go [false, false, true] [hC (.bool true)] rfl (by and_intros <;> first | exact hAl | (simp; omega) | exact oK) ?_
    refine At.rt [] [] [] Tryd.func4 ?_
    exact ⟨rfl, rfl, rfl⟩
  have hCa : ∀ {bx : Bx} {hp : List Seg}, CallOb Tryd.prog ⟨w, kys [] []⟩ bx hp 13 [.slice a A.length c] (.agg ⟨cdC A A.length⟩) := fun {_ _} w' hw' => Tryd.codes_w A a c w' h9a (by omega) (ha.ext hw'.ext (by simp [kys]))
  have hCb : ∀ {bx : Bx} {hp : List Seg}, CallOb Tryd.prog ⟨w, kys [] []⟩ bx hp 13 [.slice b B.length d] (.agg ⟨cdC B B.length⟩) := fun {_ _} w' hw' => Tryd.codes_w B b d w' h9b (by omega) (hb.ext hw'.ext (by simp [kys]))
  have h1 : ∀ {M : List (List Int)} v, v ∈ M.flatMap i64s → v.oneCell' = true := fun {M} v hv => by
    obtain ⟨p, -, hp⟩ := List.mem_flatMap.1 hv
    exact i64s_one p v hp
  have hfa := flat_len (f := i64s) (sz := 9) (l := A) fun x hx => by simp [i64s, h9a x hx]
  have hfb := flat_len (f := i64s) (sz := 9) (l := B) fun x hx => by simp [i64s, h9b x hx]
  refine At.go [false, false, false] [hC (.bool true), hC (.agg ⟨[.int .i64 (cntC A A.length ↑0), .int .i64 (cntC A A.length ↑1), .int .i64 (cntC A A.length ↑2), .int .i64 (cntC A A.length ↑3), .int .i64 (cntC A A.length ↑4), .int .i64 (cntC A A.length ↑5), .int .i64 (cntC A A.length ↑6), .int .i64 (cntC A A.length ↑7), .int .i64 (cntC A A.length ↑8), .int .i64 (cntC A A.length ↑9), .int .i64 (cntC A A.length ↑10), .int .i64 (cntC A A.length ↑11), .int .i64 (cntC A A.length ↑12), .int .i64 (cntC A A.length ↑13)]⟩), hC (.agg ⟨[.int .i64 (cntC B B.length ↑0), .int .i64 (cntC B B.length ↑1), .int .i64 (cntC B B.length ↑2), .int .i64 (cntC B B.length ↑3), .int .i64 (cntC B B.length ↑4), .int .i64 (cntC B B.length ↑5), .int .i64 (cntC B B.length ↑6), .int .i64 (cntC B B.length ↑7), .int .i64 (cntC B B.length ↑8), .int .i64 (cntC B B.length ↑9), .int .i64 (cntC B B.length ↑10), .int .i64 (cntC B B.length ↑11), .int .i64 (cntC B B.length ↑12), .int .i64 (cntC B B.length ↑13)]⟩)] rfl (by and_intros <;> first | exact hAl | exact hCa | exact hCb | (simp; omega) | exact oK) ?_
  refine At.step [] rfl rfl rfl rfl rfl trivial (OpOk.buildNil rfl rfl rfl fun g hg => ?_)
  refine At.go [] [] rfl oK ?_
  refine At.step [] rfl rfl rfl rfl rfl trivial (OpOk.appendS 0 9 72 (A.flatMap i64s) rfl rfl rfl rfl rfl rfl rfl rfl (fun w' hw' => ha.ext hw'.ext (by simp [kys])) hfa h1 (by omega) (by omega) (fun a' c' => ?_))
  rw [Nat.zero_add, List.nil_append]
  refine At.go [] [] rfl oK ?_
  refine At.step [] rfl rfl rfl rfl rfl trivial (OpOk.appendS 0 9 72 (B.flatMap i64s) rfl rfl rfl rfl rfl rfl rfl rfl (fun w' hw' => hb.ext hw'.ext (by simp [kys])) hfb h1 (by omega) (by omega) (fun a2 c2 => ?_))
  rw [← List.length_append, ← List.flatMap_append]
  have hCc : ∀ {bx : Bx} {hp : List Seg}, nth hp 0 = some (Seg.row a2 74 9 (A ++ B).length c2 ((A ++ B).flatMap i64s)) → CallOb Tryd.prog ⟨w, kys [] []⟩ bx hp 13 [.slice (svA a2) (A ++ B).length c2] (.agg ⟨cdC (A ++ B) (A ++ B).length⟩) := fun {_ _} h w' hw' => Tryd.codes_w (A ++ B) _ c2 w' (fun p hp => by
      rcases List.mem_append.1 hp with hp | hp
      · exact h9a p hp
      · exact h9b p hp) (by rw [List.length_append]; omega) (SlOk.row (hw'.hp _ (nth_mem h)))
  refine At.go [] [hC (.agg ⟨[.int .i64 (cntC (A ++ B) (A ++ B).length ↑0), .int .i64 (cntC (A ++ B) (A ++ B).length ↑1), .int .i64 (cntC (A ++ B) (A ++ B).length ↑2), .int .i64 (cntC (A ++ B) (A ++ B).length ↑3), .int .i64 (cntC (A ++ B) (A ++ B).length ↑4), .int .i64 (cntC (A ++ B) (A ++ B).length ↑5), .int .i64 (cntC (A ++ B) (A ++ B).length ↑6), .int .i64 (cntC (A ++ B) (A ++ B).length ↑7), .int .i64 (cntC (A ++ B) (A ++ B).length ↑8), .int .i64 (cntC (A ++ B) (A ++ B).length ↑9), .int .i64 (cntC (A ++ B) (A ++ B).length ↑10), .int .i64 (cntC (A ++ B) (A ++ B).length ↑11), .int .i64 (cntC (A ++ B) (A ++ B).length ↑12), .int .i64 (cntC (A ++ B) (A ++ B).length ↑13)]⟩)] rfl (by and_intros <;> first | exact hCc rfl | exact oK) ?_
  refine At.al fun b5 hb5 => ?_
  refine At.al fun b6 hb6 => ?_
  refine At.al fun b7 hb7 => ?_
  refine At.go [] [hB 2, hB 1, hB 0] rfl (by and_intros <;> first | exact hCc rfl | exact oK) ?_
  refine At.loop (env0 := [(5, .pointer (some ⟨b5, 0, none⟩)), (6, .pointer (some ⟨b6, 0, none⟩)), (7, .pointer (some ⟨b7, 0, none⟩)), (8, .int .i64 0)]) (fun m_ env bx hp => ∃ (i : Nat), m_ = 14 - i ∧ (i ≤ 14) ∧ env = [(5, .pointer (some ⟨b5, 0, none⟩)), (6, .pointer (some ⟨b6, 0, none⟩)), (7, .pointer (some ⟨b7, 0, none⟩)), (8, .int .i64 i)] ∧ bx = [(b7, 32, [.int .i64 (cntC (A ++ B) (A ++ B).length 0), .int .i64 (cntC (A ++ B) (A ++ B).length 1), .int .i64 (cntC (A ++ B) (A ++ B).length 2), .int .i64 (cntC (A ++ B) (A ++ B).length 3), .int .i64 (cntC (A ++ B) (A ++ B).length 4), .int .i64 (cntC (A ++ B) (A ++ B).length 5), .int .i64 (cntC (A ++ B) (A ++ B).length 6), .int .i64 (cntC (A ++ B) (A ++ B).length 7), .int .i64 (cntC (A ++ B) (A ++ B).length 8), .int .i64 (cntC (A ++ B) (A ++ B).length 9), .int .i64 (cntC (A ++ B) (A ++ B).length 10), .int .i64 (cntC (A ++ B) (A ++ B).length 11), .int .i64 (cntC (A ++ B) (A ++ B).length 12), .int .i64 (cntC (A ++ B) (A ++ B).length 13)]), (b6, 32, [.int .i64 (cntC B B.length 0), .int .i64 (cntC B B.length 1), .int .i64 (cntC B B.length 2), .int .i64 (cntC B B.length 3), .int .i64 (cntC B B.length 4), .int .i64 (cntC B B.length 5), .int .i64 (cntC B B.length 6), .int .i64 (cntC B B.length 7), .int .i64 (cntC B B.length 8), .int .i64 (cntC B B.length 9), .int .i64 (cntC B B.length 10), .int .i64 (cntC B B.length 11), .int .i64 (cntC B B.length 12), .int .i64 (cntC B B.length 13)]), (b5, 32, [.int .i64 (cntC A A.length 0), .int .i64 (cntC A A.length 1), .int .i64 (cntC A A.length 2), .int .i64 (cntC A A.length 3), .int .i64 (cntC A A.length 4), .int .i64 (cntC A A.length 5), .int .i64 (cntC A A.length 6), .int .i64 (cntC A A.length 7), .int .i64 (cntC A A.length 8), .int .i64 (cntC A A.length 9), .int .i64 (cntC A A.length 10), .int .i64 (cntC A A.length 11), .int .i64 (cntC A A.length 12), .int .i64 (cntC A A.length 13)])] ∧ hp = [Seg.row a2 74 9 (A ++ B).length c2 (List.flatMap i64s (A ++ B))]) rfl
    ⟨0, rfl, (by omega), rfl, rfl, rfl⟩ sB ?_
  rintro m_ env bx hp ⟨i, rfl, hi, rfl, rfl, rfl⟩ ih
  by_cases hlt : i < 14
  · have hx := cntC_le A A.length i
    have hy := cntC_le B B.length i
    have hz := cntC_app A B i
    have rd : ∀ {bx : Bx} {hp : List Seg} {M : List (List Int)} (k bb : Nat), nth bx k = some (bb, 32, cdC M M.length) → RdW ⟨w, kys [] []⟩ bx hp bb (0 + (i : Int).toNat * 1) [.int .i64 (cntC M M.length i)] := fun {_ _ _} k bb h => RdW.blk h fun j u hu => by
      match j, hu with
      | 0, hu => simp at hu; subst hu; rw [show 0 + (i : Int).toNat * 1 + 0 = i by omega]; exact cdC_get hlt
    refine At.go [true] [] rfl (by and_intros <;> first | exact rd (M := A) 2 b5 rfl | exact rd (M := B) 1 b6 rfl | exact rd (M := A ++ B) 0 b7 rfl | (simp only [hz, decide_true, Bool.not_true]; done) | (simp; omega) | exact oK) ?_
    refine At.qt [] [hR [.int .i64 (cntC A A.length ↑i)], hR [.int .i64 (cntC B B.length ↑i)], hR [.int .i64 (cntC (A ++ B) (A ++ B).length ↑i)]] rfl rfl (by and_intros <;> first | exact rd (M := A) 2 b5 rfl | exact rd (M := B) 1 b6 rfl | exact rd (M := A ++ B) 0 b7 rfl | (simp only [hz, decide_true, Bool.not_true]; done) | (simp; omega) | exact oK) ?_
    refine At.go [false] [] rfl (by and_intros <;> first | exact rd (M := A) 2 b5 rfl | exact rd (M := B) 1 b6 rfl | exact rd (M := A ++ B) 0 b7 rfl | (simp only [hz, decide_true, Bool.not_true]; done) | (simp; omega) | exact oK) ?_
    exact At.weak (ih _ _ _ _ (by omega) ⟨i + 1, rfl, by omega, rfl, rfl, rfl⟩) sB
  · refine At.go [false] [] rfl oK ?_
    refine At.rt [] [] [] Tryd.func4 ?_
    exact ⟨rfl, rfl, rfl⟩
end Go.Proofs

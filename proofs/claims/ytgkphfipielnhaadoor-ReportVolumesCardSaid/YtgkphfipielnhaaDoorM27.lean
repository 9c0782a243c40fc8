/-
  Walks of layer 28: the statement of volumes.
-/
import Derived.Test.YtgkphfipielnhaaDoorM15
import Derived.Test.YtgkphfipielnhaaDoorM7
import Derived.Test.YtgkphfipielnhaaDoorM25
import Derived.Test.YtgkphfipielnhaaDoorM26
/-
  Walks of layer 28: the statement of volumes.
-/
namespace Go.Proofs
open Go Go.Eng
set_option maxRecDepth 100000
set_option maxHeartbeats 4000000
attribute [local irreducible] Tri

theorem volCs_at {L : List (List Int)} {D : List Int} {i : Nat} {s : Int} (h : D[i]? = some s) (j : Nat) (u : Value) (hu : (vC (volR (cn L L.length) s))[j]? = some u) : (volCs L D)[i * 4 + j]? = some u :=
  flat_get (f := fun s => vC (volR (cn L L.length) s)) (sz := 4) (fun _ _ => rfl) h j u hu
theorem Tryd.volumes28_w (L : List (List Int)) (a : Option Addr) (c : Nat) (w : World) (hL : ∀ p, p ∈ L → PairOk p) (hl : L.length ≤ 9223372036854775807) (ha : SlOk w a (L.flatMap i64s)) (hW : Tryd.Rsn w) :
    Fun Tryd.prog 3 [.slice a L.length c] w (.bool true) := by
  refine Tri.enter (bx := []) (hp := []) Tryd.func3 rfl (by kernel_rfl) rfl (Own.nil w) ?_
  have hA : ∀ {bx : Bx} {hp : List Seg}, CallOb Tryd.prog ⟨w, kys [] []⟩ bx hp 10 [] (.bool true) := fun {_ _} w' hw' => Tryd.alive28_w w' (hW.ext hw'.ext (by simp [kys]))
  by_cases hg : 60 < L.length
  · refine At.go [false, true] [hC (.bool true)] rfl (by and_intros <;> first | exact hA | (simp; omega) | exact oK) ?_
    refine At.rt [] [] [] Tryd.func3 ?_
    exact ⟨rfl, rfl, rfl⟩
  · have h9 : ∀ p, p ∈ L → p.length = 9 := fun p hp => (hL p hp).1
    have hin : ∀ p, p ∈ L → ∀ x, x ∈ p → inK .i64 x := fun p hp => (hL p hp).2
    refine At.go [false, false] [hC (.bool true)] rfl (by and_intros <;> first | exact hA | (simp; omega) | exact oK) ?_
    refine At.st [] (OpOk.call rfl (fun w' hw' => Tryd.repVols_w L a c w' h9 hin (by omega) (ha.ext hw'.ext (by simp [kys]))) ?_)
    rintro _ _ _ ⟨D, a1, c1, rfl, rfl, rfl, hup, hmem⟩
    refine At.go [] [] rfl oK ?_
    refine At.st [] (OpOk.call rfl (fun w' hw' => Tryd.refVols_w L a c w' h9 hin (by omega) (ha.ext hw'.ext (by simp [kys]))) ?_)
    rintro _ _ _ ⟨D2, a2, c2, rfl, rfl, rfl, hup2, hmem2⟩
    have hDD : D2 = D := strictEq hup2 hup fun x => (hmem2 x).trans (hmem x).symm
    subst hDD
    have hDl : D2.length ≤ 60 := by
      have h1 := nodup_sub_len (hup.imp fun {a b} (h : a < b) => (show a ≠ b by omega)) fun x hx => (hmem x).1 hx
      have h2 := syms_len L L.length
      omega
    refine At.go [false] [] rfl oK ?_
    refine At.loop (env0 := [(3, .slice (svA a1) D2.length c1), (4, .slice (svA a2) D2.length c2), (5, .int .i64 0)]) (fun m_ env bx hp => ∃ (i : Nat), m_ = D2.length - i ∧ (i ≤ D2.length) ∧ env = [(3, .slice (svA a1) D2.length c1), (4, .slice (svA a2) D2.length c2), (5, .int .i64 i)] ∧ bx = [] ∧ hp = [Seg.row a2 30 4 D2.length c2 (volCs L D2), Seg.row a1 29 4 D2.length c1 (volCs L D2)]) rfl
      ⟨0, rfl, (by omega), rfl, rfl, rfl⟩ sB ?_
    rintro m_ env bx hp ⟨i, rfl, hi, rfl, rfl, rfl⟩ ih
    by_cases hlt : i < D2.length
    · obtain ⟨s, hs⟩ : ∃ s, D2[i]? = some s := ⟨_, List.getElem?_eq_getElem hlt⟩
      refine At.rowSome 0 rfl (by omega) fun g hg => ?_
      subst hg
      refine At.rowSome 1 rfl (by omega) fun g' hg' => ?_
      subst hg'
      have hv := volCs_at (L := L) hs
      obtain ⟨v1, v2, v3, v4, hve⟩ : ∃ v1 v2 v3 v4, volR (cn L L.length) s = (v1, v2, v3, v4) := ⟨_, _, _, _, rfl⟩
      rw [hve] at hv
      have r1 : ∀ {bx : Bx} {hp : List Seg}, nth hp 1 = some (Seg.row (some g') 29 4 D2.length c1 (volCs L D2)) → RdW ⟨w, kys [] []⟩ bx hp g' (0 + (i : Int).toNat * 4) [.int .i64 v1, .int .i64 v2, .int .i64 v3, .bool v4] := fun {_ _} h => RdW.row h fun j u hu => by rw [show 0 + (i : Int).toNat * 4 + j = i * 4 + j by omega]; exact hv j u hu
      have r2 : ∀ {bx : Bx} {hp : List Seg} (k : Nat) (u : Value), nth hp 0 = some (Seg.row (some g) 30 4 D2.length c2 (volCs L D2)) → (vC (v1, v2, v3, v4))[k]? = some u → RdW ⟨w, kys [] []⟩ bx hp g (0 + (i : Int).toNat * 4 + k) [u] := fun {_ _} k u h hu => RdW.rowS h (hv k u hu) (by omega)
      refine At.go [true] [] rfl (by and_intros <;> first | exact r1 rfl | exact r2 0 (.int .i64 v1) rfl rfl | exact r2 1 (.int .i64 v2) rfl rfl | exact r2 2 (.int .i64 v3) rfl rfl | exact r2 3 (.bool v4) rfl rfl | (simp; done) | exact oK) ?_
      refine At.qt [] [hR [.int .i64 v1, .int .i64 v2, .int .i64 v3, .bool v4], hR [.int .i64 v1], hR [.int .i64 v2], hR [.int .i64 v3], hR [.bool v4]] rfl rfl (by and_intros <;> first | exact r1 rfl | exact r2 0 (.int .i64 v1) rfl rfl | exact r2 1 (.int .i64 v2) rfl rfl | exact r2 2 (.int .i64 v3) rfl rfl | exact r2 3 (.bool v4) rfl rfl | (simp; done) | exact oK) ?_
      refine At.go [false] [] rfl (by and_intros <;> first | exact r1 rfl | exact r2 0 (.int .i64 v1) rfl rfl | exact r2 1 (.int .i64 v2) rfl rfl | exact r2 2 (.int .i64 v3) rfl rfl | exact r2 3 (.bool v4) rfl rfl | (simp; done) | exact oK) ?_
      exact At.weak (ih _ _ _ _ (by omega) ⟨i + 1, rfl, by omega, rfl, rfl, rfl⟩) sB
    · refine At.go [false] [] rfl oK ?_
      refine At.rt [] [] [] Tryd.func3 ?_
      exact ⟨rfl, rfl, rfl⟩
end Go.Proofs

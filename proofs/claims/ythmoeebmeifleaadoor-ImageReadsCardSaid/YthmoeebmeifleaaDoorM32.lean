/-
  Walks of layer 21 and of its document: a segment's rows.
-/
import Derived.Test.YthmoeebmeifleaaDoorM15
import Derived.Test.YthmoeebmeifleaaDoorM7
import Derived.Test.YthmoeebmeifleaaDoorM26
import Derived.Test.YthmoeebmeifleaaDoorM31
import Derived.Test.YthmoeebmeifleaaDoorM21
/-
  Walks of layer 21 and of its document: a segment's rows.
-/
namespace Go.Proofs
open Go Go.Eng
set_option maxRecDepth 100000
set_option maxHeartbeats 4000000
attribute [local irreducible] Tri

theorem nm_empty {c : UInt8} {k : Int} (h : nmB c k = []) : decide (bl ⟨(nmB c k).toArray⟩ = bl ⟨#[]⟩) = true := by rw [h]; rfl
theorem nm_some {c : UInt8} {k : Int} (h : nmB c k ≠ []) : decide (bl ⟨(nmB c k).toArray⟩ = bl ⟨#[]⟩) = false := decide_eq_false (by rw [bl_of]; exact h)
theorem Tryd.imSegment_w (S : FL) (k : Int) (a : Option Addr) (cap : Nat) (w : World) (hlen : S.length ≤ 60) (hS : ∀ p, p ∈ S → p.2.length ≤ 6000) (hrow : SlOk w a (fl S)) (hk : inK .i64 k) (hT : Tryd.Pow w) :
    Tri Tryd.prog 8 [.slice a S.length cap, .int .i64 k] w [] (fun v bx hp => ∃ (g : Option Nat) (c : Nat), v = .tuple #[sv g (segF S k).1.length c, .bool (segF S k).2] ∧ bx = [] ∧ hp = [Seg.row g 9 1 (segF S k).1.length c ((segF S k).1.map str)]) := by
  obtain ⟨s, hs⟩ : ∃ s, readN S (nmB 115 k) = s := ⟨_, rfl⟩
  have hsl : s.length ≤ 6000 := by rw [← hs]; exact readF_len hS
  have fR : ∀ {bx : Bx} {hp : List Seg}, CallOb Tryd.prog ⟨w, kys [] []⟩ bx hp 11 [.slice a S.length cap, str (nmB 115 k)] (str s) := fun {_ _} w' hw' => by
    have := Tryd.imRead_w S (nmB 115 k) a cap w' (by omega) (hrow.ext hw'.ext (by simp [kys])); rwa [hs] at this
  have hN : ∀ {bx : Bx} {hp : List Seg}, CallOb Tryd.prog ⟨w, kys [] []⟩ bx hp 20 [.int .i64 k] (str (nmB 115 k)) := fun {_ _} w' hw' => Tryd.shSegment_w k w' hk (tab_ext hT hw'.ext)
  refine Tri.enter (bx := []) (hp := []) Tryd.func8 rfl (by kernel_rfl) rfl (Own.nil w) ?_
  unfold segF
  rw [hs]
  by_cases h0 : nmB 115 k = []
  · rw [if_pos h0]
    refine At.go [true] [hC (.string { data := (nmB 115 k).toArray })] rfl (by and_intros <;> first | exact hN | exact nm_empty h0 | exact oK) ?_
    refine At.nilRow 9 1 ?_
    refine At.rt [] [true] [] Tryd.func8 ?_
    exact ⟨none, 0, rfl, rfl, rfl⟩
  rw [if_neg h0]
  refine At.go [false] [hC (.string { data := (nmB 115 k).toArray }), hC (.string { data := s.toArray })] rfl (by and_intros <;> first | exact hN | exact nm_some h0 | exact fR | exact oK) ?_
  refine At.step [] rfl rfl rfl rfl rfl trivial (OpOk.call rfl (fun w' hw' => Tryd.Scan_w s w' (by omega)) ?_)
  rintro _ _ _ ⟨a1, k1, rfl, rfl, rfl⟩
  refine At.go [] [] rfl (by and_intros <;> first | exact trivial | exact oK) ?_
  rw [justB_eq]
  refine At.rt [] [true] [] Tryd.func8 ?_
  exact ⟨a1, k1, rfl, rfl, rfl⟩
theorem Tryd.rfSegment_w (S : FL) (k : Int) (a : Option Addr) (cap : Nat) (w : World) (hlen : S.length ≤ 60) (hS : ∀ p, p ∈ S → p.2.length ≤ 6000) (hrow : SlOk w a (fl S)) :
    Tri Tryd.prog 9 [.slice a S.length cap, .int .i64 k] w [] (fun v bx hp => ∃ (g : Option Nat) (c : Nat), v = .tuple #[sv g (segF S k).1.length c, .bool (segF S k).2] ∧ bx = [] ∧ hp = [Seg.row g 9 1 (segF S k).1.length c ((segF S k).1.map str)]) := by
  obtain ⟨s, hs⟩ : ∃ s, readN S (nmB 115 k) = s := ⟨_, rfl⟩
  have hsl : s.length ≤ 6000 := by rw [← hs]; exact readF_len hS
  have fR : ∀ {bx : Bx} {hp : List Seg}, CallOb Tryd.prog ⟨w, kys [] []⟩ bx hp 12 [.slice a S.length cap, str (nmB 115 k)] (str s) := fun {_ _} w' hw' => by
    have := Tryd.r9Read_w S (nmB 115 k) a cap w' (by omega) (hrow.ext hw'.ext (by simp [kys])); rwa [hs] at this
  have hN : ∀ {bx : Bx} {hp : List Seg}, CallOb Tryd.prog ⟨w, kys [] []⟩ bx hp 21 [.int .i64 k] (str (nmB 115 k)) := fun {_ _} w' _ => Tryd.rSegment_w k w'
  refine Tri.enter (bx := []) (hp := []) Tryd.func9 rfl (by kernel_rfl) rfl (Own.nil w) ?_
  unfold segF
  rw [hs]
  by_cases h0 : nmB 115 k = []
  · rw [if_pos h0]
    refine At.go [true] [hC (.string { data := (nmB 115 k).toArray })] rfl (by and_intros <;> first | exact hN | exact nm_empty h0 | exact oK) ?_
    refine At.nilRow 9 1 ?_
    refine At.rt [] [true] [] Tryd.func9 ?_
    exact ⟨none, 0, rfl, rfl, rfl⟩
  rw [if_neg h0]
  refine At.go [false] [hC (.string { data := (nmB 115 k).toArray }), hC (.string { data := s.toArray })] rfl (by and_intros <;> first | exact hN | exact nm_some h0 | exact fR | exact oK) ?_
  refine At.step [] rfl rfl rfl rfl rfl trivial (OpOk.call rfl (fun w' hw' => Tryd.Just_w s w' (by omega)) ?_)
  rintro _ _ _ ⟨a1, k1, rfl, rfl, rfl⟩
  refine At.go [] [] rfl (by and_intros <;> first | exact trivial | exact oK) ?_
  refine At.rt [] [true] [] Tryd.func9 ?_
  exact ⟨a1, k1, rfl, rfl, rfl⟩
theorem Tryd.rfLast_w (S : FL) (a : Option Addr) (cap : Nat) (w : World) (hlen : S.length ≤ 60) (hrow : SlOk w a (fl S)) (hns : ∀ p, p ∈ S → p.1.length ≤ 9223372036854775807) :
    Fun Tryd.prog 14 [.slice a S.length cap] w (.int .i64 (lastF S)) := by
  refine Tri.enter (bx := []) (hp := []) Tryd.func14 rfl (by kernel_rfl) rfl (Own.nil w) ?_
  rw [lastF_max]
  refine At.go [] [] rfl (by and_intros <;> first | exact trivial | exact oK) ?_
  refine At.loop (env0 := [(0, .slice a (List.length S) cap), (3, .int .i64 (-1)), (4, .int .i64 0)]) (fun m_ env bx hp => ∃ (i : Nat), m_ = S.length - i ∧ (i ≤ S.length) ∧ env = [(0, .slice a (List.length S) cap), (3, .int .i64 (maxL (-1) (kindsF 1 (S.take i)))), (4, .int .i64 i)] ∧ bx = [] ∧ hp = []) rfl
    ⟨0, rfl, (by omega), rfl, rfl, rfl⟩ sB ?_
  rintro m_ env bx hp ⟨i, rfl, hi, rfl, rfl, rfl⟩ ih
  by_cases hlt : i < S.length
  · obtain ⟨p, hp⟩ : ∃ p, S[i]? = some p := ⟨_, List.getElem?_eq_getElem hlt⟩
    obtain ⟨g, o, rfl, hc⟩ := hrow.get (fl_ne (by intro h; rw [h] at hlt; simp at hlt))
    have rN : ∀ {bx : Bx} {hp : List Seg}, RdW ⟨w, kys [] []⟩ bx hp g (o + (i : Int).toNat * 2 + 0) [str p.1] := fun {_ _} => RdW.fileN hc (by simp [kys]) hp (by omega)
    have hsn : kindsF 1 (S.take (i + 1)) = kindsF 1 (S.take i) ++ if (kindB p.1).1 = 1 then [(kindB p.1).2.1] else [] := by rw [List.take_add_one, hp]; exact kindsF_snoc 1 _ p
    obtain ⟨kd, n, ok, hK⟩ : ∃ kd n ok, kindB p.1 = (kd, n, ok) := ⟨_, _, _, rfl⟩
    have fC : ∀ {S : Base} {bx : Bx} {hp : List Seg}, CallOb Tryd.prog S bx hp 25 [str p.1] (.tuple #[.int .i64 kd, .int .i64 n, .bool ok]) := fun {_ _ _} w' _ => by
      have := Tryd.rKind_w p.1 w' (hns p (List.mem_of_getElem? hp)); rwa [hK] at this
    rw [hK] at hsn
    simp only at hsn
    by_cases hk1 : kd = 1
    · rw [if_pos hk1] at hsn
      cases hm : decide (maxL (-1) (kindsF 1 (S.take i)) < n) with
      | true =>
        have e : maxL (-1) (kindsF 1 (S.take (i + 1))) = n := by rw [hsn, maxL_snoc, if_pos (of_decide_eq_true hm)]
        refine At.go [true, true, true] [hR [.string { data := p.fst.toArray }], hC (.tuple ⟨[.int .i64 kd, .int .i64 n, .bool ok]⟩)] rfl (by and_intros <;> first | exact rN | exact fC | exact decide_eq_true hk1 | exact hm | exact decide_eq_true (by omega) | exact oK) ?_
        rw [← e]
        exact At.weak (ih _ _ _ _ (by omega) ⟨i + 1, rfl, by omega, rfl, rfl, rfl⟩) sB
      | false =>
        have e : maxL (-1) (kindsF 1 (S.take (i + 1))) = maxL (-1) (kindsF 1 (S.take i)) := by rw [hsn, maxL_snoc, if_neg (of_decide_eq_false hm)]
        refine At.go [true, true, false] [hR [.string { data := p.fst.toArray }], hC (.tuple ⟨[.int .i64 kd, .int .i64 n, .bool ok]⟩)] rfl (by and_intros <;> first | exact rN | exact fC | exact decide_eq_true hk1 | exact hm | exact decide_eq_true (by omega) | exact oK) ?_
        rw [← e]
        exact At.weak (ih _ _ _ _ (by omega) ⟨i + 1, rfl, by omega, rfl, rfl, rfl⟩) sB
    · rw [if_neg hk1, List.append_nil] at hsn
      refine At.go [true, false, false] [hR [.string { data := p.fst.toArray }], hC (.tuple ⟨[.int .i64 kd, .int .i64 n, .bool ok]⟩)] rfl (by and_intros <;> first | exact rN | exact fC | exact decide_eq_false hk1 | exact decide_eq_true (by omega) | exact oK) ?_
      rw [← hsn]
      exact At.weak (ih _ _ _ _ (by omega) ⟨i + 1, rfl, by omega, rfl, rfl, rfl⟩) sB
  · obtain rfl : i = S.length := by omega
    rw [List.take_length]
    refine At.go [false] [] rfl (by and_intros <;> first | exact decide_eq_false (by omega) | exact oK) ?_
    refine At.rt [] [] [] Tryd.func14 ?_
    exact ⟨rfl, rfl, rfl⟩
end Go.Proofs

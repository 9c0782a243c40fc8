/-
  Walks of layer 21 and of its document: the headers of files.
-/
import Derived.Test.YtacpcbobkeedbaaGreatDoorM21
import Derived.Test.YtacpcbobkeedbaaGreatDoorM16
import Derived.Test.YtacpcbobkeedbaaGreatDoorM7
import Derived.Test.YtacpcbobkeedbaaGreatDoorM30
import Derived.Test.YtacpcbobkeedbaaGreatDoorM31
import Derived.Test.YtacpcbobkeedbaaGreatDoorM28
/-
  Walks of layer 21 and of its document: the headers of files.
-/
namespace Go.Proofs
open Go Go.Eng
set_option maxRecDepth 100000
set_option maxHeartbeats 4000000
attribute [local irreducible] Tri

theorem hsB_len (n : Int) : ∀ l : List (List UInt8), (hsB n l).1.length ≤ l.length
  | [] => Nat.le_refl _
  | r :: l => by
    unfold hsB
    split
    · exact Nat.zero_le _
    · have := hsB_len n l
      simp only [List.length_cons]; omega
theorem hsB_ok {n : Int} {r : List UInt8} {l : List (List UInt8)} (h : (hdG r n).2 = 0) : hsB n (r :: l) = ((hdG r n).1 :: (hsB n l).1, (hsB n l).2) := by
  rw [hsB]; exact if_neg (by simp [h])
theorem hsB_bad {n : Int} {r : List UInt8} {l : List (List UInt8)} (h : (hdG r n).2 ≠ 0) : hsB n (r :: l) = ([], false) := by
  rw [hsB]; exact if_pos h
theorem justB_eq (s : List UInt8) : decide (((sizeB s : Nat) : Int) = ((bl ⟨s.toArray⟩).length : Int)) = justB s := by
  rw [bl_of]
  unfold justB
  rw [Bool.eq_iff_iff, decide_eq_true_iff, decide_eq_true_iff]; omega
theorem Tryz.imHeaders_w (S : FL) (c1 h c3 c4 : Int) (a : Option Addr) (cap : Nat) (w : World) (hlen : S.length ≤ 60) (hS : ∀ p, p ∈ S → p.2.length ≤ 9000) (hrow : SlOk w a (fl S)) :
    Tri Tryz.prog 92 [.slice a S.length cap, .agg ⟨[.int .i64 c1, .int .i64 h, .int .i64 c3, .int .i64 c4]⟩] w [] (fun v bx hp => ∃ (g : Option Nat) (c : Nat), v = .tuple #[sv g (headsF S h).1.length c, .bool (headsF S h).2] ∧ bx = [] ∧ hp = [Seg.row g 46 6 (headsF S h).1.length c ((headsF S h).1.flatMap hdC)]) := by
  obtain ⟨s, hs⟩ : ∃ s, readN S headsB = s := ⟨_, rfl⟩
  have hsl : s.length ≤ 9000 := by rw [← hs]; exact readF_len hS
  obtain ⟨hs1, hs2, hs3⟩ := scan_len s
  have hrl : (frowsB s).length ≤ 9000 := by unfold frowsB; rw [List.length_map]; omega
  have hb : bl ⟨s.toArray⟩ = s := bl_of s
  have fR : ∀ {bx : Bx} {hp : List Seg}, CallOb Tryz.prog ⟨w, kys [] []⟩ bx hp 132 [.slice a S.length cap, str headsB] (str s) := fun {_ _} w' hw' => by
    have := Tryz.imRead_w S headsB a cap w' (by omega) (hrow.ext hw'.ext (by simp [kys])); rwa [hs] at this
  have hH : ∀ {S : Base} {bx : Bx} {hp : List Seg}, CallOb Tryz.prog S bx hp 118 [] (str headsB) := fun {_ _ _} w' _ => Tryz.shHeads_w w'
  refine Tri.enter (bx := []) (hp := []) Tryz.func92 rfl (by kernel_rfl) rfl (Own.nil w) ?_
  unfold headsF
  rw [hs]
  refine At.go [] [] rfl (by and_intros <;> first | exact fR | exact hH | exact oK) ?_
  refine At.bo fun b3 hb3 => ?_
  refine At.go [] [hC (.string { data := headsB.toArray }), hC (.string { data := s.toArray })] rfl (by and_intros <;> first | exact fR | exact hH | exact oK) ?_
  refine At.step [] rfl rfl rfl rfl rfl trivial (OpOk.call rfl (fun w' hw' => Tryz.Scan_w s w' (by omega)) ?_)
  rintro _ _ _ ⟨a1, k1, rfl, rfl, rfl⟩
  by_cases h1 : h < 1
  · rw [if_neg (by omega)]
    refine At.go [true, true] [hB 0] rfl (by and_intros <;> first | exact decide_eq_true h1 | exact oK) ?_
    refine At.nilRow 46 6 ?_
    refine At.rt [] [true, false] [] Tryz.func92 ?_
    exact ⟨none, 0, rfl, rfl, rfl⟩
  by_cases h32 : 32 < h
  · rw [if_neg (by omega)]
    refine At.go [false, true] [hB 0, hB 0] rfl (by and_intros <;> first | exact decide_eq_false h1 | exact decide_eq_true h32 | exact oK) ?_
    refine At.nilRow 46 6 ?_
    refine At.rt [] [true, false] [] Tryz.func92 ?_
    exact ⟨none, 0, rfl, rfl, rfl⟩
  rw [if_pos (by omega)]
  refine At.go [false, false] [hB 0, hB 0] rfl (by and_intros <;> first | exact decide_eq_false h1 | exact decide_eq_false h32 | exact oK) ?_
  refine At.nilRow 46 6 ?_
  refine At.loop (env0 := [(3, .pointer (some ⟨b3, 0, none⟩)), (6, .string { data := s.toArray }), (8, .int .i64 ↑(sizeB s)), (9, .slice none 0 0), (30, .slice (svA a1) (frowsB s).length k1), (31, .int .i64 ↑(frowsB s).length), (32, .int .i64 0)]) (fun m_ env bx hp => ∃ (i : Nat) (L : List HdB) (g : Option Nat) (c : Nat), m_ = (frowsB s).length - i ∧ (i ≤ (frowsB s).length) ∧ (hsB h (frowsB s) = (L ++ (hsB h ((frowsB s).drop i)).1, (hsB h ((frowsB s).drop i)).2)) ∧ (L.length ≤ i) ∧ env = [(3, .pointer (some ⟨b3, 0, none⟩)), (6, .string { data := s.toArray }), (8, .int .i64 ↑(sizeB s)), (9, sv g L.length c), (30, .slice (svA a1) (frowsB s).length k1), (31, .int .i64 ↑(frowsB s).length), (32, .int .i64 i)] ∧ bx = [(b3, 24, [.int .i64 c1, .int .i64 h, .int .i64 c3, .int .i64 c4])] ∧ hp = [Seg.row g 46 6 L.length c (L.flatMap hdC), Seg.row a1 9 1 (frowsB s).length k1 (List.map str (frowsB s))]) rfl
    ⟨0, [], none, 0, rfl, (by omega), (rfl), (Nat.le_refl _), rfl, rfl, rfl⟩ sB ?_
  rintro m_ env bx hp ⟨i, L, g, c, rfl, hi, eL, hLi, rfl, rfl, rfl⟩ ih
  by_cases hlt : i < (frowsB s).length
  · obtain ⟨r, hr⟩ : ∃ r, (frowsB s)[i]? = some r := ⟨_, List.getElem?_eq_getElem hlt⟩
    have hdr : (frowsB s).drop i = r :: (frowsB s).drop (i + 1) := by
      rw [List.drop_eq_getElem_cons hlt]
      rw [List.getElem?_eq_getElem hlt] at hr
      rw [Option.some.inj hr]
    have hrle : r.length ≤ 9000 := by
      obtain ⟨x, hx, rfl⟩ := List.mem_map.1 (List.mem_of_getElem? hr)
      have := hs3 x hx; omega
    refine At.rowSome 1 rfl (by omega) fun q hq => ?_
    subst hq
    have rR : ∀ {bx : Bx} {hp : List Seg}, nth hp 1 = some (Seg.row (some q) 9 1 (frowsB s).length k1 ((frowsB s).map str)) → RdW ⟨w, kys [] []⟩ bx hp q (0 + (i : Int).toNat * 1) [str r] := fun {_ _} h => RdW.row1 h (i := i) (by rw [List.getElem?_map, hr]; rfl) (by omega)
    obtain ⟨⟨x1, x2, x3, x4, x5, x6⟩, e, hG⟩ : ∃ H e, hdG r h = (H, e) := ⟨_, _, rfl⟩
    have fC : ∀ {S : Base} {bx : Bx} {hp : List Seg}, CallOb Tryz.prog S bx hp 133 [str r, .int .i64 h] (.tuple #[.agg ⟨[.int .i64 x1, .int .i64 x2, .int .i64 x3, .int .i64 x4, str x5, str x6]⟩, .int .i64 e]) := fun {_ _ _} w' _ => by
      have := Tryz.headGet0_w r h w' (by omega) (by omega); rwa [hG] at this
    by_cases he : e = 0
    · subst he
      rw [hdr, hsB_ok (by rw [hG]), hG] at eL
      refine At.go [true] [hR [.string { data := r.toArray }], hB 0, hC (.tuple { toList := [.agg { toList := [.int .i64 x1, .int .i64 x2, .int .i64 x3, .int .i64 x4, .string { data := x5.toArray }, .string { data := x6.toArray }] }, .int .i64 0] })] rfl (by and_intros <;> first | exact rR rfl | exact fC | exact decide_eq_true (by omega) | (simp; done) | exact oK) ?_
      refine At.al fun b12 hb12 => ?_
      refine At.go [false] [hB 0, hB 0] rfl (by and_intros <;> first | exact rR rfl | exact fC | exact decide_eq_true (by omega) | (simp; done) | exact oK) ?_
      refine At.a1 0 6 64 fun b48 a49 c49 => ?_
      refine At.go [] [] rfl (by and_intros <;> first | exact rR rfl | exact fC | exact decide_eq_true (by omega) | (simp; done) | exact oK) ?_
      refine At.keep [false, true] [true, true] rfl ?_
      rw [show L.flatMap hdC ++ [.int .i64 x1, .int .i64 x2, .int .i64 x3, .int .i64 x4, .string ⟨x5.toArray⟩, .string ⟨x6.toArray⟩] = (L ++ [(⟨x1, x2, x3, x4, x5, x6⟩ : HdB)]).flatMap hdC by simp [hdC, str], show L.length + 1 = (L ++ [(⟨x1, x2, x3, x4, x5, x6⟩ : HdB)]).length by simp]
      exact At.weak (ih _ _ _ _ (by omega) ⟨i + 1, L ++ [(⟨x1, x2, x3, x4, x5, x6⟩ : HdB)], a49, c49, rfl, by omega, by rw [eL]; simp, by simp; omega, rfl, rfl, rfl⟩) sB
    · rw [hdr, hsB_bad (by rw [hG]; exact he)] at eL
      refine At.go [true] [hR [.string { data := r.toArray }], hB 0, hC (.tuple { toList := [.agg { toList := [.int .i64 x1, .int .i64 x2, .int .i64 x3, .int .i64 x4, .string { data := x5.toArray }, .string { data := x6.toArray }] }, .int .i64 e] })] rfl (by and_intros <;> first | exact rR rfl | exact fC | exact decide_eq_true (by omega) | (simp; done) | exact oK) ?_
      refine At.al fun b12 hb12 => ?_
      refine At.go [true] [hB 0] rfl (by and_intros <;> first | exact rR rfl | exact fC | exact decide_eq_true (by omega) | (simp [he]; done) | exact oK) ?_
      rw [eL, List.append_nil]
      refine At.rt [] [true, false] [] Tryz.func92 ?_
      exact ⟨g, c, rfl, rfl, rfl⟩
  · obtain rfl : i = (frowsB s).length := by omega
    rw [List.drop_of_length_le (Nat.le_refl _)] at eL
    rw [eL]
    refine At.go [false] [] rfl (by and_intros <;> first | exact decide_eq_false (by omega) | exact oK) ?_
    rw [justB_eq, show hsB h [] = ([], true) from rfl, List.append_nil, Bool.true_and]
    refine At.rt [] [true, false] [] Tryz.func92 ?_
    exact ⟨g, c, rfl, rfl, rfl⟩
end Go.Proofs

/-
  Walks of layer 32: the statement of changes.
-/
import Derived.Test.YtgkphfipielnhaaDoorM17
import Derived.Test.YtgkphfipielnhaaDoorM16
import Derived.Test.YtgkphfipielnhaaDoorM7
import Derived.Test.YtgkphfipielnhaaDoorM27
import Derived.Test.YtgkphfipielnhaaDoorM30
import Derived.Test.YtgkphfipielnhaaDoorM13
/-
  Walks of layer 32: the statement of changes.
-/
namespace Go.Proofs
open Go Go.Eng
set_option maxRecDepth 100000
set_option maxHeartbeats 4000000
attribute [local irreducible] Tri

theorem listB_get {k : Int} (h1 : 1 ≤ k) (h5 : k ≤ 5) : listT[k.toNat]? = some (listB k) := by
  obtain ⟨j, rfl⟩ : ∃ j : Nat, k = j := ⟨k.toNat, by omega⟩
  have : j = 1 ∨ j = 2 ∨ j = 3 ∨ j = 4 ∨ j = 5 := by omega
  rcases this with rfl | rfl | rfl | rfl | rfl <;> rfl
theorem Tryd.refChanges_w (L : List ChE) (a : Option Addr) (ca : Nat) (w : World) (hl : L.length ≤ 60) (ha : SlOk w a (L.flatMap chC)) (hL : ∀ e, e ∈ L → ChFit w e ∧ e.was.length ≤ 20 ∧ e.is.length ≤ 20) :
    Fun Tryd.prog 21 [.slice a L.length ca] w (str (chsB (L.map toB))) := by
  have hcl : ∀ i, (chsB ((L.take i).map toB)).length ≤ 60000 := fun i => by
    have := chsB_len (l := (L.take i).map toB) (fun c hc => by
      obtain ⟨e, he, rfl⟩ := List.mem_map.1 hc
      obtain ⟨h1, h2, h3⟩ := hL e (List.mem_of_mem_take he)
      exact chB_len h1.k2 h1.k3 h1.wi h1.ii h2 h3)
    rw [List.length_map, List.length_take] at this; omega
  refine Tri.enter (bx := []) (hp := []) Tryd.func21 rfl (by kernel_rfl) rfl (Own.nil w) ?_
  refine At.go [] [] rfl oK ?_
  refine At.step [] rfl rfl rfl rfl rfl trivial (OpOk.buildSlice rfl rfl rfl rfl rfl rfl rfl (fun bT hbT => ?_))
  refine At.go [] [] rfl oK ?_
  refine At.loop (env0 := [(0, .slice a L.length ca), (3, .slice (some ⟨bT, 0, none⟩) 6 6), (4, .string { data := #[] }), (5, .int .i64 0)]) (fun m_ env bx hp => ∃ (i : Nat) (out : List UInt8), m_ = L.length - i ∧ (i ≤ L.length) ∧ (out = chsB ((L.take i).map toB)) ∧ env = [(0, .slice a L.length ca), (3, .slice (some ⟨bT, 0, none⟩) 6 6), (4, str out), (5, .int .i64 i)] ∧ bx = [(bT, 9, [.string { data := #[63] }, .string { data := #[104, 111, 108, 100, 101, 114] }, .string { data := #[115, 116, 97, 107, 101] }, .string { data := #[111, 114, 100, 101, 114] }, .string { data := #[114, 97, 116, 101] }, .string { data := #[99, 111, 117, 110, 116] }])] ∧ hp = []) rfl
    ⟨0, [], rfl, (by omega), (rfl), rfl, rfl, rfl⟩ sB ?_
  rintro m_ env bx hp ⟨i, out, rfl, hi, ho, rfl, rfl, rfl⟩ ih
  have hol := hcl i
  rw [← ho] at hol
  by_cases hlt : i < L.length
  · obtain ⟨e, hx⟩ : ∃ e, L[i]? = some e := ⟨_, List.getElem?_eq_getElem hlt⟩
    obtain ⟨ge, o, rfl, hc⟩ := ha.get (chC_ne hx)
    obtain ⟨hfe, hwl, hil⟩ := hL e (List.mem_of_getElem? hx)
    have hnx : chsB ((L.take (i + 1)).map toB) = out ++ chB (toB e) := by rw [List.take_add_one, hx, List.map_append, ho]; exact chsB_snoc _ _
    have hm : ge ∉ (⟨w, kys [] []⟩ : Base).mods := by simp [kys]
    have rT : ∀ {bx : Bx} {hp : List Seg} (f : Nat) (v : Value), (chC e)[f]? = some v → RdW ⟨w, kys [] []⟩ bx hp ge (o + (i : Int).toNat * 5 + f) [v] := fun {_ _} => RdW.ch hc hm hx
    have hA : ∀ {bx : Bx} {hp : List Seg} {q : Nat}, nth bx 0 = some (q, 2, i64s [e.k.2.1, e.k.2.2]) → CallOb Tryd.prog ⟨w, kys [] []⟩ bx hp 48 [.slice (some ⟨q, 0, none⟩) 2 2] (str (numsB [e.k.2.1, e.k.2.2])) := fun {_ _ _} h => Tryd.rNumbersB_w (xs := [e.k.2.1, e.k.2.2]) 0 h (by intro x hx; simp at hx; rcases hx with rfl | rfl; exact hfe.k2; exact hfe.k3) (by simp)
    have hQ1 : ∀ {bx : Bx} {hp : List Seg}, CallOb Tryd.prog ⟨w, kys [] []⟩ bx hp 48 [.slice e.wa e.was.length e.wc] (str (numsB e.was)) := fun {_ _} w' hw' => Tryd.rNumbers_w _ _ _ w' hfe.wi (by omega) (hfe.wa.ext hw'.ext (by simp [kys]))
    have hQ2 : ∀ {bx : Bx} {hp : List Seg}, CallOb Tryd.prog ⟨w, kys [] []⟩ bx hp 48 [.slice e.ia e.is.length e.ic] (str (numsB e.is)) := fun {_ _} w' hw' => Tryd.rNumbers_w _ _ _ w' hfe.ii (by omega) (hfe.ia.ext hw'.ext (by simp [kys]))
    have hz1 := listB_len e.k.1
    have hz2 := numsB_len (xs := [e.k.2.1, e.k.2.2]) (by intro x hx; simp at hx; rcases hx with rfl | rfl; exact hfe.k2; exact hfe.k3)
    have hz3 := numsB_len hfe.wi
    have hz4 := numsB_len hfe.ii
    have hz5 : [e.k.2.1, e.k.2.2].length = 2 := rfl
    have hb58 : bl ⟨#[58]⟩ = [58] := rfl
    have hb3 : bl ⟨#[32, 45, 62]⟩ = [32, 45, 62] := rfl
    have hb10 : bl ⟨#[10]⟩ = [10] := rfl
    refine At.cutU (ι := Unit) ⟨0, [1, 1, 0, 0, 1, 0, 0, 1, 0, 1, 1, 1], []⟩ (fun _ => [(0, .slice (some ⟨ge, o, none⟩) L.length ca), (3, .slice (some ⟨bT, 0, none⟩) 6 6), (4, str out), (5, .int .i64 i), (6, str (listB e.k.1))]) (fun _ => [(bT, 9, listT.map str)]) ?_ fun hk => ?_
    · rintro -
      refine At.dr 34 ?_
      refine AtD.pu [0, 1, 3, 4, 8, 9, 17, 18, 25, 26] 24 rfl (by and_intros <;> first | exact rT 1 _ rfl | exact rT 2 _ rfl | exact rT 3 _ rfl | exact rT 4 _ rfl | exact hA rfl | exact hQ1 | exact hQ2 | (simp only [bl_of, hb58, hb3, hb10, List.length_append, List.length_cons, List.length_nil]; omega) | exact oK) ?_
      refine AtD.pu [2, 5, 10, 19, 27] 19 rfl (by and_intros <;> first | exact rT 1 _ rfl | exact rT 2 _ rfl | exact rT 3 _ rfl | exact rT 4 _ rfl | exact hA rfl | exact hQ1 | exact hQ2 | (simp only [bl_of, hb58, hb3, hb10, List.length_append, List.length_cons, List.length_nil]; omega) | exact oK) ?_
      refine AtD.pu [6, 11, 20, 28] 15 rfl (by and_intros <;> first | exact rT 1 _ rfl | exact rT 2 _ rfl | exact rT 3 _ rfl | exact rT 4 _ rfl | exact hA rfl | exact hQ1 | exact hQ2 | (simp only [bl_of, hb58, hb3, hb10, List.length_append, List.length_cons, List.length_nil]; omega) | exact oK) ?_
      refine AtH.readsK [false] [] [7, 12, 21, 29] [hR [.int .i64 e.k.snd.fst], hR [.int .i64 e.k.snd.snd], hR [.slice e.wa e.was.length e.wc], hR [.slice e.ia e.is.length e.ic]] rfl rfl (by and_intros <;> first | exact rT 1 _ rfl | exact rT 2 _ rfl | exact rT 3 _ rfl | exact rT 4 _ rfl | exact hA rfl | exact hQ1 | exact hQ2 | (simp only [bl_of, hb58, hb3, hb10, List.length_append, List.length_cons, List.length_nil]; omega) | exact oK) rfl rfl (fuel := 11) ?_
      refine AtH.f1 13 rfl (OpOk.buildSlice rfl rfl rfl rfl rfl rfl rfl (fun b49 hb49 => ⟨fun w hw => hw.selK [false, false] [], ?_⟩))
      refine AtH.f1 14 rfl (OpOk.one true [] [hC (.string { data := (numsB [e.k.snd.fst, e.k.snd.snd]).toArray })] rfl (by first | exact rT 1 _ rfl | exact rT 2 _ rfl | exact rT 3 _ rfl | exact rT 4 _ rfl | exact hA rfl | exact hQ1 | exact hQ2 | (simp only [bl_of, hb58, hb3, hb10, List.length_append, List.length_cons, List.length_nil]; omega) | exact oK) ⟨fun w hw => hw.selK [false, false] [], ?_⟩)
      refine AtH.reK [15] [] rfl (by and_intros <;> first | exact rT 1 _ rfl | exact rT 2 _ rfl | exact rT 3 _ rfl | exact rT 4 _ rfl | exact hA rfl | exact hQ1 | exact hQ2 | (simp only [bl_of, hb58, hb3, hb10, List.length_append, List.length_cons, List.length_nil]; omega) | exact oK) rfl rfl (fuel := 8) ?_
      refine AtH.reK [16] [] rfl (by and_intros <;> first | exact rT 1 _ rfl | exact rT 2 _ rfl | exact rT 3 _ rfl | exact rT 4 _ rfl | exact hA rfl | exact hQ1 | exact hQ2 | (simp only [bl_of, hb58, hb3, hb10, List.length_append, List.length_cons, List.length_nil]; omega) | exact oK) rfl rfl (fuel := 7) ?_
      refine AtH.f1 22 rfl (OpOk.one true [] [hC (.string { data := (numsB e.was).toArray })] rfl (by first | exact rT 1 _ rfl | exact rT 2 _ rfl | exact rT 3 _ rfl | exact rT 4 _ rfl | exact hA rfl | exact hQ1 | exact hQ2 | (simp only [bl_of, hb58, hb3, hb10, List.length_append, List.length_cons, List.length_nil]; omega) | exact oK) ⟨fun w hw => hw.selK [false, false] [], ?_⟩)
      refine AtH.reK [23] [] rfl (by and_intros <;> first | exact rT 1 _ rfl | exact rT 2 _ rfl | exact rT 3 _ rfl | exact rT 4 _ rfl | exact hA rfl | exact hQ1 | exact hQ2 | (simp only [bl_of, hb58, hb3, hb10, List.length_append, List.length_cons, List.length_nil]; omega) | exact oK) rfl rfl (fuel := 5) ?_
      refine AtH.reK [24] [] rfl (by and_intros <;> first | exact rT 1 _ rfl | exact rT 2 _ rfl | exact rT 3 _ rfl | exact rT 4 _ rfl | exact hA rfl | exact hQ1 | exact hQ2 | (simp only [bl_of, hb58, hb3, hb10, List.length_append, List.length_cons, List.length_nil]; omega) | exact oK) rfl rfl (fuel := 4) ?_
      refine AtH.f1 30 rfl (OpOk.one true [] [hC (.string { data := (numsB e.is).toArray })] rfl (by first | exact rT 1 _ rfl | exact rT 2 _ rfl | exact rT 3 _ rfl | exact rT 4 _ rfl | exact hA rfl | exact hQ1 | exact hQ2 | (simp only [bl_of, hb58, hb3, hb10, List.length_append, List.length_cons, List.length_nil]; omega) | exact oK) ⟨fun w hw => hw.selK [false, false] [], ?_⟩)
      refine AtH.f1 31 rfl (OpOk.one true [] [] rfl (by and_intros <;> first | exact rT 1 _ rfl | exact rT 2 _ rfl | exact rT 3 _ rfl | exact rT 4 _ rfl | exact hA rfl | exact hQ1 | exact hQ2 | (simp only [bl_of, hb58, hb3, hb10, List.length_append, List.length_cons, List.length_nil]; omega) | exact oK) ⟨fun w hw => hw.selK [false, false] [], ?_⟩)
      refine AtH.f1 32 rfl (OpOk.one true [] [] rfl (by and_intros <;> first | exact rT 1 _ rfl | exact rT 2 _ rfl | exact rT 3 _ rfl | exact rT 4 _ rfl | exact hA rfl | exact hQ1 | exact hQ2 | (simp only [bl_of, hb58, hb3, hb10, List.length_append, List.length_cons, List.length_nil]; omega) | exact oK) ⟨fun w hw => hw.selK [false, false] [], ?_⟩)
      refine AtH.f1 33 rfl (OpOk.one true [] [] rfl (by and_intros <;> first | exact rT 1 _ rfl | exact rT 2 _ rfl | exact rT 3 _ rfl | exact rT 4 _ rfl | exact hA rfl | exact hQ1 | exact hQ2 | (simp only [bl_of, hb58, hb3, hb10, List.length_append, List.length_cons, List.length_nil]; omega) | exact oK) ⟨fun w hw => hw.selK [false, false] [], ?_⟩)
      refine AtH.dn ?_
      refine At.go [] [] rfl (by and_intros <;> first | exact rT 1 _ rfl | exact rT 2 _ rfl | exact rT 3 _ rfl | exact rT 4 _ rfl | exact hA rfl | exact hQ1 | exact hQ2 | (simp only [bl_of, hb58, hb3, hb10, List.length_append, List.length_cons, List.length_nil]; omega) | exact oK) ?_
      rw [show Value.string ⟨_⟩ = str (out ++ chB (toB e)) from congrArg str (show _ = out ++ chB (toB e) by simp only [bl_of, hb58, hb3, hb10, chB, toB, List.append_assoc])]
      refine At.keep [false, true] [] rfl ?_
      exact At.weak (ih _ _ _ _ (by omega) ⟨i + 1, out ++ chB (toB e), rfl, by omega, hnx.symm, rfl, rfl, rfl⟩) sB
    · by_cases h1 : 1 ≤ e.k.1
      · by_cases h5 : e.k.1 ≤ 5
        · have rL : ∀ {bx : Bx} {hp : List Seg}, nth bx 0 = some (bT, 9, listT.map str) → RdW ⟨w, kys [] []⟩ bx hp bT (0 + e.k.1.toNat * 1) [str (listB e.k.1)] := fun {_ _} h => RdW.blk h fun j u hu => by
            match j, hu with
            | 0, hu =>
              simp at hu; subst hu
              rw [show 0 + e.k.1.toNat * 1 + 0 = e.k.1.toNat by omega, List.getElem?_map, listB_get h1 h5]; rfl
          refine At.gn 27 [true, true, true] [hR [.int .i64 e.k.fst], hR [.int .i64 e.k.fst], hR [.int .i64 e.k.fst], hR [.string { data := (listB e.k.fst).toArray }]] rfl (by and_intros <;> first | exact rT 0 _ rfl | exact rL rfl | exact decide_eq_true h1 | exact decide_eq_true h5 | exact oK) ?_
          exact At.weak (hk ()) sB
        · have hb : listB e.k.1 = [63] := by
            unfold listB
            rw [if_neg (by omega)]
          rw [hb] at hk
          refine At.gn 26 [true, true, false] [hR [.int .i64 e.k.fst], hR [.int .i64 e.k.fst]] rfl (by and_intros <;> first | exact rT 0 _ rfl | exact decide_eq_true h1 | exact decide_eq_false h5 | exact oK) ?_
          exact At.weak (hk ()) sB
      · have hb : listB e.k.1 = [63] := by
          unfold listB
          split
          · have : e.k.1 = 0 := by omega
            rw [this]; rfl
          · rfl
        rw [hb] at hk
        refine At.gn 26 [true, false, false] [hR [.int .i64 e.k.fst]] rfl (by and_intros <;> first | exact rT 0 _ rfl | exact decide_eq_false h1 | exact oK) ?_
        exact At.weak (hk ()) sB
  · obtain rfl : i = L.length := by omega
    refine At.go [false] [] rfl oK ?_
    rw [ho, List.take_length]
    refine At.rt [] [] [] Tryd.func21 ?_
    exact ⟨rfl, rfl, rfl⟩
end Go.Proofs

/-
  Walks of layer 32: the statement of changes.
-/
namespace Go.Proofs
open Go Go.Eng
set_option maxRecDepth 100000
set_option maxHeartbeats 4000000
attribute [local irreducible] Tri

theorem Tryd.chg_c {H : Type} {enc : TypeId × Value → H} {w : World} {base : Nat} {sp : Nat → Bool} {held : Bool} {n : Nat} {cs : List Value} {y : DataW H × List MemPlace} (h : DataW.trod enc Tryd.prog w base sp held n 46 cs = some y) : ∃ e : ChE, cs = chC e ∧ ChFit w e := by
  obtain ⟨hl, n0, y0, t0⟩ := open_fld h 0 3 0 1 (by kernel_rfl)
  obtain ⟨-, n1, y1, t1⟩ := open_fld h 1 2 1 1 (by kernel_rfl)
  obtain ⟨-, n2, y2, t2⟩ := open_fld h 2 2 2 1 (by kernel_rfl)
  obtain ⟨-, n3, y3, t3⟩ := open_fld h 3 44 3 1 (by kernel_rfl)
  obtain ⟨-, n4, y4, t4⟩ := open_fld h 4 44 4 1 (by kernel_rfl)
  have hc : cs.length = 5 := by rw [hl]; kernel_rfl
  obtain ⟨k, e0, hk⟩ := open_i64_c (by kernel_rfl) t0
  obtain ⟨p, e1, hp⟩ := open_i64_c (by kernel_rfl) t1
  obtain ⟨q, e2, hq⟩ := open_i64_c (by kernel_rfl) t2
  obtain ⟨a3, l3, c3, e3, h3, i3, n3⟩ := open_i64s_c (e := 2) (by kernel_rfl) (by kernel_rfl) (by kernel_rfl) t3
  obtain ⟨a4, l4, c4, e4, h4, i4, n4⟩ := open_i64s_c (e := 2) (by kernel_rfl) (by kernel_rfl) (by kernel_rfl) t4
  match cs, hc with
  | [v0, v1, v2, v3, v4], _ =>
    simp at e0 e1 e2 e3 e4
    subst e0; subst e1; subst e2; subst e3; subst e4
    exact ⟨⟨(k, p, q), l3, a3, c3, l4, a4, c4⟩, rfl, ⟨hk, hp, hq, h3, h4, i3, i4⟩⟩
theorem Tryd.changes32_w (L : List ChE) (a : Option Addr) (ca : Nat) (w : World) (hl : L.length ≤ 9223372036854775807) (ha : SlOk w a (L.flatMap chC)) (hL : ∀ e, e ∈ L → ChFit w e) (hW : Tryd.TxW w) (hT : Tryd.Lst w) : Fun Tryd.prog 7 [.slice a L.length ca] w (.bool true) := by
  refine Tri.enter (bx := []) (hp := []) Tryd.func7 rfl (by kernel_rfl) rfl (Own.nil w) ?_
  have hA : ∀ {bx : Bx} {hp : List Seg}, CallOb Tryd.prog ⟨w, kys [] []⟩ bx hp 14 [] (.bool true) := fun {_ _} w' hw' => Tryd.alive32_w w' (hW.ext hw'.ext)
  by_cases h60 : 60 < L.length
  · refine At.go [false, true] [hC (.bool true)] rfl (by and_intros <;> first | exact hA | exact decide_eq_true (by omega) | exact oK) ?_
    refine At.rt [] [] [] Tryd.func7 ?_
    exact ⟨rfl, rfl, rfl⟩
  refine At.go [false, false] [hC (.bool true)] rfl (by and_intros <;> first | exact hA | exact decide_eq_false (by omega) | exact oK) ?_
  refine At.loop (env0 := [(0, .slice a L.length ca), (3, .int .i64 0)]) (fun m_ env bx hp => ∃ (i : Nat), m_ = L.length - i ∧ (i ≤ L.length) ∧ (∀ (j : Nat) (e : ChE), j < i → L[j]? = some e → e.was.length ≤ 20 ∧ e.is.length ≤ 20) ∧ env = [(0, .slice a L.length ca), (3, .int .i64 i)] ∧ bx = [] ∧ hp = []) rfl
    ⟨0, rfl, (by omega), (fun j e hj _ => absurd hj (Nat.not_lt_zero j)), rfl, rfl, rfl⟩ sB ?_
  rintro m_ env bx hp ⟨i, rfl, hi, hok, rfl, rfl, rfl⟩ ih
  by_cases hlt : i < L.length
  · obtain ⟨e, hx⟩ : ∃ e, L[i]? = some e := ⟨_, List.getElem?_eq_getElem hlt⟩
    obtain ⟨ge, o, rfl, hc⟩ := ha.get (chC_ne hx)
    have hm : ge ∉ (⟨w, kys [] []⟩ : Base).mods := by simp [kys]
    have rT : ∀ {bx : Bx} {hp : List Seg} (f : Nat) (v : Value), (chC e)[f]? = some v → RdW ⟨w, kys [] []⟩ bx hp ge (o + (i : Int).toNat * 5 + f) [v] := fun {_ _} => RdW.ch hc hm hx
    by_cases h1 : 20 < e.was.length
    · refine At.go [true, true, true] [hR [.slice e.wa e.was.length e.wc]] rfl (by and_intros <;> first | exact rT 3 _ rfl | exact decide_eq_true (by omega) | exact oK) ?_
      refine At.rt [] [] [] Tryd.func7 ?_
      exact ⟨rfl, rfl, rfl⟩
    · by_cases h2 : 20 < e.is.length
      · refine At.go [true, false, true] [hR [.slice e.wa e.was.length e.wc], hR [.slice e.ia e.is.length e.ic]] rfl (by and_intros <;> first | exact rT 3 _ rfl | exact rT 4 _ rfl | exact decide_eq_false (by omega) | exact decide_eq_true (by omega) | exact oK) ?_
        refine At.rt [] [] [] Tryd.func7 ?_
        exact ⟨rfl, rfl, rfl⟩
      · refine At.go [true, false, false] [hR [.slice e.wa e.was.length e.wc], hR [.slice e.ia e.is.length e.ic]] rfl (by and_intros <;> first | exact rT 3 _ rfl | exact rT 4 _ rfl | exact decide_eq_true (by omega) | exact decide_eq_false (by omega) | exact oK) ?_
        exact At.weak (ih _ _ _ _ (by omega) ⟨i + 1, rfl, by omega, fun j e' hj he => by
          by_cases hji : j = i
          · subst hji
            obtain rfl : e = e' := by rw [hx] at he; exact Option.some.inj he
            exact ⟨by omega, by omega⟩
          · exact hok j e' (by omega) he, rfl, rfl, rfl⟩) sB
  · have hL' : ∀ e, e ∈ L → ChFit w e ∧ e.was.length ≤ 20 ∧ e.is.length ≤ 20 := fun e he => by
      obtain ⟨j, hj⟩ := List.mem_iff_getElem?.1 he
      have hjl := (List.getElem?_eq_some_iff.1 hj).1
      exact ⟨hL e he, hok j e (by omega) hj⟩
    refine At.go [false] [] rfl oK ?_
    refine At.step [] rfl rfl rfl rfl rfl trivial (OpOk.call rfl (fun w' hw' => Tryd.Of_w L a ca w' (by omega) (ha.ext hw'.ext (by simp [kys]))) ?_)
    rintro _ _ _ ⟨rfl, g, c, rfl, rfl⟩
    have hP : ∀ {bx : Bx} {hp : List Seg}, nth hp 0 = some (Seg.row g 111 5 L.length c (L.flatMap chC)) → CallOb Tryd.prog ⟨w, kys [] []⟩ bx hp 19 [sv g L.length c] (str (chsB (L.map toB))) := fun {_ _} h w' hw' =>
      Tryd.changes_w L (svA g) c w' (by omega) (SlOk.row (hw'.hp _ (nth_mem h))) (fun e he => ⟨(hL' e he).1.ext hw'.ext, (hL' e he).2⟩) (tab_ext hW.pow hw'.ext) (hT.ext hw'.ext (by simp [kys]))
    have hQ : ∀ {bx : Bx} {hp : List Seg}, CallOb Tryd.prog ⟨w, kys [] []⟩ bx hp 21 [.slice a L.length ca] (str (chsB (L.map toB))) := fun {_ _} w' hw' =>
      Tryd.refChanges_w L a ca w' (by omega) (ha.ext hw'.ext (by simp [kys])) (fun e he => ⟨(hL' e he).1.ext hw'.ext, (hL' e he).2⟩)
    refine At.go [] [hC (.string { data := (chsB (List.map toB L)).toArray }), hC (.string { data := (chsB (List.map toB L)).toArray })] rfl (by and_intros <;> first | exact hP rfl | exact hQ | exact oK) ?_
    refine At.rt [] [] [] Tryd.func7 ?_
    exact ⟨by simp [tupV], rfl, rfl⟩
end Go.Proofs

/-
  Walks of layers 6, 16 and 32: names, numerals, numbers as words.
-/
import Derived.Test.YtgkphfipielnhaaDoorM16
import Derived.Test.YtgkphfipielnhaaDoorM7
import Derived.Test.YtgkphfipielnhaaDoorM24
import Derived.Test.YtgkphfipielnhaaDoorM25
import Derived.Test.YtgkphfipielnhaaDoorM19
import Derived.Test.YtgkphfipielnhaaDoorM2
import Derived.Test.YtgkphfipielnhaaDoorM5
import Derived.Test.YtgkphfipielnhaaDoorM20
/-
  Walks of layers 6, 16 and 32: names, numerals, numbers as words.
-/
namespace Go.Proofs
open Go Go.Eng
set_option maxRecDepth 100000
set_option maxHeartbeats 4000000
attribute [local irreducible] Tri

/-- The table of names lies in its variable. -/
def Tryd.Nms (W : World) : Prop := SlOk W (some ⟨1, 0, none⟩) (nameT.map str)
theorem Tryd.name_w (k : Int) (w : World) (hW : Tryd.Nms w) : Fun Tryd.prog 43 [.int .i64 k] w (str (nameB k)) := by
  refine Tri.enter (bx := []) (hp := []) Tryd.func43 rfl (by kernel_rfl) rfl (Own.nil w) ?_
  cases h1 : decide (k < 1) with
  | true =>
    refine At.go [true, true] [] rfl (by and_intros <;> first | exact h1 | exact oK) ?_
    refine At.rt [] [] [] Tryd.func43 ?_
    exact ⟨by rw [nameB_no (fun e => by have := of_decide_eq_true h1; omega)]; rfl, rfl, rfl⟩
  | false =>
    cases h2 : decide (8 ≤ k) with
    | true =>
      refine At.go [false, true] [] rfl (by and_intros <;> first | exact h1 | exact h2 | exact oK) ?_
      refine At.rt [] [] [] Tryd.func43 ?_
      exact ⟨by rw [nameB_no (fun e => by have := of_decide_eq_true h2; omega)]; rfl, rfl, rfl⟩
    | false =>
      obtain ⟨j, hj⟩ : ∃ j : Nat, k = j := ⟨k.toNat, by have := of_decide_eq_false h1; omega⟩
      subst hj
      have hb : decide (1 ≤ j ∧ j < 8) = true := by rw [decide_eq_true_eq]; have := of_decide_eq_false h1; have := of_decide_eq_false h2; omega
      obtain ⟨s, hs⟩ : ∃ s, nameT[j]? = some s := ⟨_, List.getElem?_eq_getElem (by have := of_decide_eq_true hb; exact this.2)⟩
      obtain ⟨g, o, he, hc⟩ := hW.get (by simp [nameT])
      injection he with he
      injection he with e1 e2 e3
      subst e1; subst e2
      have r : ∀ {bx : Bx} {hp : List Seg}, RdW ⟨w, kys [] []⟩ bx hp 1 (0 + (j : Int).toNat * 1) [str s] := fun {_ _} => RdW.base1 (by simp [kys]) (hc _ _ (by rw [Int.toNat_natCast, List.getElem?_map]; simp [hs]))
      refine At.go [false, false] [hR [.string { data := s.toArray }]] rfl (by and_intros <;> first | exact r | exact h1 | exact h2 | (have := of_decide_eq_true hb; omega) | exact oK) ?_
      refine At.rt [] [] [] Tryd.func43 ?_
      exact ⟨by rw [nameB_at hs (of_decide_eq_true hb).1]; rfl, rfl, rfl⟩
theorem Tryd.rName_w (k : Int) (w : World) : Fun Tryd.prog 47 [.int .i64 k] w (str (nameB k)) := by
  refine Tri.enter (bx := []) (hp := []) Tryd.func47 rfl (by kernel_rfl) rfl (Own.nil w) ?_
  by_cases h1 : k = 1
  · subst h1
    refine At.go [true] [] rfl (by and_intros <;> first | (simp; done) | exact oK) ?_
    refine At.rt [] [] [] Tryd.func47 ?_
    exact ⟨rfl, rfl, rfl⟩
  by_cases h2 : k = 2
  · subst h2
    refine At.go [false, true] [] rfl (by and_intros <;> first | (simp; done) | exact oK) ?_
    refine At.rt [] [] [] Tryd.func47 ?_
    exact ⟨rfl, rfl, rfl⟩
  by_cases h3 : k = 3
  · subst h3
    refine At.go [false, false, true] [] rfl (by and_intros <;> first | (simp; done) | exact oK) ?_
    refine At.rt [] [] [] Tryd.func47 ?_
    exact ⟨rfl, rfl, rfl⟩
  by_cases h4 : k = 4
  · subst h4
    refine At.go [false, false, false, true] [] rfl (by and_intros <;> first | (simp; done) | exact oK) ?_
    refine At.rt [] [] [] Tryd.func47 ?_
    exact ⟨rfl, rfl, rfl⟩
  by_cases h5 : k = 5
  · subst h5
    refine At.go [false, false, false, false, true] [] rfl (by and_intros <;> first | (simp; done) | exact oK) ?_
    refine At.rt [] [] [] Tryd.func47 ?_
    exact ⟨rfl, rfl, rfl⟩
  by_cases h6 : k = 6
  · subst h6
    refine At.go [false, false, false, false, false, true] [] rfl (by and_intros <;> first | (simp; done) | exact oK) ?_
    refine At.rt [] [] [] Tryd.func47 ?_
    exact ⟨rfl, rfl, rfl⟩
  by_cases h7 : k = 7
  · subst h7
    refine At.go [false, false, false, false, false, false, true] [] rfl (by and_intros <;> first | (simp; done) | exact oK) ?_
    refine At.rt [] [] [] Tryd.func47 ?_
    exact ⟨rfl, rfl, rfl⟩
  refine At.go [false, false, false, false, false, false, false] [] rfl (by and_intros <;> first | (simp [h1, h2, h3, h4, h5, h6, h7]; done) | exact oK) ?_
  refine At.rt [] [] [] Tryd.func47 ?_
  exact ⟨by rw [nameB_no (by omega)]; rfl, rfl, rfl⟩

theorem digS : ∀ d : Nat, d < 10 → (([48, 49, 50, 51, 52, 53, 54, 55, 56, 57] : List UInt8).drop d).take 1 = [UInt8.ofNat (48 + d)] := by decide
theorem tmod10 (u : Nat) : (-(u : Int)).tmod 10 = -((u % 10 : Nat) : Int) ∧ (-(u : Int)).tdiv 10 = -((u / 10 : Nat) : Int) := by
  rw [Int.neg_tmod, Int.neg_tdiv]
  exact ⟨rfl, rfl⟩
theorem Tryd.decP_w : ∀ (u : Nat), u ≤ 9223372036854775807 → ∀ w, Fun Tryd.prog 130 [.int .i64 u] w (str (Lib.itoa u)) := by
  intro u
  induction u using Nat.strongRecOn with
  | _ u ih =>
    intro hu w
    refine Tri.enter (bx := []) (hp := []) Tryd.func130 rfl (by kernel_rfl) rfl (Own.nil w) ?_
    by_cases h : u < 10
    · refine At.go [false, true] [] rfl (by and_intros <;> first | (simp [bl]; omega) | exact oK) ?_
      refine At.rt [] [] [] Tryd.func130 ?_
      exact ⟨by rw [itoa_small (by omega) (by omega), Int.toNat_natCast, show ((u : Int) + 1).toNat - u = 1 by omega]; exact congrArg str (digS u h), rfl, rfl⟩
    · have l1 := itoa_len (n := (u : Int) / 10) (by simp only [inK]; omega)
      have l2 := itoa_len (n := (u : Int) % 10) (by simp only [inK]; omega)
      have hD1 : ∀ {bx : Bx} {hp : List Seg}, CallOb Tryd.prog ⟨w, kys [] []⟩ bx hp 130 [.int .i64 ((u : Int) / 10)] (str (Lib.itoa ((u : Int) / 10))) := fun {_ _} w' _ => by
        rw [show (u : Int) / 10 = ((u / 10 : Nat) : Int) by omega]; exact ih (u / 10) (by omega) (by omega) w'
      have hD2 : ∀ {bx : Bx} {hp : List Seg}, CallOb Tryd.prog ⟨w, kys [] []⟩ bx hp 130 [.int .i64 ((u : Int) % 10)] (str (Lib.itoa ((u : Int) % 10))) := fun {_ _} w' _ => by
        rw [show (u : Int) % 10 = ((u % 10 : Nat) : Int) by omega]; exact ih (u % 10) (by omega) (by omega) w'
      refine At.go [false, false] [hC (.string { data := (Lib.itoa (↑u / 10)).toArray }), hC (.string { data := (Lib.itoa (↑u % 10)).toArray })] rfl (by and_intros <;> first | exact hD1 | exact hD2 | (simp [bl]; omega) | (simp; omega) | exact oK) ?_
      refine At.rt [] [] [] Tryd.func130 ?_
      exact ⟨by rw [itoa_step (n := (u : Int)) (by omega)]; exact str_add _ _, rfl, rfl⟩
theorem Tryd.dec_w (n : Int) (hn : inK .i64 n) (w : World) : Fun Tryd.prog 130 [.int .i64 n] w (str (Lib.itoa n)) := by
  simp only [inK] at hn
  by_cases h : 0 ≤ n
  · obtain ⟨u, rfl⟩ : ∃ u : Nat, n = u := ⟨n.toNat, by omega⟩
    exact Tryd.decP_w u (by omega) w
  · obtain ⟨u0, rfl⟩ : ∃ u : Nat, n = -(u : Int) := ⟨n.natAbs, by omega⟩
    have hL : (dd0 u0).length ≤ 20 := by
      have h1 := itoa_len (n := -(u0 : Int)) (by simp only [inK]; omega)
      rw [itoa_neg (by omega), Int.natAbs_neg, Int.natAbs_natCast, List.length_cons] at h1; omega
    refine Tri.enter (bx := []) (hp := []) Tryd.func130 rfl (by kernel_rfl) rfl (Own.nil w) ?_
    refine At.go [true] [] rfl (by and_intros <;> first | (simp; omega) | exact oK) ?_
    refine At.loop (env0 := [(0, .int .i64 (-↑u0)), (3, .string { data := #[] })]) (fun m_ env bx hp => ∃ (u : Nat) (s : List UInt8), m_ = u + 1 ∧ (u ≤ 9223372036854775808) ∧ (dd0 u ++ s = dd0 u0) ∧ env = [(0, .int .i64 (-(u : Int))), (3, str s)] ∧ bx = [] ∧ hp = []) rfl
      ⟨u0, [], rfl, (by omega), (List.append_nil _), rfl, rfl, rfl⟩ sB ?_
    rintro m_ env bx hp ⟨u, s, rfl, hu, hs, rfl, rfl, rfl⟩ ih
    have hsl : s.length ≤ 20 := by rw [← hs, List.length_append] at hL; omega
    by_cases hz : u = 0
    · subst hz
      refine At.go [false] [] rfl (by and_intros <;> first | (simp; done) | (simp [bl]; omega) | exact oK) ?_
      refine At.rt [] [] [] Tryd.func130 ?_
      exact ⟨by rw [itoa_neg (by omega), Int.natAbs_neg, Int.natAbs_natCast, ← hs]; exact str_add [45] s, rfl, rfl⟩
    · obtain ⟨t1, t2⟩ := tmod10 u
      have w1 : IntKind.i64.wrap (0 - (-(u : Int)).tmod 10) = ((u % 10 : Nat) : Int) := by rw [t1, wrap_i64]; omega
      have w2 : IntKind.i64.wrap (((u % 10 : Nat) : Int) + 1) = ((u % 10 : Nat) : Int) + 1 := by rw [wrap_i64]; omega
      have w3 : IntKind.i64.wrap ((-(u : Int)).tdiv 10) = -((u / 10 : Nat) : Int) := by rw [t2, wrap_i64]; omega
      refine At.gw [true] [] rfl (by and_intros <;> first | (simp; omega) | (simp only [w1, w2]; omega) | (simp only [w1, w2]; simp [bl]; omega) | exact oK) ?_
      rw [w3]
      have hst : List.take ((IntKind.i64.wrap (IntKind.i64.wrap (0 - (-(u : Int)).tmod 10) + 1)).toNat - (IntKind.i64.wrap (0 - (-(u : Int)).tmod 10)).toNat) (List.drop (IntKind.i64.wrap (0 - (-(u : Int)).tmod 10)).toNat (bl { data := #[48, 49, 50, 51, 52, 53, 54, 55, 56, 57] })) = [UInt8.ofNat (48 + u % 10)] := by
        rw [w1, w2, Int.toNat_natCast, show (((u % 10 : Nat) : Int) + 1).toNat - u % 10 = 1 by omega]
        exact digS (u % 10) (by omega)
      rw [hst]
      exact At.weak (ih _ _ _ _ (by omega) ⟨u / 10, UInt8.ofNat (48 + u % 10) :: s, rfl, by omega, by rw [← hs, dd0_step hz]; simp, rfl, rfl, rfl⟩) sB
theorem Tryd.Dec_w (n : Int) (hn : inK .i64 n) (w : World) : Fun Tryd.prog 85 [.int .i64 n] w (str (Lib.itoa n)) := by
  refine Tri.enter (bx := []) (hp := []) Tryd.func85 rfl (by kernel_rfl) rfl (Own.nil w) ?_
  have hD : ∀ {bx : Bx} {hp : List Seg}, CallOb Tryd.prog ⟨w, kys [] []⟩ bx hp 130 [.int .i64 n] (str (Lib.itoa n)) := fun {_ _} w' _ => Tryd.dec_w n hn w'
  refine At.go [] [hC (.string { data := (Lib.itoa n).toArray })] rfl (by and_intros <;> first | exact hD | exact oK) ?_
  refine At.rt [] [] [] Tryd.func85 ?_
  exact ⟨rfl, rfl, rfl⟩

/-- The table of powers lies in its variable. -/
def Tryd.Pow (W : World) : Prop := Lib.TabIs Tryd.prog W "internal/strconv.uint64pow10" .u64 Lib.pow10Tab
theorem Tryd.numbers_w (xs : List Int) (a : Option Addr) (c : Nat) (w : World) (hx : ∀ x, x ∈ xs → inK .i64 x) (hl : xs.length ≤ 1000000) (ha : SlOk w a (i64s xs)) (hT : Tryd.Pow w) :
    Fun Tryd.prog 44 [.slice a xs.length c] w (str (numsB xs)) := by
  refine Tri.enter (bx := []) (hp := []) Tryd.func44 rfl (by kernel_rfl) rfl (Own.nil w) ?_
  refine At.go [] [] rfl oK ?_
  refine At.loop (env0 := [(3, .string { data := #[] }), (6, .slice a xs.length c), (7, .int .i64 ↑xs.length), (8, .int .i64 0)]) (fun m_ env bx hp => ∃ (i : Nat) (s : List UInt8), m_ = xs.length - i ∧ (i ≤ xs.length) ∧ (s = numsB (xs.take i)) ∧ env = [(3, str s), (6, .slice a xs.length c), (7, .int .i64 ↑xs.length), (8, .int .i64 i)] ∧ bx = [] ∧ hp = []) rfl
    ⟨0, [], rfl, (by omega), (rfl), rfl, rfl, rfl⟩ sB ?_
  rintro m_ env bx hp ⟨i, s, rfl, hi, hs, rfl, rfl, rfl⟩ ih
  have hsl : s.length ≤ 21 * i := by
    have h1 := numsB_len (xs := xs.take i) fun x h => hx x (List.mem_of_mem_take h)
    have h2 := List.length_take_le i xs
    rw [hs]; omega
  by_cases hlt : i < xs.length
  · obtain ⟨x, hxi⟩ : ∃ x, xs[i]? = some x := ⟨_, List.getElem?_eq_getElem hlt⟩
    have hk := hx x (List.mem_of_getElem? hxi)
    have hxl := itoa_len hk
    obtain ⟨g, o, rfl, hc⟩ := ha.get (fun e => by rw [← i64s_len xs, e] at hlt; simp at hlt)
    have r : ∀ {bx : Bx} {hp : List Seg}, RdW ⟨w, kys [] []⟩ bx hp g (o + (i : Int).toNat * 1) [.int .i64 x] := fun {_ _} => RdW.base1 (by simp [kys]) (by rw [Int.toNat_natCast, Nat.mul_one]; exact hc i _ (i64s_get hxi))
    have hF : ∀ {bx : Bx} {hp : List Seg}, CallOb Tryd.prog ⟨w, kys [] []⟩ bx hp 81 [.int .i64 x, .int .i64 10] (str (Lib.itoa x)) := fun {_ _} w' hw' => Fun.ofGrow Tryd.func81 (Tryd.strconv_FormatInt_10 x (by simp only [inK] at hk; omega) (by simp only [inK] at hk; omega) w' (tab_ext hT hw'.ext))
    refine At.go [true] [hR [.int .i64 x], hC (.string { data := (Lib.itoa x).toArray })] rfl (by and_intros <;> first | exact r | exact hF | (simp [bl]; omega) | exact oK) ?_
    exact At.weak (ih _ _ _ _ (by omega) ⟨i + 1, s ++ ([32] ++ Lib.itoa x), rfl, by omega, by rw [hs, List.take_add_one, hxi]; exact (numsB_snoc _ _).symm, rfl, rfl, rfl⟩) sB
  · refine At.go [false] [] rfl oK ?_
    refine At.rt [] [] [] Tryd.func44 ?_
    exact ⟨by rw [hs, List.take_of_length_le (by omega)]; rfl, rfl, rfl⟩
theorem Tryd.rNumbers_w (xs : List Int) (a : Option Addr) (c : Nat) (w : World) (hx : ∀ x, x ∈ xs → inK .i64 x) (hl : xs.length ≤ 1000000) (ha : SlOk w a (i64s xs)) :
    Fun Tryd.prog 48 [.slice a xs.length c] w (str (numsB xs)) := by
  refine Tri.enter (bx := []) (hp := []) Tryd.func48 rfl (by kernel_rfl) rfl (Own.nil w) ?_
  refine At.go [] [] rfl oK ?_
  refine At.loop (env0 := [(0, .slice a xs.length c), (3, .string { data := #[] }), (4, .int .i64 0)]) (fun m_ env bx hp => ∃ (i : Nat) (s : List UInt8), m_ = xs.length - i ∧ (i ≤ xs.length) ∧ (s = numsB (xs.take i)) ∧ env = [(0, .slice a xs.length c), (3, str s), (4, .int .i64 i)] ∧ bx = [] ∧ hp = []) rfl
    ⟨0, [], rfl, (by omega), (rfl), rfl, rfl, rfl⟩ sB ?_
  rintro m_ env bx hp ⟨i, s, rfl, hi, hs, rfl, rfl, rfl⟩ ih
  have hsl : s.length ≤ 21 * i := by
    have h1 := numsB_len (xs := xs.take i) fun x h => hx x (List.mem_of_mem_take h)
    have h2 := List.length_take_le i xs
    rw [hs]; omega
  by_cases hlt : i < xs.length
  · obtain ⟨x, hxi⟩ : ∃ x, xs[i]? = some x := ⟨_, List.getElem?_eq_getElem hlt⟩
    have hk := hx x (List.mem_of_getElem? hxi)
    have hxl := itoa_len hk
    obtain ⟨g, o, rfl, hc⟩ := ha.get (fun e => by rw [← i64s_len xs, e] at hlt; simp at hlt)
    have r : ∀ {bx : Bx} {hp : List Seg}, RdW ⟨w, kys [] []⟩ bx hp g (o + (i : Int).toNat * 1) [.int .i64 x] := fun {_ _} => RdW.base1 (by simp [kys]) (by rw [Int.toNat_natCast, Nat.mul_one]; exact hc i _ (i64s_get hxi))
    have hF : ∀ {bx : Bx} {hp : List Seg}, CallOb Tryd.prog ⟨w, kys [] []⟩ bx hp 85 [.int .i64 x] (str (Lib.itoa x)) := fun {_ _} w' _ => Tryd.Dec_w x hk w'
    refine At.go [true] [hR [.int .i64 x], hC (.string { data := (Lib.itoa x).toArray })] rfl (by and_intros <;> first | exact r | exact hF | (simp [bl]; omega) | exact oK) ?_
    exact At.weak (ih _ _ _ _ (by omega) ⟨i + 1, (s ++ [32]) ++ Lib.itoa x, rfl, by omega, by rw [hs, List.take_add_one, hxi, List.append_assoc]; exact (numsB_snoc _ _).symm, rfl, rfl, rfl⟩) sB
  · refine At.go [false] [] rfl oK ?_
    refine At.rt [] [] [] Tryd.func48 ?_
    exact ⟨by rw [hs, List.take_of_length_le (by omega)]; rfl, rfl, rfl⟩
end Go.Proofs

/-
  Walks of layer 32: an event's line.
-/
namespace Go.Proofs
open Go Go.Eng
set_option maxRecDepth 100000
set_option maxHeartbeats 4000000
attribute [local irreducible] Tri

theorem seven {p : List Int} (h : p.length = 7) : ∃ a b c d e f g, p = [a, b, c, d, e, f, g] := by
  match p, h with
  | [a, b, c, d, e, f, g], _ => exact ⟨a, b, c, d, e, f, g, rfl⟩
theorem _root_.Go.Eng.SlOk.bxTake {S : Base} {bx : Bx} {hp : List Seg} {w : World} {k b t m : Nat} {xs : List Int} (hw : WOk S bx hp w) (h : nth bx k = some (b, t, i64s xs)) : SlOk w (some ⟨b, 0, none⟩) (i64s (xs.take m)) := .inr ⟨b, 0, rfl, fun j u hu => by
  rw [Nat.zero_add]
  have := hw.bx _ (nth_mem h)
  have hu' : (i64s xs)[j]? = some u := by
    unfold i64s at hu ⊢
    rw [List.getElem?_map] at hu ⊢
    obtain ⟨x, hx, rfl⟩ := Option.map_eq_some_iff.1 hu
    rw [List.getElem?_take] at hx
    split at hx
    · rw [hx]; rfl
    · cases hx
  simp [World.cell?, this, hu']⟩
theorem pg_at {p : List Int} {k : Nat} (h : k < p.length) : p[k]? = some (pg p k) := by
  unfold pg; rw [List.getD_eq_getElem?_getD, List.getElem?_eq_getElem h]; rfl
theorem _root_.Go.Eng.RdW.bxAt {S : Base} {bx : Bx} {hp : List Seg} {k b t i off : Nat} {xs : List Int} (h : nth bx k = some (b, t, i64s xs)) (hi : i < xs.length) (ho : off = i) : RdW S bx hp b off [.int .i64 (pg xs i)] := RdW.blk h fun j u hu => by
  match j, hu with
  | 0, hu => simp at hu; subst hu; rw [ho, Nat.add_zero]; exact i64s_get (pg_at hi)

theorem Tryd.print_w (p : List Int) (hl : p.length = 7) (hin : ∀ x, x ∈ p → inK .i64 x) (w : World) (hW : Tryd.Nms w) (hT : Tryd.Pow w) : Fun Tryd.prog 15 [.agg ⟨i64s p⟩] w (str (printB p)) := by
  obtain ⟨p0, p1, p2, p3, p4, p5, p6, hpe⟩ := seven hl
  have hap : (.agg ⟨i64s p⟩ : Value) = .agg ⟨[.int .i64 p0, .int .i64 p1, .int .i64 p2, .int .i64 p3, .int .i64 p4, .int .i64 p5, .int .i64 p6]⟩ := by rw [hpe]; rfl
  have hcs : i64s p = [.int .i64 p0, .int .i64 p1, .int .i64 p2, .int .i64 p3, .int .i64 p4, .int .i64 p5, .int .i64 p6] := by rw [hpe]; rfl
  have h0p : pg p 0 = p0 := by rw [hpe]; rfl
  have hnm := (nameB_ok (pg p 0)).1
  rw [hap]
  refine Tri.enter (bx := []) (hp := []) Tryd.func15 rfl (by kernel_rfl) rfl (Own.nil w) ?_
  refine At.go [] [] rfl oK ?_
  refine At.bo fun b1 hb1 => ?_
  refine At.go [] [hB 0, hB 0, hB 0, hB 0, hB 0, hB 0, hB 0] rfl oK ?_
  refine At.st [] (OpOk.buildSlice rfl rfl rfl rfl rfl rfl rfl (fun b hb => ?_))
  refine At.go [] [] rfl oK ?_
  refine At.loop (env0 := [(1, .pointer (some ⟨b1, 0, none⟩)), (3, .slice (some ⟨b, 0, none⟩) 7 7)]) (fun m_ env bx hp => ∃ (m : Nat), m_ = m + 1 ∧ (m ≤ 7) ∧ (tz p m = tz p 7) ∧ env = [(1, .pointer (some ⟨b1, 0, none⟩)), (3, .slice (some ⟨b, 0, none⟩) m 7)] ∧ bx = [(b, 2, [.int .i64 p0, .int .i64 p1, .int .i64 p2, .int .i64 p3, .int .i64 p4, .int .i64 p5, .int .i64 p6]), (b1, 36, [.int .i64 p0, .int .i64 p1, .int .i64 p2, .int .i64 p3, .int .i64 p4, .int .i64 p5, .int .i64 p6])] ∧ hp = []) rfl
    ⟨7, rfl, (by omega), (rfl), rfl, rfl, rfl⟩ sB ?_
  rintro m_ env bx hp ⟨m, rfl, hm, ht, rfl, rfl, rfl⟩ ih
  have hN : ∀ {bx : Bx} {hp : List Seg}, CallOb Tryd.prog ⟨w, kys [] []⟩ bx hp 43 [.int .i64 p0] (str (nameB (pg p 0))) := fun {_ _} w' hw' => by rw [h0p]; exact Tryd.name_w p0 w' (hW.ext hw'.ext (by simp [kys]))
  have hNs : ∀ {bx : Bx} {hp : List Seg} (k : Nat), nth bx k = some (b, 2, [.int .i64 p0, .int .i64 p1, .int .i64 p2, .int .i64 p3, .int .i64 p4, .int .i64 p5, .int .i64 p6]) → CallOb Tryd.prog ⟨w, kys [] []⟩ bx hp 44 [.slice (some ⟨b, 0, none⟩) m 7] (str (numsB (p.take m))) := fun {_ _} k h w' hw' => by
    have h1 : (p.take m).length = m := by rw [List.length_take]; omega
    have := Tryd.numbers_w (p.take m) (some ⟨b, 0, none⟩) 7 w' (fun x hx => hin x (List.mem_of_mem_take hx)) (by omega) (SlOk.bxTake hw' (by rw [hcs]; exact h)) (tab_ext hT hw'.ext)
    rw [h1] at this; exact this
  have hnl : (numsB (p.take m)).length ≤ 147 := by
    have h1 := numsB_len (xs := p.take m) fun x hx => hin x (List.mem_of_mem_take hx)
    have h2 := List.length_take_le m p
    omega
  by_cases h0 : m = 0
  · subst h0
    refine At.go [false, false] [hB 1, hC (.string { data := (nameB (pg p 0)).toArray }), hC (.string { data := (numsB (List.take 0 p)).toArray })] rfl (by and_intros <;> first | exact hN | exact hNs 0 rfl | (rw [bl_of, bl_of]; omega) | exact oK) ?_
    refine At.rt [] [] [] Tryd.func15 ?_
    exact ⟨by unfold printB; rw [← ht]; exact str_add _ _, rfl, rfl⟩
  · obtain ⟨k, rfl⟩ : ∃ k, m = k + 1 := ⟨m - 1, by omega⟩
    have r : ∀ {bx : Bx} {hp : List Seg} (i : Nat), nth bx i = some (b, 2, [.int .i64 p0, .int .i64 p1, .int .i64 p2, .int .i64 p3, .int .i64 p4, .int .i64 p5, .int .i64 p6]) → RdW ⟨w, kys [] []⟩ bx hp b (0 + (((k + 1 : Nat) : Int) - 1).toNat * 1) [.int .i64 (pg p k)] := fun {_ _} i h => RdW.bxAt (xs := p) (by rw [hcs]; exact h) (by omega) (by omega)
    by_cases hz : pg p k = 0
    · refine At.go [true, true] [hR [.int .i64 (pg p k)]] rfl (by and_intros <;> first | exact r 0 rfl | (simp [hz]; done) | (simp; omega) | exact oK) ?_
      rw [show (((k + 1 : Nat) : Int) - 1).toNat = k by omega]
      exact At.weak (ih _ _ _ _ (by omega) ⟨k, rfl, by omega, by rw [← ht, tz_cut hz], rfl, rfl, rfl⟩) sB
    · have hst := tz_stop (p := p) (m := k) hz
      refine At.go [true, false] [hR [.int .i64 (pg p k)], hB 1, hC (.string { data := (nameB (pg p 0)).toArray }), hC (.string { data := (numsB (List.take (k + 1) p)).toArray })] rfl (by and_intros <;> first | exact r 0 rfl | exact hN | exact hNs 0 rfl | (simp [hz]; done) | (simp [bl]; omega) | exact oK) ?_
      refine At.rt [] [] [] Tryd.func15 ?_
      exact ⟨by unfold printB; rw [← ht, hst]; exact str_add _ _, rfl, rfl⟩

theorem Tryd.rPrint_w (p : List Int) (hl : p.length = 7) (hin : ∀ x, x ∈ p → inK .i64 x) (w : World) : Fun Tryd.prog 17 [.agg ⟨i64s p⟩] w (str (printB p)) := by
  obtain ⟨p0, p1, p2, p3, p4, p5, p6, hpe⟩ := seven hl
  have hap : (.agg ⟨i64s p⟩ : Value) = .agg ⟨[.int .i64 p0, .int .i64 p1, .int .i64 p2, .int .i64 p3, .int .i64 p4, .int .i64 p5, .int .i64 p6]⟩ := by rw [hpe]; rfl
  have hcs : i64s p = [.int .i64 p0, .int .i64 p1, .int .i64 p2, .int .i64 p3, .int .i64 p4, .int .i64 p5, .int .i64 p6] := by rw [hpe]; rfl
  have h0p : pg p 0 = p0 := by rw [hpe]; rfl
  have hnm := (nameB_ok (pg p 0)).1
  rw [hap]
  refine Tri.enter (bx := []) (hp := []) Tryd.func17 rfl (by kernel_rfl) rfl (Own.nil w) ?_
  refine At.go [] [] rfl oK ?_
  refine At.bo fun b1 hb1 => ?_
  refine At.go [] [hB 0, hB 0, hB 0, hB 0, hB 0, hB 0, hB 0] rfl oK ?_
  refine At.st [] (OpOk.buildSlice rfl rfl rfl rfl rfl rfl rfl (fun b hb => ?_))
  refine At.go [] [] rfl oK ?_
  refine At.loop (env0 := [(1, .pointer (some ⟨b1, 0, none⟩)), (3, .slice (some ⟨b, 0, none⟩) 7 7), (4, .int .i64 0), (5, .int .i64 0)]) (fun m_ env bx hp => ∃ (m : Nat), m_ = 7 - m ∧ (m ≤ 7) ∧ env = [(1, .pointer (some ⟨b1, 0, none⟩)), (3, .slice (some ⟨b, 0, none⟩) 7 7), (4, .int .i64 (tz p m : Nat)), (5, .int .i64 m)] ∧ bx = [(b, 2, [.int .i64 p0, .int .i64 p1, .int .i64 p2, .int .i64 p3, .int .i64 p4, .int .i64 p5, .int .i64 p6]), (b1, 36, [.int .i64 p0, .int .i64 p1, .int .i64 p2, .int .i64 p3, .int .i64 p4, .int .i64 p5, .int .i64 p6])] ∧ hp = []) rfl
    ⟨0, rfl, (by omega), rfl, rfl, rfl⟩ sB ?_
  rintro m_ env bx hp ⟨m, rfl, hm, rfl, rfl, rfl⟩ ih
  by_cases hlt : m < 7
  · have r : ∀ {bx : Bx} {hp : List Seg} (i : Nat), nth bx i = some (b, 2, [.int .i64 p0, .int .i64 p1, .int .i64 p2, .int .i64 p3, .int .i64 p4, .int .i64 p5, .int .i64 p6]) → RdW ⟨w, kys [] []⟩ bx hp b (0 + (m : Int).toNat * 1) [.int .i64 (pg p m)] := fun {_ _} i h => RdW.bxAt (xs := p) (by rw [hcs]; exact h) (by omega) (by omega)
    by_cases hz : pg p m = 0
    · rw [← tz_cut hz]
      refine At.go [true, false] [hR [.int .i64 (pg p m)]] rfl (by and_intros <;> first | exact r 0 rfl | (simp [hz]; done) | (simp; omega) | exact oK) ?_
      exact At.weak (ih _ _ _ _ (by omega) ⟨m + 1, rfl, by omega, rfl, rfl, rfl⟩) sB
    · have hst := tz_stop (p := p) (m := m) hz
      refine At.go [true, true] [hR [.int .i64 (pg p m)]] rfl (by and_intros <;> first | exact r 0 rfl | (simp [hz]; done) | (simp; omega) | exact oK) ?_
      exact At.weak (ih _ _ _ _ (by omega) ⟨m + 1, rfl, by omega, rfl, rfl, rfl⟩) sB
  · obtain rfl : m = 7 := by omega
    have hN : ∀ {bx : Bx} {hp : List Seg}, CallOb Tryd.prog ⟨w, kys [] []⟩ bx hp 47 [.int .i64 p0] (str (nameB (pg p 0))) := fun {_ _} w' _ => by rw [h0p]; exact Tryd.rName_w p0 w'
    have htz := tz_le p 7
    have hNs : ∀ {bx : Bx} {hp : List Seg} (k : Nat), nth bx k = some (b, 2, [.int .i64 p0, .int .i64 p1, .int .i64 p2, .int .i64 p3, .int .i64 p4, .int .i64 p5, .int .i64 p6]) → CallOb Tryd.prog ⟨w, kys [] []⟩ bx hp 48 [.slice (some ⟨b, 0, none⟩) ((tz p 7 : Nat) : Int).toNat 7] (str (numsB (p.take (tz p 7)))) := fun {_ _} k h w' hw' => by
      have h1 : (p.take (tz p 7)).length = tz p 7 := by rw [List.length_take]; omega
      have := Tryd.rNumbers_w (p.take (tz p 7)) (some ⟨b, 0, none⟩) 7 w' (fun x hx => hin x (List.mem_of_mem_take hx)) (by omega) (SlOk.bxTake hw' (by rw [hcs]; exact h))
      rw [h1] at this; exact this
    have hnl : (numsB (p.take (tz p 7))).length ≤ 147 := by
      have h1 := numsB_len (xs := p.take (tz p 7)) fun x hx => hin x (List.mem_of_mem_take hx)
      have h2 := List.length_take_le (tz p 7) p
      omega
    refine At.go [false] [] rfl (by and_intros <;> first | exact hN | exact hNs 0 rfl | (simp [bl]; omega) | exact oK) ?_
    refine At.qt [] [hB 1, hC (.string { data := (nameB (pg p 0)).toArray }), hC (.string { data := (numsB (List.take (tz p 7) p)).toArray })] rfl rfl (by and_intros <;> first | exact hN | exact hNs 0 rfl | (simp [bl]; omega) | exact oK) ?_
    refine At.go [] [] rfl (by and_intros <;> first | exact hN | exact hNs 0 rfl | (simp [bl]; omega) | exact oK) ?_
    refine At.rt [] [] [] Tryd.func17 ?_
    exact ⟨by unfold printB; exact str_add _ _, rfl, rfl⟩
end Go.Proofs

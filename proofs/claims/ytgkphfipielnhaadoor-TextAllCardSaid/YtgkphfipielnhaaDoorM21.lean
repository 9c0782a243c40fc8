/-
  Walks of layers 6, 16 and 32: names, numerals, numbers as words.
-/
import Derived.Test.YtgkphfipielnhaaDoorM16
import Derived.Test.YtgkphfipielnhaaDoorM7
import Derived.Test.YtgkphfipielnhaaDoorM17
import Derived.Test.YtgkphfipielnhaaDoorM18
import Derived.Test.YtgkphfipielnhaaDoorM19
import Derived.Test.YtgkphfipielnhaaDoorM2
import Derived.Test.YtgkphfipielnhaaDoorM5
import Derived.Test.YtgkphfipielnhaaDoorM20
/-
  Walks of layers 6, 16 and 32: names, numerals, numbers as words.
-/
namespace Go.Proofs
open Go Go.Eng
set_option maxRecDepth 100000
set_option maxHeartbeats 4000000
attribute [local irreducible] Tri

/-- The table of names lies in its variable. -/
def Tryd.Nms (W : World) : Prop := SlOk W (some ⟨1, 0, none⟩) (nameT.map str)
theorem Tryd.name_w (k : Int) (w : World) (hW : Tryd.Nms w) : Fun Tryd.prog 43 [.int .i64 k] w (str (nameB k)) := by
  refine Tri.enter (bx := []) (hp := []) Tryd.func43 rfl (by kernel_rfl) rfl (Own.nil w) ?_
  cases h1 : decide (k < 1) with
  | true =>
    refine At.go [true, true] [] rfl (by and_intros <;> first | exact h1 | exact oK) ?_
    refine At.rt [] [] [] Tryd.func43 ?_
    exact ⟨by rw [nameB_no (fun e => by have := of_decide_eq_true h1; omega)]; rfl, rfl, rfl⟩
  | false =>
    cases h2 : decide (8 ≤ k) with
    | true =>
      refine At.go [false, true] [] rfl (by and_intros <;> first | exact h1 | exact h2 | exact oK) ?_
      refine At.rt [] [] [] Tryd.func43 ?_
      exact ⟨by rw [nameB_no (fun e => by have := of_decide_eq_true h2; omega)]; rfl, rfl, rfl⟩
    | false =>
      obtain ⟨j, hj⟩ : ∃ j : Nat, k = j := ⟨k.toNat, by have := of_decide_eq_false h1; omega⟩
      subst hj
      have hb : decide (1 ≤ j ∧ j < 8) = true := by rw [decide_eq_true_eq]; have := of_decide_eq_false h1; have := of_decide_eq_false h2; omega
      obtain ⟨s, hs⟩ : ∃ s, nameT[j]? = some s := ⟨_, List.getElem?_eq_getElem (by have := of_decide_eq_true hb; exact this.2)⟩
      obtain ⟨g, o, he, hc⟩ := hW.get (by simp [nameT])
      injection he with he
      injection he with e1 e2 e3
      subst e1; subst e2
      have r : ∀ {bx : Bx} {hp : List Seg}, RdW ⟨w, kys [] []⟩ bx hp 1 (0 + (j : Int).toNat * 1) [str s] := fun {_ _} => RdW.base1 (by simp [kys]) (hc _ _ (by rw [Int.toNat_natCast, List.getElem?_map]; simp [hs]))
      refine At.go [false, false] [hR [.string { data := s.toArray }]] rfl (by and_intros <;> first | exact r | exact h1 | exact h2 | (have := of_decide_eq_true hb; omega) | exact oK) ?_
      refine At.rt [] [] [] Tryd.func43 ?_
      exact ⟨by rw [nameB_at hs (of_decide_eq_true hb).1]; rfl, rfl, rfl⟩
theorem Tryd.rName_w (k : Int) (w : World) : Fun Tryd.prog 47 [.int .i64 k] w (str (nameB k)) := by
  refine Tri.enter (bx := []) (hp := []) Tryd.func47 rfl (by kernel_rfl) rfl (Own.nil w) ?_
  by_cases h1 : k = 1
  · subst h1
    refine At.go [true] [] rfl (by and_intros <;> first | (simp; done) | exact oK) ?_
    refine At.rt [] [] [] Tryd.func47 ?_
    exact ⟨rfl, rfl, rfl⟩
  by_cases h2 : k = 2
  · subst h2
    refine At.go [false, true] [] rfl (by and_intros <;> first | (simp; done) | exact oK) ?_
    refine At.rt [] [] [] Tryd.func47 ?_
    exact ⟨rfl, rfl, rfl⟩
  by_cases h3 : k = 3
  · subst h3
    refine At.go [false, false, true] [] rfl (by and_intros <;> first | (simp; done) | exact oK) ?_
    refine At.rt [] [] [] Tryd.func47 ?_
    exact ⟨rfl, rfl, rfl⟩
  by_cases h4 : k = 4
  · subst h4
    refine At.go [false, false, false, true] [] rfl (by and_intros <;> first | (simp; done) | exact oK) ?_
    refine At.rt [] [] [] Tryd.func47 ?_
    exact ⟨rfl, rfl, rfl⟩
  by_cases h5 : k = 5
  · subst h5
    refine At.go [false, false, false, false, true] [] rfl (by and_intros <;> first | (simp; done) | exact oK) ?_
    refine At.rt [] [] [] Tryd.func47 ?_
    exact ⟨rfl, rfl, rfl⟩
  by_cases h6 : k = 6
  · subst h6
    refine At.go [false, false, false, false, false, true] [] rfl (by and_intros <;> first | (simp; done) | exact oK) ?_
    refine At.rt [] [] [] Tryd.func47 ?_
    exact ⟨rfl, rfl, rfl⟩
  by_cases h7 : k = 7
  · subst h7
    refine At.go [false, false, false, false, false, false, true] [] rfl (by and_intros <;> first | (simp; done) | exact oK) ?_
    refine At.rt [] [] [] Tryd.func47 ?_
    exact ⟨rfl, rfl, rfl⟩
  refine At.go [false, false, false, false, false, false, false] [] rfl (by and_intros <;> first | (simp [h1, h2, h3, h4, h5, h6, h7]; done) | exact oK) ?_
  refine At.rt [] [] [] Tryd.func47 ?_
  exact ⟨by rw [nameB_no (by omega)]; rfl, rfl, rfl⟩

theorem digS : ∀ d : Nat, d < 10 → (([48, 49, 50, 51, 52, 53, 54, 55, 56, 57] : List UInt8).drop d).take 1 = [UInt8.ofNat (48 + d)] := by decide
theorem tmod10 (u : Nat) : (-(u : Int)).tmod 10 = -((u % 10 : Nat) : Int) ∧ (-(u : Int)).tdiv 10 = -((u / 10 : Nat) : Int) := by
  rw [Int.neg_tmod, Int.neg_tdiv]
  exact ⟨rfl, rfl⟩
theorem Tryd.decP_w : ∀ (u : Nat), u ≤ 9223372036854775807 → ∀ w, Fun Tryd.prog 130 [.int .i64 u] w (str (Lib.itoa u)) := by
  intro u
  induction u using Nat.strongRecOn with
  | _ u ih =>
    intro hu w
    refine Tri.enter (bx := []) (hp := []) Tryd.func130 rfl (by kernel_rfl) rfl (Own.nil w) ?_
    by_cases h : u < 10
    · refine At.go [false, true] [] rfl (by and_intros <;> first | (simp [bl]; omega) | exact oK) ?_
      refine At.rt [] [] [] Tryd.func130 ?_
      exact ⟨by rw [itoa_small (by omega) (by omega), Int.toNat_natCast, show ((u : Int) + 1).toNat - u = 1 by omega]; exact congrArg str (digS u h), rfl, rfl⟩
    · have l1 := itoa_len (n := (u : Int) / 10) (by simp only [inK]; omega)
      have l2 := itoa_len (n := (u : Int) % 10) (by simp only [inK]; omega)
      have hD1 : ∀ {bx : Bx} {hp : List Seg}, CallOb Tryd.prog ⟨w, kys [] []⟩ bx hp 130 [.int .i64 ((u : Int) / 10)] (str (Lib.itoa ((u : Int) / 10))) := fun {_ _} w' _ => by
        rw [show (u : Int) / 10 = ((u / 10 : Nat) : Int) by omega]; exact ih (u / 10) (by omega) (by omega) w'
      have hD2 : ∀ {bx : Bx} {hp : List Seg}, CallOb Tryd.prog ⟨w, kys [] []⟩ bx hp 130 [.int .i64 ((u : Int) % 10)] (str (Lib.itoa ((u : Int) % 10))) := fun {_ _} w' _ => by
        rw [show (u : Int) % 10 = ((u % 10 : Nat) : Int) by omega]; exact ih (u % 10) (by omega) (by omega) w'
      refine At.go [false, false] [hC (.string { data := (Lib.itoa (↑u / 10)).toArray }), hC (.string { data := (Lib.itoa (↑u % 10)).toArray })] rfl (by and_intros <;> first | exact hD1 | exact hD2 | (simp [bl]; omega) | (simp; omega) | exact oK) ?_
      refine At.rt [] [] [] Tryd.func130 ?_
      exact ⟨by rw [itoa_step (n := (u : Int)) (by omega)]; exact str_add _ _, rfl, rfl⟩
theorem Tryd.dec_w (n : Int) (hn : inK .i64 n) (w : World) : Fun Tryd.prog 130 [.int .i64 n] w (str (Lib.itoa n)) := by
  simp only [inK] at hn
  by_cases h : 0 ≤ n
  · obtain ⟨u, rfl⟩ : ∃ u : Nat, n = u := ⟨n.toNat, by omega⟩
    exact Tryd.decP_w u (by omega) w
  · obtain ⟨u0, rfl⟩ : ∃ u : Nat, n = -(u : Int) := ⟨n.natAbs, by omega⟩
    have hL : (dd0 u0).length ≤ 20 := by
      have h1 := itoa_len (n := -(u0 : Int)) (by simp only [inK]; omega)
      rw [itoa_neg (by omega), Int.natAbs_neg, Int.natAbs_natCast, List.length_cons] at h1; omega
    refine Tri.enter (bx := []) (hp := []) Tryd.func130 rfl (by kernel_rfl) rfl (Own.nil w) ?_
    refine At.go [true] [] rfl (by and_intros <;> first | (simp; omega) | exact oK) ?_
    refine At.loop (env0 := [(0, .int .i64 (-↑u0)), (3, .string { data := #[] })]) (fun m_ env bx hp => ∃ (u : Nat) (s : List UInt8), m_ = u + 1 ∧ (u ≤ 9223372036854775808) ∧ (dd0 u ++ s = dd0 u0) ∧ env = [(0, .int .i64 (-(u : Int))), (3, str s)] ∧ bx = [] ∧ hp = []) rfl
      ⟨u0, [], rfl, (by omega), (List.append_nil _), rfl, rfl, rfl⟩ sB ?_
    rintro m_ env bx hp ⟨u, s, rfl, hu, hs, rfl, rfl, rfl⟩ ih
    have hsl : s.length ≤ 20 := by rw [← hs, List.length_append] at hL; omega
    by_cases hz : u = 0
    · subst hz
      refine At.go [false] [] rfl (by and_intros <;> first | (simp; done) | (simp [bl]; omega) | exact oK) ?_
      refine At.rt [] [] [] Tryd.func130 ?_
      exact ⟨by rw [itoa_neg (by omega), Int.natAbs_neg, Int.natAbs_natCast, ← hs]; exact str_add [45] s, rfl, rfl⟩
    · obtain ⟨t1, t2⟩ := tmod10 u
      have w1 : IntKind.i64.wrap (0 - (-(u : Int)).tmod 10) = ((u % 10 : Nat) : Int) := by rw [t1, wrap_i64]; omega
      have w2 : IntKind.i64.wrap (((u % 10 : Nat) : Int) + 1) = ((u % 10 : Nat) : Int) + 1 := by rw [wrap_i64]; omega
      have w3 : IntKind.i64.wrap ((-(u : Int)).tdiv 10) = -((u / 10 : Nat) : Int) := by rw [t2, wrap_i64]; omega
      refine At.gw [true] [] rfl (by and_intros <;> first | (simp; omega) | (simp only [w1, w2]; omega) | (simp only [w1, w2]; simp [bl]; omega) | exact oK) ?_
      rw [w3]
      have hst : List.take ((IntKind.i64.wrap (IntKind.i64.wrap (0 - (-(u : Int)).tmod 10) + 1)).toNat - (IntKind.i64.wrap (0 - (-(u : Int)).tmod 10)).toNat) (List.drop (IntKind.i64.wrap (0 - (-(u : Int)).tmod 10)).toNat (bl { data := #[48, 49, 50, 51, 52, 53, 54, 55, 56, 57] })) = [UInt8.ofNat (48 + u % 10)] := by
        rw [w1, w2, Int.toNat_natCast, show (((u % 10 : Nat) : Int) + 1).toNat - u % 10 = 1 by omega]
        exact digS (u % 10) (by omega)
      rw [hst]
      exact At.weak (ih _ _ _ _ (by omega) ⟨u / 10, UInt8.ofNat (48 + u % 10) :: s, rfl, by omega, by rw [← hs, dd0_step hz]; simp, rfl, rfl, rfl⟩) sB
theorem Tryd.Dec_w (n : Int) (hn : inK .i64 n) (w : World) : Fun Tryd.prog 85 [.int .i64 n] w (str (Lib.itoa n)) := by
  refine Tri.enter (bx := []) (hp := []) Tryd.func85 rfl (by kernel_rfl) rfl (Own.nil w) ?_
  have hD : ∀ {bx : Bx} {hp : List Seg}, CallOb Tryd.prog ⟨w, kys [] []⟩ bx hp 130 [.int .i64 n] (str (Lib.itoa n)) := fun {_ _} w' _ => Tryd.dec_w n hn w'
  refine At.go [] [hC (.string { data := (Lib.itoa n).toArray })] rfl (by and_intros <;> first | exact hD | exact oK) ?_
  refine At.rt [] [] [] Tryd.func85 ?_
  exact ⟨rfl, rfl, rfl⟩

/-- The table of powers lies in its variable. -/
def Tryd.Pow (W : World) : Prop := Lib.TabIs Tryd.prog W "internal/strconv.uint64pow10" .u64 Lib.pow10Tab
theorem Tryd.numbers_w (xs : List Int) (a : Option Addr) (c : Nat) (w : World) (hx : ∀ x, x ∈ xs → inK .i64 x) (hl : xs.length ≤ 1000000) (ha : SlOk w a (i64s xs)) (hT : Tryd.Pow w) :
    Fun Tryd.prog 44 [.slice a xs.length c] w (str (numsB xs)) := by
  refine Tri.enter (bx := []) (hp := []) Tryd.func44 rfl (by kernel_rfl) rfl (Own.nil w) ?_
  refine At.go [] [] rfl oK ?_
  refine At.loop (env0 := [(3, .string { data := #[] }), (6, .slice a xs.length c), (7, .int .i64 ↑xs.length), (8, .int .i64 0)]) (fun m_ env bx hp => ∃ (i : Nat) (s : List UInt8), m_ = xs.length - i ∧ (i ≤ xs.length) ∧ (s = numsB (xs.take i)) ∧ env = [(3, str s), (6, .slice a xs.length c), (7, .int .i64 ↑xs.length), (8, .int .i64 i)] ∧ bx = [] ∧ hp = []) rfl
    ⟨0, [], rfl, (by omega), (rfl), rfl, rfl, rfl⟩ sB ?_
  rintro m_ env bx hp ⟨i, s, rfl, hi, hs, rfl, rfl, rfl⟩ ih
  have hsl : s.length ≤ 21 * i := by
    have h1 := numsB_len (xs := xs.take i) fun x h => hx x (List.mem_of_mem_take h)
    have h2 := List.length_take_le i xs
    rw [hs]; omega
  by_cases hlt : i < xs.length
  · obtain ⟨x, hxi⟩ : ∃ x, xs[i]? = some x := ⟨_, List.getElem?_eq_getElem hlt⟩
    have hk := hx x (List.mem_of_getElem? hxi)
    have hxl := itoa_len hk
    obtain ⟨g, o, rfl, hc⟩ := ha.get (fun e => by rw [← i64s_len xs, e] at hlt; simp at hlt)
    have r : ∀ {bx : Bx} {hp : List Seg}, RdW ⟨w, kys [] []⟩ bx hp g (o + (i : Int).toNat * 1) [.int .i64 x] := fun {_ _} => RdW.base1 (by simp [kys]) (by rw [Int.toNat_natCast, Nat.mul_one]; exact hc i _ (i64s_get hxi))
    have hF : ∀ {bx : Bx} {hp : List Seg}, CallOb Tryd.prog ⟨w, kys [] []⟩ bx hp 81 [.int .i64 x, .int .i64 10] (str (Lib.itoa x)) := fun {_ _} w' hw' => Fun.ofGrow Tryd.func81 (Tryd.strconv_FormatInt_10 x (by simp only [inK] at hk; omega) (by simp only [inK] at hk; omega) w' (tab_ext hT hw'.ext))
    refine At.go [true] [hR [.int .i64 x], hC (.string { data := (Lib.itoa x).toArray })] rfl (by and_intros <;> first | exact r | exact hF | (simp [bl]; omega) | exact oK) ?_
    exact At.weak (ih _ _ _ _ (by omega) ⟨i + 1, s ++ ([32] ++ Lib.itoa x), rfl, by omega, by rw [hs, List.take_add_one, hxi]; exact (numsB_snoc _ _).symm, rfl, rfl, rfl⟩) sB
  · refine At.go [false] [] rfl oK ?_
    refine At.rt [] [] [] Tryd.func44 ?_
    exact ⟨by rw [hs, List.take_of_length_le (by omega)]; rfl, rfl, rfl⟩
theorem Tryd.rNumbers_w (xs : List Int) (a : Option Addr) (c : Nat) (w : World) (hx : ∀ x, x ∈ xs → inK .i64 x) (hl : xs.length ≤ 1000000) (ha : SlOk w a (i64s xs)) :
    Fun Tryd.prog 48 [.slice a xs.length c] w (str (numsB xs)) := by
  refine Tri.enter (bx := []) (hp := []) Tryd.func48 rfl (by kernel_rfl) rfl (Own.nil w) ?_
  refine At.go [] [] rfl oK ?_
  refine At.loop (env0 := [(0, .slice a xs.length c), (3, .string { data := #[] }), (4, .int .i64 0)]) (fun m_ env bx hp => ∃ (i : Nat) (s : List UInt8), m_ = xs.length - i ∧ (i ≤ xs.length) ∧ (s = numsB (xs.take i)) ∧ env = [(0, .slice a xs.length c), (3, str s), (4, .int .i64 i)] ∧ bx = [] ∧ hp = []) rfl
    ⟨0, [], rfl, (by omega), (rfl), rfl, rfl, rfl⟩ sB ?_
  rintro m_ env bx hp ⟨i, s, rfl, hi, hs, rfl, rfl, rfl⟩ ih
  have hsl : s.length ≤ 21 * i := by
    have h1 := numsB_len (xs := xs.take i) fun x h => hx x (List.mem_of_mem_take h)
    have h2 := List.length_take_le i xs
    rw [hs]; omega
  by_cases hlt : i < xs.length
  · obtain ⟨x, hxi⟩ : ∃ x, xs[i]? = some x := ⟨_, List.getElem?_eq_getElem hlt⟩
    have hk := hx x (List.mem_of_getElem? hxi)
    have hxl := itoa_len hk
    obtain ⟨g, o, rfl, hc⟩ := ha.get (fun e => by rw [← i64s_len xs, e] at hlt; simp at hlt)
    have r : ∀ {bx : Bx} {hp : List Seg}, RdW ⟨w, kys [] []⟩ bx hp g (o + (i : Int).toNat * 1) [.int .i64 x] := fun {_ _} => RdW.base1 (by simp [kys]) (by rw [Int.toNat_natCast, Nat.mul_one]; exact hc i _ (i64s_get hxi))
    have hF : ∀ {bx : Bx} {hp : List Seg}, CallOb Tryd.prog ⟨w, kys [] []⟩ bx hp 85 [.int .i64 x] (str (Lib.itoa x)) := fun {_ _} w' _ => Tryd.Dec_w x hk w'
    refine At.go [true] [hR [.int .i64 x], hC (.string { data := (Lib.itoa x).toArray })] rfl (by and_intros <;> first | exact r | exact hF | (simp [bl]; omega) | exact oK) ?_
    exact At.weak (ih _ _ _ _ (by omega) ⟨i + 1, (s ++ [32]) ++ Lib.itoa x, rfl, by omega, by rw [hs, List.take_add_one, hxi, List.append_assoc]; exact (numsB_snoc _ _).symm, rfl, rfl, rfl⟩) sB
  · refine At.go [false] [] rfl oK ?_
    refine At.rt [] [] [] Tryd.func48 ?_
    exact ⟨by rw [hs, List.take_of_length_le (by omega)]; rfl, rfl, rfl⟩
end Go.Proofs

/-
  Walks of layer 32: an event's line.
-/
namespace Go.Proofs
open Go Go.Eng
set_option maxRecDepth 100000
set_option maxHeartbeats 4000000
attribute [local irreducible] Tri

theorem seven {p : List Int} (h : p.length = 7) : ∃ a b c d e f g, p = [a, b, c, d, e, f, g] := by
  match p, h with
  | [a, b, c, d, e, f, g], _ => exact ⟨a, b, c, d, e, f, g, rfl⟩
theorem _root_.Go.Eng.SlOk.bxTake {S : Base} {bx : Bx} {hp : List Seg} {w : World} {k b t m : Nat} {xs : List Int} (hw : WOk S bx hp w) (h : nth bx k = some (b, t, i64s xs)) : SlOk w (some ⟨b, 0, none⟩) (i64s (xs.take m)) := .inr ⟨b, 0, rfl, fun j u hu => by
  rw [Nat.zero_add]
  have := hw.bx _ (nth_mem h)
  have hu' : (i64s xs)[j]? = some u := by
    unfold i64s at hu ⊢
    rw [List.getElem?_map] at hu ⊢
    obtain ⟨x, hx, rfl⟩ := Option.map_eq_some_iff.1 hu
    rw [List.getElem?_take] at hx
    split at hx
    · rw [hx]; rfl
    · cases hx
  simp [World.cell?, this, hu']⟩
theorem pg_at {p : List Int} {k : Nat} (h : k < p.length) : p[k]? = some (pg p k) := by
  unfold pg; rw [List.getD_eq_getElem?_getD, List.getElem?_eq_getElem h]; rfl
theorem _root_.Go.Eng.RdW.bxAt {S : Base} {bx : Bx} {hp : List Seg} {k b t i off : Nat} {xs : List Int} (h : nth bx k = some (b, t, i64s xs)) (hi : i < xs.length) (ho : off = i) : RdW S bx hp b off [.int .i64 (pg xs i)] := RdW.blk h fun j u hu => by
  match j, hu with
  | 0, hu => simp at hu; subst hu; rw [ho, Nat.add_zero]; exact i64s_get (pg_at hi)

theorem Tryd.print_w (p : List Int) (hl : p.length = 7) (hin : ∀ x, x ∈ p → inK .i64 x) (w : World) (hW : Tryd.Nms w) (hT : Tryd.Pow w) : Fun Tryd.prog 15 [.agg ⟨i64s p⟩] w (str (printB p)) := by
  obtain ⟨p0, p1, p2, p3, p4, p5, p6, hpe⟩ := seven hl
  have hap : (.agg ⟨i64s p⟩ : Value) = .agg ⟨[.int .i64 p0, .int .i64 p1, .int .i64 p2, .int .i64 p3, .int .i64 p4, .int .i64 p5, .int .i64 p6]⟩ := by rw [hpe]; rfl
  have hcs : i64s p = [.int .i64 p0, .int .i64 p1, .int .i64 p2, .int .i64 p3, .int .i64 p4, .int .i64 p5, .int .i64 p6] := by rw [hpe]; rfl
  have h0p : pg p 0 = p0 := by rw [hpe]; rfl
  have hnm := (nameB_ok (pg p 0)).1
  rw [hap]
  refine Tri.enter (bx := []) (hp := []) Tryd.func15 rfl (by kernel_rfl) rfl (Own.nil w) ?_
  refine At.go [] [] rfl oK ?_
  refine At.bo fun b1 hb1 => ?_
  refine At.go [] [hB 0, hB 0, hB 0, hB 0, hB 0, hB 0, hB 0] rfl oK ?_
  refine At.st [] (OpOk.buildSlice rfl rfl rfl rfl rfl rfl rfl (fun b hb => ?_))
  refine At.go [] [] rfl oK ?_
  refine At.loop (env0 := [(1, .pointer (some ⟨b1, 0, none⟩)), (3, .slice (some ⟨b, 0, none⟩) 7 7)]) (fun m_ env bx hp => ∃ (m : Nat), m_ = m + 1 ∧ (m ≤ 7) ∧ (tz p m = tz p 7) ∧ env = [(1, .pointer (some ⟨b1, 0, none⟩)), (3, .slice (some ⟨b, 0, none⟩) m 7)] ∧ bx = [(b, 2, [.int .i64 p0, .int .i64 p1, .int .i64 p2, .int .i64 p3, .int .i64 p4, .int .i64 p5, .int .i64 p6]), (b1, 36, [.int .i64 p0, .int .i64 p1, .int .i64 p2, .int .i64 p3, .int .i64 p4, .int .i64 p5, .int .i64 p6])] ∧ hp = []) rfl
    ⟨7, rfl, (by omega), (rfl), rfl, rfl, rfl⟩ sB ?_
  rintro m_ env bx hp ⟨m, rfl, hm, ht, rfl, rfl, rfl⟩ ih
  have hN : ∀ {bx : Bx} {hp : List Seg}, CallOb Tryd.prog ⟨w, kys [] []⟩ bx hp 43 [.int .i64 p0] (str (nameB (pg p 0))) := fun {_ _} w' hw' => by rw [h0p]; exact Tryd.name_w p0 w' (hW.ext hw'.ext (by simp [kys]))
  have hNs : ∀ {bx : Bx} {hp : List Seg} (k : Nat), nth bx k = some (b, 2, [.int .i64 p0, .int .i64 p1, .int .i64 p2, .int .i64 p3, .int .i64 p4, .int .i64 p5, .int .i64 p6]) → CallOb Tryd.prog ⟨w, kys [] []⟩ bx hp 44 [.slice (some ⟨b, 0, none⟩) m 7] (str (numsB (p.take m))) := fun {_ _} k h w' hw' => by
    have h1 : (p.take m).length = m := by rw [List.length_take]; omega
    have := Tryd.numbers_w (p.take m) (some ⟨b, 0, none⟩) 7 w' (fun x hx => hin x (List.mem_of_mem_take hx)) (by omega) (SlOk.bxTake hw' (by rw [hcs]; exact h)) (tab_ext hT hw'.ext)
    rw [h1] at this; exact this
  have hnl : (numsB (p.take m)).length ≤ 147 := by
    have h1 := numsB_len (xs := p.take m) fun x hx => hin x (List.mem_of_mem_take hx)
    have h2 := List.length_take_le m p
    omega
  by_cases h0 : m = 0
  · subst h0
    refine At.go [false, false] [hB 1, hC (.string { data := (nameB (pg p 0)).toArray }), hC (.string { data := (numsB (List.take 0 p)).toArray })] rfl (by and_intros <;> first | exact hN | exact hNs 0 rfl | (rw [bl_of, bl_of]; omega) | exact oK) ?_
    refine At.rt [] [] [] Tryd.func15 ?_
    exact ⟨by unfold printB; rw [← ht]; exact str_add _ _, rfl, rfl⟩
  · obtain ⟨k, rfl⟩ : ∃ k, m = k + 1 := ⟨m - 1, by omega⟩
    have r : ∀ {bx : Bx} {hp : List Seg} (i : Nat), nth bx i = some (b, 2, [.int .i64 p0, .int .i64 p1, .int .i64 p2, .int .i64 p3, .int .i64 p4, .int .i64 p5, .int .i64 p6]) → RdW ⟨w, kys [] []⟩ bx hp b (0 + (((k + 1 : Nat) : Int) - 1).toNat * 1) [.int .i64 (pg p k)] := fun {_ _} i h => RdW.bxAt (xs := p) (by rw [hcs]; exact h) (by omega) (by omega)
    by_cases hz : pg p k = 0
    · refine At.go [true, true] [hR [.int .i64 (pg p k)]] rfl (by and_intros <;> first | exact r 0 rfl | (simp [hz]; done) | (simp; omega) | exact oK) ?_
      rw [show (((k + 1 : Nat) : Int) - 1).toNat = k by omega]
      exact At.weak (ih _ _ _ _ (by omega) ⟨k, rfl, by omega, by rw [← ht, tz_cut hz], rfl, rfl, rfl⟩) sB
    · have hst := tz_stop (p := p) (m := k) hz
      refine At.go [true, false] [hR [.int .i64 (pg p k)], hB 1, hC (.string { data := (nameB (pg p 0)).toArray }), hC (.string { data := (numsB (List.take (k + 1) p)).toArray })] rfl (by and_intros <;> first | exact r 0 rfl | exact hN | exact hNs 0 rfl | (simp [hz]; done) | (simp [bl]; omega) | exact oK) ?_
      refine At.rt [] [] [] Tryd.func15 ?_
      exact ⟨by unfold printB; rw [← ht, hst]; exact str_add _ _, rfl, rfl⟩

theorem Tryd.rPrint_w (p : List Int) (hl : p.length = 7) (hin : ∀ x, x ∈ p → inK .i64 x) (w : World) : Fun Tryd.prog 17 [.agg ⟨i64s p⟩] w (str (printB p)) := by
  obtain ⟨p0, p1, p2, p3, p4, p5, p6, hpe⟩ := seven hl
  have hap : (.agg ⟨i64s p⟩ : Value) = .agg ⟨[.int .i64 p0, .int .i64 p1, .int .i64 p2, .int .i64 p3, .int .i64 p4, .int .i64 p5, .int .i64 p6]⟩ := by rw [hpe]; rfl
  have hcs : i64s p = [.int .i64 p0, .int .i64 p1, .int .i64 p2, .int .i64 p3, .int .i64 p4, .int .i64 p5, .int .i64 p6] := by rw [hpe]; rfl
  have h0p : pg p 0 = p0 := by rw [hpe]; rfl
  have hnm := (nameB_ok (pg p 0)).1
  rw [hap]
  refine Tri.enter (bx := []) (hp := []) Tryd.func17 rfl (by kernel_rfl) rfl (Own.nil w) ?_
  refine At.go [] [] rfl oK ?_
  refine At.bo fun b1 hb1 => ?_
  refine At.go [] [hB 0, hB 0, hB 0, hB 0, hB 0, hB 0, hB 0] rfl oK ?_
  refine At.st [] (OpOk.buildSlice rfl rfl rfl rfl rfl rfl rfl (fun b hb => ?_))
  refine At.go [] [] rfl oK ?_
  refine At.loop (env0 := [(1, .pointer (some ⟨b1, 0, none⟩)), (3, .slice (some ⟨b, 0, none⟩) 7 7), (4, .int .i64 0), (5, .int .i64 0)]) (fun m_ env bx hp => ∃ (m : Nat), m_ = 7 - m ∧ (m ≤ 7) ∧ env = [(1, .pointer (some ⟨b1, 0, none⟩)), (3, .slice (some ⟨b, 0, none⟩) 7 7), (4, .int .i64 (tz p m : Nat)), (5, .int .i64 m)] ∧ bx = [(b, 2, [.int .i64 p0, .int .i64 p1, .int .i64 p2, .int .i64 p3, .int .i64 p4, .int .i64 p5, .int .i64 p6]), (b1, 36, [.int .i64 p0, .int .i64 p1, .int .i64 p2, .int .i64 p3, .int .i64 p4, .int .i64 p5, .int .i64 p6])] ∧ hp = []) rfl
    ⟨0, rfl, (by omega), rfl, rfl, rfl⟩ sB ?_
  rintro m_ env bx hp ⟨m, rfl, hm, rfl, rfl, rfl⟩ ih
  by_cases hlt : m < 7
  · have r : ∀ {bx : Bx} {hp : List Seg} (i : Nat), nth bx i = some (b, 2, [.int .i64 p0, .int .i64 p1, .int .i64 p2, .int .i64 p3, .int .i64 p4, .int .i64 p5, .int .i64 p6]) → RdW ⟨w, kys [] []⟩ bx hp b (0 + (m : Int).toNat * 1) [.int .i64 (pg p m)] := fun {_ _} i h => RdW.bxAt (xs := p) (by rw [hcs]; exact h) (by omega) (by omega)
    by_cases hz : pg p m = 0
    · rw [← tz_cut hz]
      refine At.go [true, false] [hR [.int .i64 (pg p m)]] rfl (by and_intros <;> first | exact r 0 rfl | (simp [hz]; done) | (simp; omega) | exact oK) ?_
      exact At.weak (ih _ _ _ _ (by omega) ⟨m + 1, rfl, by omega, rfl, rfl, rfl⟩) sB
    · have hst := tz_stop (p := p) (m := m) hz
      refine At.go [true, true] [hR [.int .i64 (pg p m)]] rfl (by and_intros <;> first | exact r 0 rfl | (simp [hz]; done) | (simp; omega) | exact oK) ?_
      exact At.weak (ih _ _ _ _ (by omega) ⟨m + 1, rfl, by omega, rfl, rfl, rfl⟩) sB
  · obtain rfl : m = 7 := by omega
    have hN : ∀ {bx : Bx} {hp : List Seg}, CallOb Tryd.prog ⟨w, kys [] []⟩ bx hp 47 [.int .i64 p0] (str (nameB (pg p 0))) := fun {_ _} w' _ => by rw [h0p]; exact Tryd.rName_w p0 w'
    have htz := tz_le p 7
    have hNs : ∀ {bx : Bx} {hp : List Seg} (k : Nat), nth bx k = some (b, 2, [.int .i64 p0, .int .i64 p1, .int .i64 p2, .int .i64 p3, .int .i64 p4, .int .i64 p5, .int .i64 p6]) → CallOb Tryd.prog ⟨w, kys [] []⟩ bx hp 48 [.slice (some ⟨b, 0, none⟩) ((tz p 7 : Nat) : Int).toNat 7] (str (numsB (p.take (tz p 7)))) := fun {_ _} k h w' hw' => by
      have h1 : (p.take (tz p 7)).length = tz p 7 := by rw [List.length_take]; omega
      have := Tryd.rNumbers_w (p.take (tz p 7)) (some ⟨b, 0, none⟩) 7 w' (fun x hx => hin x (List.mem_of_mem_take hx)) (by omega) (SlOk.bxTake hw' (by rw [hcs]; exact h))
      rw [h1] at this; exact this
    have hnl : (numsB (p.take (tz p 7))).length ≤ 147 := by
      have h1 := numsB_len (xs := p.take (tz p 7)) fun x hx => hin x (List.mem_of_mem_take hx)
      have h2 := List.length_take_le (tz p 7) p
      omega
    refine At.go [false] [] rfl (by and_intros <;> first | exact hN | exact hNs 0 rfl | (simp [bl]; omega) | exact oK) ?_
    refine At.qt [] [hB 1, hC (.string { data := (nameB (pg p 0)).toArray }), hC (.string { data := (numsB (List.take (tz p 7) p)).toArray })] rfl rfl (by and_intros <;> first | exact hN | exact hNs 0 rfl | (simp [bl]; omega) | exact oK) ?_
    refine At.go [] [] rfl (by and_intros <;> first | exact hN | exact hNs 0 rfl | (simp [bl]; omega) | exact oK) ?_
    refine At.rt [] [] [] Tryd.func17 ?_
    exact ⟨by unfold printB; exact str_add _ _, rfl, rfl⟩
end Go.Proofs

/-
  Walks of layer 32's document: a line's words, a word's number.
-/
namespace Go.Proofs
open Go Go.Eng
set_option maxRecDepth 100000
set_option maxHeartbeats 4000000
attribute [local irreducible] Tri

theorem wordsA_snoc {c : UInt8} : ∀ {l cur : List UInt8} {vs : List (List UInt8)} {t : List UInt8}, wordsA cur l = vs ++ [t] → wordsA cur (l ++ [c]) = if c = 32 then vs ++ [t] ++ [[]] else vs ++ [t ++ [c]]
  | [], cur, vs, t, h => by
    have hv : vs = [] ∧ t = cur := by
      cases vs with
      | nil => simp [wordsA] at h; exact ⟨rfl, h.symm⟩
      | cons v vs => simp [wordsA] at h
    obtain ⟨rfl, rfl⟩ := hv
    by_cases hc : c = 32 <;> simp [wordsA, hc]
  | d :: l, cur, vs, t, h => by
    rw [List.cons_append, wordsA]
    rw [wordsA] at h
    by_cases hd : d = 32
    · rw [if_pos hd] at h ⊢
      cases vs with
      | nil =>
        have hw : wordsA [] l = [] := by injection h
        have hne : ∀ (l cur : List UInt8), wordsA cur l ≠ [] := by
          intro l
          induction l with
          | nil => intro cur; simp [wordsA]
          | cons e l ih => intro cur; rw [wordsA]; split; simp; exact ih _
        exact (hne l [] hw).elim
      | cons v vs =>
        rw [List.cons_append] at h
        injection h with h1 h2
        subst h1
        rw [wordsA_snoc h2]
        split <;> rfl
    · rw [if_neg hd] at h ⊢
      exact wordsA_snoc h
theorem put_last {vs : List (List UInt8)} {t u : List UInt8} {n : Nat} (h : vs.length = n) : putL ((vs ++ [t]).map str) n [str u] = (vs ++ [u]).map str := by
  rw [putL_eq _ _ _ (by simp; omega), List.map_append, List.take_left' (by simp [h]), List.drop_of_length_le (by simp; omega), List.append_nil]; simp
theorem Tryd.words_w (l : List UInt8) (w : World) (hl : l.length ≤ 1000000) : Tri Tryd.prog 49 [str l] w [] (fun v bx hp => ∃ (a : Option Nat) (c : Nat), v = sv a (wordsA [] l).length c ∧ bx = [] ∧ hp = [Seg.row a 9 1 (wordsA [] l).length c ((wordsA [] l).map str)]) := by
  refine Tri.enter (bx := []) (hp := []) Tryd.func49 rfl (by kernel_rfl) rfl (Own.nil w) ?_
  refine At.go [] [] rfl oK ?_
  refine At.step [] rfl rfl rfl rfl rfl trivial (OpOk.buildSlice rfl rfl rfl rfl rfl rfl rfl (fun b hb => ?_))
  refine At.boxRow (n := 1) rfl (by omega) ?_
  refine At.go [] [] rfl oK ?_
  refine At.loop (env0 := [(0, .string { data := l.toArray }), (3, .slice (some ⟨b, 0, none⟩) 1 1), (4, .int .i64 0)]) (fun m_ env bx hp => ∃ (i : Nat) (n : Nat) (vs : List (List UInt8)) (t : List UInt8) (a : Option Nat) (c : Nat) (cs : List Value), m_ = l.length - i ∧ (i ≤ l.length) ∧ (wordsA [] (l.take i) = vs ++ [t]) ∧ (vs.length = n) ∧ (n ≤ i) ∧ (t.length ≤ i) ∧ (cs = (vs ++ [t]).map str) ∧ env = [(0, .string { data := l.toArray }), (3, sv a (n + 1) c), (4, .int .i64 i)] ∧ bx = [] ∧ hp = [Seg.row a 9 1 (n + 1) c cs]) rfl
    ⟨0, 0, [], [], some b, 1, [str []], rfl, (by omega), (rfl), (rfl), (Nat.le_refl _), (Nat.le_refl _), (rfl), rfl, rfl, rfl⟩ sB ?_
  rintro m_ env bx hp ⟨i, n, vs, t, a, c, cs, rfl, hi, hw, hn, hni, ht, hcs, rfl, rfl, rfl⟩ ih
  by_cases hlt : i < l.length
  · obtain ⟨x, hx⟩ : ∃ x, l[i]? = some x := ⟨_, List.getElem?_eq_getElem hlt⟩
    have hst := wordsA_snoc (c := x) hw
    rw [show l.take i ++ [x] = l.take (i + 1) by rw [List.take_add_one, hx]; rfl] at hst
    have hgx : (bl ⟨l.toArray⟩)[(i : Int).toNat]?.getD 0 = x := by rw [bl_of, Int.toNat_natCast, hx]; rfl
    by_cases hc : x = 32
    · rw [if_pos hc] at hst
      refine At.go [true, true] [] rfl (by and_intros <;> first | (rw [hgx, hc]; rfl) | (simp [bl]; omega) | exact oK) ?_
      refine At.a1 0 1 16 fun b17 a18 c18 => ?_
      refine At.go [] [] rfl (by and_intros <;> first | (rw [hgx, hc]; rfl) | (simp [bl]; omega) | exact oK) ?_
      exact At.weak (ih _ _ _ _ (by omega) ⟨i + 1, n + 1, vs ++ [t], [], a18, c18, cs ++ [str []], rfl, by omega, hst, by rw [List.length_append, hn]; rfl, by omega, by simp, by rw [hcs]; simp, rfl, rfl, rfl⟩) sB
    · rw [if_neg hc] at hst
      have hx32 : ¬ ((x.toNat : Int) = 32) := fun e => hc (UInt8.toNat_inj.1 (by have h32 : (32 : UInt8).toNat = 32 := rfl; omega))
      refine At.rowSome 0 rfl (by omega) fun g hg => ?_
      subst hg
      have hl0 : cs[n]? = some (str t) := by rw [hcs, List.getElem?_map, List.getElem?_append_right (by omega), hn, Nat.sub_self]; rfl
      have r : ∀ {bx : Bx} {hp : List Seg}, nth hp 0 = some (Seg.row (some g) 9 1 (n + 1) c cs) → RdW ⟨w, kys [] []⟩ bx hp g (0 + (((n + 1 : Nat) : Int) - 1).toNat * 1) [str t] := fun {_ _} h => RdW.row1 h hl0 (by omega)
      have hlen : cs.length = n + 1 := by rw [hcs, List.length_map, List.length_append, hn]; rfl
      refine At.go [true, false] [] rfl (by and_intros <;> first | exact r rfl | (rw [hgx]; simp [hx32]; done) | (simp [bl]; omega) | (simp; omega) | (simp [Value.oneCell', str]; done) | exact oK) ?_
      refine At.qT 17 1 [] [hR [.string { data := t.toArray }]] rfl rfl (by and_intros <;> first | exact r rfl | (rw [hgx]; simp [hx32]; done) | (simp [bl]; omega) | (simp; omega) | (simp [Value.oneCell', str]; done) | exact oK) ?_
      refine AtD.sr 17 0 rfl rfl rfl rfl rfl rfl (by and_intros <;> first | exact r rfl | (rw [hgx]; simp [hx32]; done) | (simp [bl]; omega) | (simp; omega) | (simp [Value.oneCell', str]; done) | exact oK) (by and_intros <;> first | exact r rfl | (rw [hgx]; simp [hx32]; done) | (simp [bl]; omega) | (simp; omega) | (simp [Value.oneCell', str]; done) | exact oK) (by and_intros <;> first | exact r rfl | (rw [hgx]; simp [hx32]; done) | (simp [bl]; omega) | (simp; omega) | (simp [Value.oneCell', str]; done) | exact oK) ?_
      refine AtD.dn ?_
      refine At.go [] [] rfl (by and_intros <;> first | exact r rfl | (rw [hgx]; simp [hx32]; done) | (simp [bl]; omega) | (simp; omega) | (simp [Value.oneCell', str]; done) | exact oK) ?_
      rw [show putL cs (0 + (((n + 1 : Nat) : Int) - 1).toNat * 1) [Value.string ⟨(bl ⟨t.toArray⟩ ++ bl ⟨(((bl ⟨l.toArray⟩).drop (i : Int).toNat).take (((i : Int) + 1).toNat - (i : Int).toNat)).toArray⟩).toArray⟩] = (vs ++ [t ++ [x]]).map str by
        rw [bl_of, bl_of, bl_of, show (((i : Int) + 1).toNat - (i : Int).toNat) = 1 by omega, Int.toNat_natCast, show (l.drop i).take 1 = [x] by rw [List.drop_eq_getElem_cons hlt, List.take_succ_cons, List.take_zero]; rw [List.getElem?_eq_getElem hlt] at hx; rw [Option.some.inj hx], show 0 + (((n + 1 : Nat) : Int) - 1).toNat * 1 = n by omega, hcs]
        exact put_last hn]
      exact At.weak (ih _ _ _ _ (by omega) ⟨i + 1, n, vs, t ++ [x], (some g), c, (vs ++ [t ++ [x]]).map str, rfl, by omega, hst, hn, by omega, by rw [List.length_append]; simp; omega, rfl, rfl, rfl, rfl⟩) sB
  · rw [List.take_of_length_le (by omega)] at hw
    refine At.go [false] [] rfl (by and_intros <;> first | (simp [bl]; omega) | exact oK) ?_
    refine At.rt [] [true] [] Tryd.func49 ?_
    exact ⟨a, c, by rw [hw, List.length_append, hn]; rfl, rfl, by rw [hw, List.length_append, hn, hcs]; rfl⟩
end Go.Proofs

/-
  Walks of layer 32's document: a word's number.
-/
namespace Go.Proofs
open Go Go.Eng
set_option maxRecDepth 100000
set_option maxHeartbeats 4000000
attribute [local irreducible] Tri

/-- How the word's number is told. -/
def numV (w : List UInt8) (v : Int) (b : Bool) : Prop := (b = true → cnum w = some v) ∧ (b = false → cnum w = none)
theorem num_bad {w : List UInt8} (h : ∀ m, inK .i64 m → Lib.itoa m ≠ w) (v : Int) : numV w v false := ⟨fun e => (by cases e), fun _ => cnum_none h⟩
theorem take_snoc {l : List UInt8} {i : Nat} {x : UInt8} (h : l[i]? = some x) : l.take (i + 1) = l.take i ++ [x] := by rw [List.take_add_one, h]; rfl
/-- Of a printed number: the digits, one by one. -/
theorem dig_at {m : Int} (hm : inK .i64 m) {w : List UInt8} (h : Lib.itoa m = w) : (sOf w) ≠ [] ∧ (sOf w).length ≤ 19 ∧ (∀ c, c ∈ sOf w → 48 ≤ c.toNat ∧ c.toNat ≤ 57) ∧ valP (sOf w) = m.natAbs ∧ isNeg w = decide (m < 0) ∧ ∀ i, valP ((sOf w).take i) ≤ m.natAbs := by
  obtain ⟨h1, h2⟩ := of_itoa h
  simp only [inK] at hm
  have hp : (10 : Nat) ^ 19 = 10000000000000000000 := by decide
  have hl := dd_len 18 m.natAbs (by rw [hp]; omega)
  refine ⟨by rw [h2]; exact dd_ne _, by rw [h2]; exact hl, fun c hc => dd_dig m.natAbs c (by rw [← h2]; exact hc), by rw [h2]; exact valP_dd _, h1, fun i => ?_⟩
  have := valP_take (sOf w) i
  rw [h2, valP_dd] at this
  rw [h2]; exact this

theorem sOf_neg {c : UInt8} {l : List UInt8} (h : c = 45) : isNeg (c :: l) = true ∧ sOf (c :: l) = l := by
  have : isNeg (c :: l) = true := by unfold isNeg; simp [h]
  exact ⟨this, by unfold sOf; rw [this]; rfl⟩
theorem sOf_pos {c : UInt8} {l : List UInt8} (h : ¬ c = 45) : isNeg (c :: l) = false ∧ sOf (c :: l) = c :: l := by
  have : isNeg (c :: l) = false := by unfold isNeg; simp [h]
  exact ⟨this, by unfold sOf; rw [this]; rfl⟩
theorem u8_eq {a b : UInt8} : ((a.toNat : Int) = (b.toNat : Int)) ↔ a = b := by
  rw [Int.ofNat_inj]; exact UInt8.toNat_inj
theorem Tryd.number_w (s : List UInt8) (w : World) (hl : s.length ≤ 1000000) : Tri Tryd.prog 50 [str s] w [] (fun u bx hp => ∃ v b, u = .tuple #[.int .i64 v, .bool b] ∧ numV s v b ∧ bx = [] ∧ hp = []) := by
  refine Tri.enter (bx := []) (hp := []) Tryd.func50 rfl (by kernel_rfl) rfl (Own.nil w) ?_
  refine At.cutU (ι := Unit) ⟨0, [0, 0, 1, 1, 1, 1], []⟩ (fun _ => [(0, str s), (4, .bool (isNeg s)), (5, str (sOf s))]) (fun _ => []) ?_ fun hk => ?_
  · rintro -
    have hsl : (sOf s).length ≤ s.length := by unfold sOf; split; simp; exact Nat.le_refl _
    have hln : (bl ⟨(sOf s).toArray⟩).length = (sOf s).length := by rw [bl_of]
    by_cases h0 : (sOf s).length = 0
    · have hb : numV s 0 false := num_bad (fun m hm h => (dig_at hm h).1 (List.length_eq_zero_iff.1 h0)) 0
      refine At.go [true, true] [] rfl (by and_intros <;> first | (rw [hln, h0]; rfl) | exact oK) ?_
      refine At.rt [] [] [] Tryd.func50 ?_
      exact ⟨0, false, rfl, hb, rfl, rfl⟩
    by_cases h19 : 19 < (sOf s).length
    · have hb : numV s 0 false := num_bad (fun m hm h => by have := (dig_at hm h).2.1; omega) 0
      refine At.go [false, true] [] rfl (by and_intros <;> first | (simp only [hln]; rw [decide_eq_false_iff_not]; omega) | (simp only [hln]; rw [decide_eq_true_eq]; omega) | exact oK) ?_
      refine At.rt [] [] [] Tryd.func50 ?_
      exact ⟨0, false, rfl, hb, rfl, rfl⟩
    refine At.go [false, false] [] rfl (by and_intros <;> first | (simp only [hln]; rw [decide_eq_false_iff_not]; omega) | exact oK) ?_
    refine At.loop (env0 := [(0, .string { data := s.toArray }), (4, .bool (isNeg s)), (5, .string { data := (sOf s).toArray }), (6, .int .i64 0), (7, .int .i64 0)]) (fun m_ env bx hp => ∃ (i : Nat) (u : Nat), m_ = (sOf s).length - i ∧ (i ≤ (sOf s).length) ∧ (u = valP ((sOf s).take i)) ∧ (u ≤ 9223372036854775808) ∧ env = [(0, .string { data := s.toArray }), (4, .bool (isNeg s)), (5, .string { data := (sOf s).toArray }), (6, .int .i64 (-(u : Int))), (7, .int .i64 i)] ∧ bx = [] ∧ hp = []) rfl
      ⟨0, 0, rfl, (by omega), (rfl), (by omega), rfl, rfl, rfl⟩ sB ?_
    rintro m_ env bx hp ⟨i, u, rfl, hi, hu, hb, rfl, rfl, rfl⟩ ih
    by_cases hlt : i < (sOf s).length
    · obtain ⟨x, hx⟩ : ∃ x, (sOf s)[i]? = some x := ⟨_, List.getElem?_eq_getElem hlt⟩
      have hgx : (bl ⟨(sOf s).toArray⟩)[(i : Int).toNat]?.getD 0 = x := by rw [bl_of, Int.toNat_natCast, hx]; rfl
      have hmem := List.mem_of_getElem? hx
      by_cases hd : 48 ≤ x.toNat ∧ x.toNat ≤ 57
      · have hvs : valP ((sOf s).take (i + 1)) = 10 * u + (x.toNat - 48) := by rw [take_snoc hx, valP_snoc, ← hu]
        have hov : 9223372036854775808 < 10 * u + (x.toNat - 48) → numV s 0 false := fun ho => num_bad (fun m hm h => by
          have h1 := (dig_at hm h).2.2.2.2.2 (i + 1)
          rw [hvs] at h1
          simp only [inK] at hm
          omega) 0
        by_cases ho1 : 922337203685477580 < u
        · have hb0 := hov (by omega)
          refine At.go [true, false, false, true, true] [] rfl (by and_intros <;> first | (rw [hln]; omega) | (simp only [hgx]; rw [decide_eq_true_eq]; omega) | (simp only [hgx]; rw [decide_eq_false_iff_not]; omega) | (rw [hln]; omega) | (simp only [hgx]; omega) | exact oK) ?_
          refine At.rt [] [] [] Tryd.func50 ?_
          exact ⟨0, false, rfl, hb0, rfl, rfl⟩
        · by_cases ho2 : u = 922337203685477580 ∧ 56 < x.toNat
          · have hb0 := hov (by omega)
            refine At.go [true, false, false, false, true, true] [] rfl (by and_intros <;> first | (rw [hln]; omega) | (simp only [hgx]; rw [decide_eq_true_eq]; omega) | (simp only [hgx]; rw [decide_eq_false_iff_not]; omega) | (rw [hln]; omega) | (simp only [hgx]; omega) | exact oK) ?_
            refine At.rt [] [] [] Tryd.func50 ?_
            exact ⟨0, false, rfl, hb0, rfl, rfl⟩
          · by_cases hK : u = 922337203685477580
            · refine At.go [true, false, false, false, true, false] [] rfl (by and_intros <;> first | (rw [hln]; omega) | (simp only [hgx]; rw [decide_eq_true_eq]; omega) | (simp only [hgx]; rw [decide_eq_false_iff_not]; omega) | (rw [hln]; omega) | (simp only [hgx]; omega) | exact oK) ?_
              rw [hgx]
              exact At.weak (ih _ _ _ _ (by omega) ⟨i + 1, 10 * u + (x.toNat - 48), rfl, by omega, hvs.symm, by omega, rfl, rfl, rfl⟩) sB
            · refine At.go [true, false, false, false, false, false] [] rfl (by and_intros <;> first | (rw [hln]; omega) | (simp only [hgx]; rw [decide_eq_true_eq]; omega) | (simp only [hgx]; rw [decide_eq_false_iff_not]; omega) | (rw [hln]; omega) | (simp only [hgx]; omega) | exact oK) ?_
              rw [hgx]
              exact At.weak (ih _ _ _ _ (by omega) ⟨i + 1, 10 * u + (x.toNat - 48), rfl, by omega, hvs.symm, by omega, rfl, rfl, rfl⟩) sB
      · have hb0 : numV s 0 false := num_bad (fun m hm h => hd ((dig_at hm h).2.2.1 x hmem)) 0
        by_cases hd1 : x.toNat < 48
        · refine At.go [true, true, true] [] rfl (by and_intros <;> first | (rw [hln]; omega) | (simp only [hgx]; rw [decide_eq_true_eq]; omega) | (simp only [hgx]; rw [decide_eq_false_iff_not]; omega) | (rw [hln]; omega) | (simp only [hgx]; omega) | exact oK) ?_
          refine At.rt [] [] [] Tryd.func50 ?_
          exact ⟨0, false, rfl, hb0, rfl, rfl⟩
        · refine At.go [true, false, true] [] rfl (by and_intros <;> first | (rw [hln]; omega) | (simp only [hgx]; rw [decide_eq_true_eq]; omega) | (simp only [hgx]; rw [decide_eq_false_iff_not]; omega) | (rw [hln]; omega) | (simp only [hgx]; omega) | exact oK) ?_
          refine At.rt [] [] [] Tryd.func50 ?_
          exact ⟨0, false, rfl, hb0, rfl, rfl⟩
    · have hv : valP (sOf s) = u := by rw [hu, List.take_of_length_le (by omega)]
      have hm : ∀ m, inK .i64 m → Lib.itoa m = s → m.natAbs = u ∧ isNeg s = decide (m < 0) := fun m h1 h2 => ⟨by rw [← (dig_at h1 h2).2.2.2.1, hv], (dig_at h1 h2).2.2.2.2.1⟩
      have fin : ∀ v, inK .i64 v → (∀ m, inK .i64 m → Lib.itoa m = s → m = v) → numV s v (decide (Lib.itoa v = s)) := fun v hk hv => ⟨fun e => by
        have e' := of_decide_eq_true e
        rw [← e']; exact cnum_itoa hk, fun e => cnum_none fun m h1 h2 => of_decide_eq_false e (by rw [← hv m h1 h2]; exact h2)⟩
      have hD : ∀ {bx : Bx} {hp : List Seg} (n : Int), inK .i64 n → CallOb Tryd.prog ⟨w, kys [] []⟩ bx hp 85 [.int .i64 n] (str (Lib.itoa n)) := fun {_ _} n hn w' _ => Tryd.Dec_w n hn w'
      cases hn : isNeg s with
      | true =>
        rw [hn] at hm
        have hk2 : inK .i64 (-(u : Int)) := by simp only [inK]; omega
        have hF := fin (-(u : Int)) hk2 (fun m h1 h2 => by obtain ⟨a1, a2⟩ := hm m h1 h2; have := of_decide_eq_true a2.symm; omega)
        refine At.go [false, false, false, false] [hC (.string { data := (Lib.itoa (-↑u)).toArray })] rfl (by and_intros <;> first | (rw [hln]; omega) | exact hD _ hk2 | (rw [decide_eq_false_iff_not, hln]; omega) | exact oK) ?_
        refine At.rt [] [] [] Tryd.func50 ?_
        exact ⟨_, _, rfl, hF, rfl, rfl⟩
      | false =>
        rw [hn] at hm
        by_cases h63 : u = 9223372036854775808
        · have hb0 : numV s 0 false := num_bad (fun m h1 h2 => by
            obtain ⟨a1, a2⟩ := hm m h1 h2
            have := of_decide_eq_false a2.symm
            simp only [inK] at h1; omega) 0
          refine At.go [false, true, true] [] rfl (by and_intros <;> first | (rw [hln]; omega) | (rw [decide_eq_false_iff_not, hln]; omega) | (rw [decide_eq_true_eq]; omega) | exact oK) ?_
          refine At.rt [] [] [] Tryd.func50 ?_
          exact ⟨0, false, rfl, hb0, rfl, rfl⟩
        · have hk2 : inK .i64 (u : Int) := by simp only [inK]; omega
          have hF := fin (u : Int) hk2 (fun m h1 h2 => by obtain ⟨a1, a2⟩ := hm m h1 h2; have := of_decide_eq_false a2.symm; omega)
          refine At.go [false, true, false, true] [] rfl (by and_intros <;> first | (rw [hln]; omega) | exact hD _ hk2 | (rw [decide_eq_false_iff_not, hln]; omega) | (rw [decide_eq_false_iff_not]; omega) | exact oK) ?_
          rw [show (0 - -(u : Int)) = (u : Int) by omega]
          refine At.go [] [hC (.string { data := (Lib.itoa ↑u).toArray })] rfl (by and_intros <;> first | exact hD _ hk2 | exact oK) ?_
          refine At.rt [] [] [] Tryd.func50 ?_
          exact ⟨_, _, rfl, hF, rfl, rfl⟩
  · cases s with
    | nil =>
      refine At.gn 24 [false, false, true, true] [] rfl (by and_intros <;> first | (simp [bl]; done) | exact oK) ?_
      exact At.weak (hk ()) sB
    | cons c0 s0 =>
      have hg0 : (bl ⟨(c0 :: s0).toArray⟩)[(0 : Int).toNat]?.getD 0 = c0 := by rw [bl_of]; rfl
      by_cases hc : c0 = 45
      · obtain ⟨e1, e2⟩ := sOf_neg (l := s0) hc
        subst hc
        rw [e1, e2] at hk
        refine At.gn 25 [true, true] [] rfl (by and_intros <;> first | (simp [bl]; done) | (rw [hg0]; rfl) | (simp [bl]; omega) | exact oK) ?_
        rw [hg0]
        exact At.weak (hk ()) sB
      · obtain ⟨e1, e2⟩ := sOf_pos (l := s0) hc
        rw [e1, e2] at hk
        have hx : ¬ ((c0.toNat : Int) = 45) := fun e => hc (u8_eq.1 (by rw [e]; rfl))
        refine At.gn 24 [true, false, false] [] rfl (by and_intros <;> first | (simp [bl]; done) | (rw [hg0]; simp [hx]; done) | (simp [bl]; omega) | exact oK) ?_
        rw [show decide ((((bl ⟨(c0 :: s0).toArray⟩)[(0 : Int).toNat]?.getD 0).toNat : Int) = 45) = false by rw [hg0]; simp [hx]]
        exact At.weak (hk ()) sB
end Go.Proofs

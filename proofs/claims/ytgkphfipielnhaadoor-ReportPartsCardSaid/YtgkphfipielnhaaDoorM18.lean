/-
  Walks of layer 5's document: numbers as rows of digits.
-/
import Derived.Test.YtgkphfipielnhaaDoorM15
import Derived.Test.YtgkphfipielnhaaDoorM7
import Derived.Test.YtgkphfipielnhaaDoorM2
import Derived.Test.YtgkphfipielnhaaDoorM5
import Derived.Test.YtgkphfipielnhaaDoorM12
import Derived.Test.YtgkphfipielnhaaDoorProg
/-
  Walks of layer 5's document: numbers as rows of digits.
-/
namespace Go.Proofs
open Go Go.Eng
set_option maxRecDepth 100000
set_option maxHeartbeats 4000000
attribute [local irreducible] Tri

theorem _root_.Go.Eng.SlOk.nc_get {w : World} {a : Option Addr} {l : List Nat} {i x : Nat} (h : SlOk w a (nc l)) (hx : l[i]? = some x) : ∃ g o, a = some ⟨g, o, none⟩ ∧ w.cell? ⟨g, o + i, none⟩ = some (.int .i64 (x : Int)) := by
  obtain ⟨g, o, rfl, hc⟩ := h.get (fun e => by rw [nc_nil.1 e] at hx; cases hx)
  exact ⟨g, o, rfl, hc i _ (Go.Eng.nc_get hx)⟩
theorem Tryd.bAt_w (l : List Nat) (a : Option Addr) (c : Nat) (i : Nat) (w : World) (hi : i ≤ 9000000000000000000) (ha : SlOk w a (nc l)) :
    Fun Tryd.prog 118 [.slice a l.length c, .int .i64 i] w (.int .i64 (atD l i : Int)) := by
  refine Tri.enter (bx := []) (hp := []) Tryd.func118 rfl (by kernel_rfl) rfl (Own.nil w) ?_
  by_cases h : i < l.length
  · obtain ⟨x, hx⟩ : ∃ x, l[i]? = some x := ⟨_, List.getElem?_eq_getElem h⟩
    obtain ⟨g, o, rfl, hc⟩ := ha.nc_get hx
    have r : ∀ {bx : Bx} {hp : List Seg}, RdW ⟨w, kys [] []⟩ bx hp g (o + (i : Int).toNat * 1) [.int .i64 (x : Int)] := fun {_ _} => RdW.base1 (by simp [kys]) (by rw [Int.toNat_natCast, Nat.mul_one]; exact hc)
    refine At.go [true] [hR [.int .i64 ↑x]] rfl (by and_intros <;> first | exact r | exact oK) ?_
    refine At.rt [] [] [] Tryd.func118 ?_
    exact ⟨by rw [atD_some hx]; rfl, rfl, rfl⟩
  · refine At.go [false] [] rfl oK ?_
    refine At.rt [] [] [] Tryd.func118 ?_
    exact ⟨by rw [atD_ge (by omega)]; rfl, rfl, rfl⟩
theorem vl_dropL (l : List Nat) : vl (l.drop l.length) = 0 := by rw [List.drop_length]; rfl
theorem Tryd.bLess_w (l m : List Nat) (a b : Option Addr) (c d : Nat) (w : World) (hl : l.length ≤ 1000000) (hm : m.length ≤ 1000000) (hdl : Dig l) (hdm : Dig m) (ha : SlOk w a (nc l)) (hb : SlOk w b (nc m)) :
    Fun Tryd.prog 120 [.slice a l.length c, .slice b m.length d] w (.bool (decide (vl l < vl m))) := by
  refine Tri.enter (bx := []) (hp := []) Tryd.func120 rfl (by kernel_rfl) rfl (Own.nil w) ?_
  have hA : ∀ {bx : Bx} {hp : List Seg} (k : Nat), k ≤ 9000000000000000000 → CallOb Tryd.prog ⟨w, kys [] []⟩ bx hp 118 [.slice a l.length c, .int .i64 k] (.int .i64 (atD l k : Int)) := fun {_ _} k hk w' hw' => Tryd.bAt_w l a c k w' hk (ha.ext hw'.ext (by simp [kys]))
  have hD : ∀ {bx : Bx} {hp : List Seg} (k : Nat), k ≤ 9000000000000000000 → CallOb Tryd.prog ⟨w, kys [] []⟩ bx hp 118 [.slice b m.length d, .int .i64 k] (.int .i64 (atD m k : Int)) := fun {_ _} k hk w' hw' => Tryd.bAt_w m b d k w' hk (hb.ext hw'.ext (by simp [kys]))
  obtain ⟨n, hn, hln, hmn⟩ : ∃ n : Nat, ((n : Int) = if l.length < m.length then (m.length : Int) else (l.length : Int)) ∧ l.length ≤ n ∧ m.length ≤ n := ⟨max l.length m.length, by split <;> omega, by omega, by omega⟩
  refine At.cutU (ι := Unit) ⟨0, [0, 1, 0, 1, 1, 1], []⟩ (fun _ => [(0, .slice a l.length c), (1, .slice b m.length d), (6, .int .i64 ((n : Int) - 1))]) (fun _ => []) ?_ fun hk => ?_
  · rintro -
    refine At.loop (env0 := [(0, .slice a l.length c), (1, .slice b m.length d), (6, .int .i64 (↑n - 1))]) (fun m_ env bx hp => ∃ (i : Nat), m_ = i + 1 ∧ (i ≤ n) ∧ (vl (l.drop i) = vl (m.drop i)) ∧ env = [(0, .slice a l.length c), (1, .slice b m.length d), (6, .int .i64 ((i : Int) - 1))] ∧ bx = [] ∧ hp = []) rfl
      ⟨n, rfl, by omega, by rw [List.drop_eq_nil_of_le hln, List.drop_eq_nil_of_le hmn], rfl, rfl, rfl⟩ sB ?_
    rintro m_ env bx hp ⟨i, rfl, hi, he, rfl, rfl, rfl⟩ ih
    by_cases h0 : i = 0
    · subst h0
      refine At.go [false] [] rfl oK ?_
      refine At.rt [] [] [] Tryd.func120 ?_
      exact ⟨by rw [decide_eq_false (by simp at he; omega)]; rfl, rfl, rfl⟩
    · obtain ⟨k, rfl⟩ : ∃ k, i = k + 1 := ⟨i - 1, by omega⟩
      rw [show (((k + 1 : Nat) : Int) - 1) = (k : Int) by omega]
      by_cases h1 : atD l k = atD m k
      · refine At.go [true, false] [hC (.int .i64 ↑(atD l k)), hC (.int .i64 ↑(atD m k))] rfl (by and_intros <;> first | exact hA k (by omega) | exact hD k (by omega) | (simp [h1]; done) | exact oK) ?_
        exact At.weak (ih _ _ _ _ (by omega) ⟨k, rfl, by omega, vl_same he h1, rfl, rfl, rfl⟩) sB
      · refine At.go [true, true] [hC (.int .i64 ↑(atD l k)), hC (.int .i64 ↑(atD m k)), hC (.int .i64 ↑(atD l k)), hC (.int .i64 ↑(atD m k))] rfl (by and_intros <;> first | exact hA k (by omega) | exact hD k (by omega) | (simp; omega) | exact oK) ?_
        refine At.rt [] [] [] Tryd.func120 ?_
        exact ⟨congrArg Value.bool (decide_eq_decide.2 (less_iff hdl hdm he h1)), rfl, rfl⟩
  · by_cases h : l.length < m.length
    · rw [if_pos h] at hn
      refine At.go [true] [] rfl (by and_intros <;> first | (simp; omega) | exact oK) ?_
      exact At.weak (hk ()) sB
    · rw [if_neg h] at hn
      refine At.go [false] [] rfl (by and_intros <;> first | (simp; omega) | exact oK) ?_
      exact At.weak (hk ()) sB

/-- A number of the document: its sign and its digits; digits in a row of its own. -/
def bigV (S : Int) (a : Option Nat) (c : Nat) : List Value := [.bool (decide (S < 0)), .slice (svA a) (big S).length c]
theorem Tryd.bOf_w (n : Int) (hn : inK .i64 n) (w : World) :
    Tri Tryd.prog 78 [.int .i64 n] w [] (fun v bx hp => ∃ a c, v = .agg ⟨bigV n a c⟩ ∧ bx = [] ∧ hp = [Seg.row a 3 1 (big n).length c (nc (big n))]) := by
  refine Tri.enter (bx := []) (hp := []) Tryd.func78 rfl (by kernel_rfl) rfl (Own.nil w) ?_
  simp only [inK] at hn
  refine At.go [] [] rfl oK ?_
  refine At.al fun b2 hb2 => ?_
  refine At.go [] [] rfl oK ?_
  refine At.al fun b3 hb3 => ?_
  refine At.go [] [hB 0] rfl oK ?_
  refine At.nilRow 3 1 ?_
  refine At.loop (env0 := [(0, .int .i64 n), (2, .pointer (some ⟨b2, 0, none⟩)), (3, .pointer (some ⟨b3, 0, none⟩))]) (fun m_ env bx hp => ∃ (k : Nat) (m : Int) (a : Option Nat) (c : Nat) (xs : List Nat), m_ = m.natAbs ∧ (-9223372036854775808 ≤ m ∧ m ≤ 9223372036854775807) ∧ (xs.length = k) ∧ (xs ++ dg m.natAbs = big n) ∧ env = [(0, .int .i64 m), (2, .pointer (some ⟨b2, 0, none⟩)), (3, .pointer (some ⟨b3, 0, none⟩))] ∧ bx = [(b3, 142, [.bool (decide (n < 0)), .slice (svA a) k c]), (b2, 142, [.bool false, .slice none 0 0])] ∧ hp = [Seg.row a 3 1 k c (nc xs)]) rfl
    ⟨0, n, none, 0, [], rfl, hn, rfl, rfl, rfl, rfl, rfl⟩ sB ?_
  rintro m_ env bx hp ⟨k, m, a, c, xs, rfl, hm, hk, hx, rfl, rfl, rfl⟩ ih
  have hb5 : (big n).length ≤ 5 := dg_len (by omega)
  have hlen : k + (dg m.natAbs).length ≤ 5 := by rw [← hx, List.length_append, hk] at hb5; exact hb5
  by_cases h0 : m = 0
  · subst h0
    have hxs : xs = big n := by rw [← hx, show (0 : Int).natAbs = 0 from rfl, dg0, List.append_nil]
    refine At.go [false] [hB 0, hB 1] rfl oK ?_
    refine At.rt [] [true] [hB 1] Tryd.func78 ?_
    exact ⟨a, c, by unfold bigV; rw [← hxs, hk]; rfl, rfl, by rw [← hxs, hk]⟩
  have hl1 : 0 < (dg m.natAbs).length := List.length_pos_iff.2 fun e => h0 (by have := dg_nil.1 e; omega)
  have hst := of_step hx (by omega : m.natAbs ≠ 0)
  by_cases hneg : m < 0
  · obtain ⟨t1, t2⟩ := tmod_neg hneg
    have e2 : IntKind.i64.wrap (m.tdiv 10000) = m.tdiv 10000 := by rw [t2, wrap_i64]; omega
    by_cases hz : Int.tmod m 10000 < 0
    · refine At.gw [true, true] [hB 0] rfl (by and_intros <;> first | (simp; omega) | exact oK) ?_
      refine At.a1 0 1 8 fun b19 a20 c20 => ?_
      refine At.gw [] [hB 0] rfl (by and_intros <;> first | (simp; omega) | exact oK) ?_
      rw [nc_snoc' (d := m.natAbs % 10000) (by rw [t1, wrap_i64]; omega), e2]
      exact At.weak (ih _ _ _ _ (by omega) ⟨k + 1, m.tdiv 10000, a20, c20, xs ++ [m.natAbs % 10000], rfl, by rw [t2]; omega, by simp [hk], by rw [t2, Int.natAbs_neg, Int.natAbs_natCast]; exact hst, rfl, rfl, rfl⟩) sB
    · refine At.gw [true, false] [hB 0] rfl (by and_intros <;> first | (simp; omega) | exact oK) ?_
      refine At.a1 0 1 8 fun b19 a20 c20 => ?_
      refine At.gw [] [hB 0] rfl (by and_intros <;> first | (simp; omega) | exact oK) ?_
      rw [nc_snoc' (d := m.natAbs % 10000) (by omega), e2]
      exact At.weak (ih _ _ _ _ (by omega) ⟨k + 1, m.tdiv 10000, a20, c20, xs ++ [m.natAbs % 10000], rfl, by rw [t2]; omega, by simp [hk], by rw [t2, Int.natAbs_neg, Int.natAbs_natCast]; exact hst, rfl, rfl, rfl⟩) sB
  · refine At.go [true, false] [hB 0] rfl (by and_intros <;> first | (simp; omega) | exact oK) ?_
    refine At.a1 0 1 8 fun b19 a20 c20 => ?_
    refine At.go [] [hB 0] rfl (by and_intros <;> first | (simp; omega) | exact oK) ?_
    rw [nc_snoc' (d := m.natAbs % 10000) (by omega)]
    exact At.weak (ih _ _ _ _ (by omega) ⟨k + 1, m / 10000, a20, c20, xs ++ [m.natAbs % 10000], rfl, by omega, by simp [hk], by rw [show (m / 10000).natAbs = m.natAbs / 10000 by omega]; exact hst, rfl, rfl, rfl⟩) sB

theorem Tryd.bTrim_w (neg : Bool) (l : List Nat) (a : Option Nat) (c : Nat) (w : World) (hd : Dig l) (hl : l.length ≤ 1000000) (hown : Own [] [Seg.row a 3 1 l.length c (nc l)] w) :
    Tri Tryd.prog 119 [.agg ⟨[.bool neg, .slice (svA a) l.length c]⟩] w (kys [] [Seg.row a 3 1 l.length c (nc l)])
      (fun v bx hp => v = .agg ⟨[.bool (neg && !decide (vl l = 0)), .slice (svA a) (dg (vl l)).length c]⟩ ∧ bx = [] ∧ hp = [Seg.row a 3 1 (dg (vl l)).length c (nc (dg (vl l)))]) := by
  obtain ⟨h1, h2, h3, h4⟩ := trim_at hd
  have hcap : l.length ≤ c := (show rowOk w a 3 1 l.length c (nc l) from hown.hp (Seg.row a 3 1 l.length c (nc l)) (by simp)).le
  refine Tri.enter (bx := []) (hp := [Seg.row a 3 1 l.length c (nc l)]) Tryd.func119 rfl (by kernel_rfl) rfl hown ?_
  refine At.go [] [] rfl oK ?_
  refine At.bo fun b1 hb1 => ?_
  refine At.al fun b2 hb2 => ?_
  refine At.go [] [] rfl oK ?_
  refine At.loop (env0 := [(1, .pointer (some ⟨b1, 0, none⟩)), (2, .pointer (some ⟨b2, 0, none⟩))]) (fun m_ env bx hp => ∃ (n : Nat), m_ = n + 1 ∧ ((dg (vl l)).length ≤ n ∧ n ≤ l.length) ∧ env = [(1, .pointer (some ⟨b1, 0, none⟩)), (2, .pointer (some ⟨b2, 0, none⟩))] ∧ bx = [(b2, 142, [.bool false, .slice none 0 0]), (b1, 142, [.bool neg, .slice (svA a) n c])] ∧ hp = [Seg.row a 3 1 l.length c (nc l)]) rfl
    ⟨l.length, rfl, ⟨h1, Nat.le_refl _⟩, rfl, rfl, rfl⟩ sB ?_
  rintro m_ env bx hp ⟨n, rfl, hn, rfl, rfl, rfl⟩ ih
  by_cases hz : n = 0
  · have hv : vl l = 0 := dg_nil.1 (List.length_eq_zero_iff.1 (by omega))
    subst hz
    refine At.go [false, false, true] [hB 1, hB 1, hB 1, hB 1, hB 0] rfl oK ?_
    refine At.rowCut 0 0 rfl (by omega) ?_
    refine At.rt [] [true] [hB 0] Tryd.func119 ?_
    exact ⟨by rw [hv, dg0, show (neg && !decide ((0 : Nat) = 0)) = false by simp]; rfl, rfl, by rw [hv, dg0]; rfl⟩
  · obtain ⟨x, hx⟩ : ∃ x, l[n - 1]? = some x := ⟨_, List.getElem?_eq_getElem (by omega)⟩
    refine At.rowSome 0 rfl (by omega) fun g hg => ?_
    subst hg
    have hrd : ∀ {bx : Bx} {hp : List Seg}, nth hp 0 = some (Seg.row (some g) 3 1 l.length c (nc l)) → RdW ⟨w, kys [] [Seg.row (some g) 3 1 l.length c (nc l)]⟩ bx hp g (0 + ((n : Int) - 1).toNat * 1) [.int .i64 (x : Int)] := fun {_ _} h => RdW.row1 h (nc_get hx) (by omega)
    by_cases hs : (dg (vl l)).length = n
    · have hx0 := h4 (n - 1) x (by omega) hx
      refine At.go [true, false, false] [hB 1, hB 1, hB 1, hR [.int .i64 ↑x], hB 1, hB 1, hB 0] rfl (by and_intros <;> first | exact hrd rfl | (simp; omega) | exact oK) ?_
      refine At.rowCut 0 n rfl (by omega) ?_
      refine At.rt [] [true] [hB 0] Tryd.func119 ?_
      exact ⟨by rw [hs, decide_eq_false (fun e => by rw [e, dg0] at hs; exact hz hs.symm), Bool.not_false, Bool.and_true]; rfl, rfl, by rw [hs]; exact congrArg (fun z => [Seg.row (some g) 3 1 n c z]) (by rw [Nat.mul_one, ← hs]; unfold nc; rw [← List.map_take, h2])⟩
    · have hx0 := h3 (n - 1) x (by omega) hx
      subst hx0
      refine At.go [true, true] [hB 1, hB 1, hB 1, hR [.int .i64 ↑0], hB 1, hB 1, hB 1] rfl (by and_intros <;> first | exact hrd rfl | exact oK) ?_
      rw [show ((n : Int) - 1).toNat = n - 1 by omega]
      exact At.weak (ih _ _ _ _ (by omega) ⟨n - 1, rfl, by omega, rfl, rfl, rfl⟩) sB

end Go.Proofs

/-
  Walks of layer 5's document: numbers added.
-/
namespace Go.Proofs
open Go Go.Eng
set_option maxRecDepth 100000
set_option maxHeartbeats 4000000
attribute [local irreducible] Tri

/-- A number of the document, wherever its digits lie. -/
def bigA (S : Int) (a : Option Addr) (c : Nat) : List Value := [.bool (decide (S < 0)), .slice a (big S).length c]
theorem big_sgn {S T : Int} (h : decide (S < 0) = decide (T < 0)) : (S + T).natAbs = S.natAbs + T.natAbs ∧ (decide (S < 0) && !decide (S.natAbs + T.natAbs = 0)) = decide (S + T < 0) := by
  by_cases h1 : S < 0 <;> by_cases h2 : T < 0 <;> simp [h1, h2] at h
  · exact ⟨by omega, by rw [decide_eq_true h1, decide_eq_false (by omega), decide_eq_true (by omega)]; rfl⟩
  · exact ⟨by omega, by rw [decide_eq_false h1, decide_eq_false (by omega : ¬ S + T < 0)]; rfl⟩
theorem bigV_of {S : Int} {a : Option Nat} {c : Nat} {b : Bool} {N : Nat} (hN : S.natAbs = N) (hb : b = decide (S < 0)) : [Value.bool b, .slice (svA a) (dg N).length c] = bigV S a c := by subst hN hb; rfl
theorem bigR_of {S : Int} {a : Option Nat} {c t : Nat} {N : Nat} (hN : S.natAbs = N) : [Seg.row a t 1 (dg N).length c (nc (dg N))] = [Seg.row a t 1 (big S).length c (nc (big S))] := by subst hN; rfl
/-- What is left of two numbers of other signs: the one that is no less. -/
theorem big_dif {S T X Y : Int} (hs : decide (S < 0) ≠ decide (T < 0)) (hxy : (X = S ∧ Y = T) ∨ (X = T ∧ Y = S)) (hl : Y.natAbs ≤ X.natAbs) : (S + T).natAbs = X.natAbs - Y.natAbs ∧ (decide (X < 0) && !decide (X.natAbs - Y.natAbs = 0)) = decide (S + T < 0) := by
  have h1 : (S < 0 ∧ ¬ T < 0) ∨ (¬ S < 0 ∧ T < 0) := by
    by_cases a : S < 0 <;> by_cases b : T < 0 <;> simp [a, b] at hs ⊢
  by_cases hz : X.natAbs - Y.natAbs = 0
  · refine ⟨by omega, ?_⟩
    rw [decide_eq_true hz, decide_eq_false (by omega : ¬ S + T < 0)]; simp
  · refine ⟨by omega, ?_⟩
    rw [decide_eq_false hz, Bool.not_false, Bool.and_true, decide_eq_decide]; omega
theorem Tryd.bAdd_w (S T : Int) (aa ab : Option Addr) (ca cb : Nat) (w : World) (hS : (big S).length ≤ 100000) (hT : (big T).length ≤ 100000) (ha : SlOk w aa (nc (big S))) (hb : SlOk w ab (nc (big T))) :
    Tri Tryd.prog 77 [.agg ⟨bigA S aa ca⟩, .agg ⟨bigA T ab cb⟩] w [] (fun v bx hp => ∃ a c, v = .agg ⟨bigV (S + T) a c⟩ ∧ bx = [] ∧ hp = [Seg.row a 3 1 (big (S + T)).length c (nc (big (S + T)))]) := by
  refine Tri.enter (bx := []) (hp := []) Tryd.func77 rfl (by kernel_rfl) rfl (Own.nil w) ?_
  have hA : ∀ {bx : Bx} {hp : List Seg} (k : Nat), k ≤ 9000000000000000000 → CallOb Tryd.prog ⟨w, kys [] []⟩ bx hp 118 [.slice aa (big S).length ca, .int .i64 k] (.int .i64 (atD (big S) k : Int)) := fun {_ _} k hk w' hw' => Tryd.bAt_w _ aa ca k w' hk (ha.ext hw'.ext (by simp [kys]))
  have hD : ∀ {bx : Bx} {hp : List Seg} (k : Nat), k ≤ 9000000000000000000 → CallOb Tryd.prog ⟨w, kys [] []⟩ bx hp 118 [.slice ab (big T).length cb, .int .i64 k] (.int .i64 (atD (big T) k : Int)) := fun {_ _} k hk w' hw' => Tryd.bAt_w _ ab cb k w' hk (hb.ext hw'.ext (by simp [kys]))
  have hL : ∀ {bx : Bx} {hp : List Seg}, CallOb Tryd.prog ⟨w, kys [] []⟩ bx hp 120 [.slice aa (big S).length ca, .slice ab (big T).length cb] (.bool (decide (vl (big S) < vl (big T)))) := fun {_ _} w' hw' => Tryd.bLess_w _ _ aa ab ca cb w' (by omega) (by omega) (big_dig S) (big_dig T) (ha.ext hw'.ext (by simp [kys])) (hb.ext hw'.ext (by simp [kys]))
  obtain ⟨n, hn, hln, hmn, hn2⟩ : ∃ n : Nat, ((n : Int) = if (big S).length < (big T).length then ((big T).length : Int) else ((big S).length : Int)) ∧ (big S).length ≤ n ∧ (big T).length ≤ n ∧ n ≤ 100000 := ⟨max (big S).length (big T).length, by split <;> omega, by omega, by omega, by omega⟩
  refine At.go [] [] rfl oK ?_
  refine At.bo fun b2 hb2 => ?_
  refine At.bo fun b3 hb3 => ?_
  refine At.al fun b4 hb4 => ?_
  have key : ∀ (X Y : Int) (ax ay : Option Addr) (cx cy : Nat), decide (S < 0) ≠ decide (T < 0) → ((X = S ∧ Y = T) ∨ (X = T ∧ Y = S)) → Y.natAbs ≤ X.natAbs → (big X).length ≤ n → (big Y).length ≤ n → SlOk w ax (nc (big X)) → SlOk w ay (nc (big Y)) → ∀ b2 b3 b4,
      At (triCtx Tryd.prog 77 Tryd.f77 w (kys [] []) (fun v bx hp => ∃ a c, v = .agg ⟨bigV (S + T) a c⟩ ∧ bx = [] ∧ hp = [Seg.row a 3 1 (big (S + T)).length c (nc (big (S + T)))])) ⟨0, [0, 1, 1, 1, 1, 1], []⟩ []
        [(2, .pointer (some ⟨b2, 0, none⟩)), (3, .pointer (some ⟨b3, 0, none⟩)), (4, .pointer (some ⟨b4, 0, none⟩)), (5, .int .i64 n)] [(b4, 142, [.bool false, .slice none 0 0]), (b3, 142, bigA Y ay cy), (b2, 142, bigA X ax cx)] [] ⟨w, kys [] []⟩ := by
    intro X Y ax ay cx cy hs hxy hle hlx hly ha hb b2 b3 b4
    obtain ⟨hs1, hs2⟩ := big_dif hs hxy hle
    have hA : ∀ {bx : Bx} {hp : List Seg} (k : Nat), k ≤ 9000000000000000000 → CallOb Tryd.prog ⟨w, kys [] []⟩ bx hp 118 [.slice ax (big X).length cx, .int .i64 k] (.int .i64 (atD (big X) k : Int)) := fun {_ _} k hk w' hw' => Tryd.bAt_w _ ax cx k w' hk (ha.ext hw'.ext (by simp [kys]))
    have hD : ∀ {bx : Bx} {hp : List Seg} (k : Nat), k ≤ 9000000000000000000 → CallOb Tryd.prog ⟨w, kys [] []⟩ bx hp 118 [.slice ay (big Y).length cy, .int .i64 k] (.int .i64 (atD (big Y) k : Int)) := fun {_ _} k hk w' hw' => Tryd.bAt_w _ ay cy k w' hk (hb.ext hw'.ext (by simp [kys]))
    refine At.go [] [hB 2] rfl oK ?_
    refine At.al fun b10 hb10 => ?_
    refine At.go [] [hB 0] rfl oK ?_
    refine At.nilRow 3 1 ?_
    refine At.loop (env0 := [(2, .pointer (some ⟨b2, 0, none⟩)), (3, .pointer (some ⟨b3, 0, none⟩)), (4, .pointer (some ⟨b4, 0, none⟩)), (5, .int .i64 ↑n), (10, .pointer (some ⟨b10, 0, none⟩)), (11, .int .i64 0), (12, .int .i64 0)]) (fun m_ env bx hp => ∃ (i : Nat) (bo : Nat) (a : Option Nat) (c : Nat) (o : List Nat), m_ = n - i ∧ (i ≤ n) ∧ (o.length = i) ∧ (Dig o) ∧ (bo ≤ 1) ∧ (vl ((big X).take i) + 10000 ^ i * bo = vl o + vl ((big Y).take i)) ∧ env = [(2, .pointer (some ⟨b2, 0, none⟩)), (3, .pointer (some ⟨b3, 0, none⟩)), (4, .pointer (some ⟨b4, 0, none⟩)), (5, .int .i64 ↑n), (10, .pointer (some ⟨b10, 0, none⟩)), (11, .int .i64 bo), (12, .int .i64 i)] ∧ bx = [(b10, 142, [.bool (decide (X < 0)), .slice (svA a) i c]), (b4, 142, [.bool false, .slice none 0 0]), (b3, 142, [.bool (decide (Y < 0)), .slice ay (big Y).length cy]), (b2, 142, [.bool (decide (X < 0)), .slice ax (big X).length cx])] ∧ hp = [Seg.row a 3 1 i c (nc o)]) rfl
      ⟨0, 0, none, 0, [], rfl, (by omega), (rfl), (fun d hd => by cases hd), (by omega), (by simp [vl]), rfl, rfl, rfl⟩ sB ?_
    rintro m_ env bx hp ⟨i, bo, a, c, o, rfl, hi, ho, hod, hbo, hv, rfl, rfl, rfl⟩ ih
    have d1 := atD_lt (big_dig X) i
    have d2 := atD_lt (big_dig Y) i
    by_cases hlt : i < n
    · obtain ⟨q1, q2⟩ := sub_step ho (big_dig Y) hbo hv
      by_cases hb : atD (big X) i < atD (big Y) i + bo
      · refine At.go [true] [] rfl (by and_intros <;> first | exact hA i (by omega) | exact hD i (by omega) | exact oK) ?_
        refine At.qt [] [hB 3, hC (.int .i64 ↑(atD (big X) i)), hB 2, hC (.int .i64 ↑(atD (big Y) i))] rfl rfl (by and_intros <;> first | exact hA i (by omega) | exact hD i (by omega) | exact oK) ?_
        refine At.go [true] [hB 0] rfl (by and_intros <;> first | exact hA i (by omega) | exact hD i (by omega) | exact oK) ?_
        refine At.a1 0 1 8 fun b93 a94 c94 => ?_
        refine At.go [] [hB 0] rfl (by and_intros <;> first | exact hA i (by omega) | exact hD i (by omega) | exact oK) ?_
        rw [nc_snoc' (d := atD (big X) i + 10000 - atD (big Y) i - bo) (by omega)]
        exact At.weak (ih _ _ _ _ (by omega) ⟨i + 1, 1, a94, c94, o ++ [atD (big X) i + 10000 - atD (big Y) i - bo], rfl, by omega, by simp [ho], dig_snoc hod (by omega), by omega, q1 hb, rfl, rfl, rfl⟩) sB
      · refine At.go [true] [] rfl (by and_intros <;> first | exact hA i (by omega) | exact hD i (by omega) | exact oK) ?_
        refine At.qt [] [hB 3, hC (.int .i64 ↑(atD (big X) i)), hB 2, hC (.int .i64 ↑(atD (big Y) i))] rfl rfl (by and_intros <;> first | exact hA i (by omega) | exact hD i (by omega) | exact oK) ?_
        refine At.go [false] [hB 0] rfl (by and_intros <;> first | exact hA i (by omega) | exact hD i (by omega) | exact oK) ?_
        refine At.a1 0 1 8 fun b93 a94 c94 => ?_
        refine At.go [] [hB 0] rfl (by and_intros <;> first | exact hA i (by omega) | exact hD i (by omega) | exact oK) ?_
        rw [nc_snoc' (d := atD (big X) i - atD (big Y) i - bo) (by omega)]
        exact At.weak (ih _ _ _ _ (by omega) ⟨i + 1, 0, a94, c94, o ++ [atD (big X) i - atD (big Y) i - bo], rfl, by omega, by simp [ho], dig_snoc hod (by omega), by omega, q2 hb, rfl, rfl, rfl⟩) sB
    · have hin : i = n := by omega
      have hvl := sub_end (o := o) (c := bo) hlx hly (by omega) hod (by rw [big_vl, big_vl]; exact hle) (by rw [← hin]; exact hv)
      rw [big_vl, big_vl] at hvl
      subst ho
      refine At.go [false] [hB 0] rfl oK ?_
      refine At.step [] rfl rfl rfl rfl rfl trivial (OpOk.callO [] [true] rfl rfl (fun w' hw' ho' => Tryd.bTrim_w _ o a c w' hod (by omega) ho') ?_)
      rintro v bx' hp' ⟨rfl, rfl, rfl⟩
      refine At.go [] [hB 1] rfl oK ?_
      refine At.rt [] [true] [hB 1] Tryd.func77 ?_
      exact ⟨a, c, congrArg (fun l => Value.agg ⟨l⟩) (bigV_of (hs1.trans hvl.symm) (by rw [hvl]; exact hs2)), rfl, bigR_of (hs1.trans hvl.symm)⟩
  refine At.cutU (ι := Unit) ⟨0, [1, 0, 1, 1, 1], []⟩ (fun _ => [(2, .pointer (some ⟨b2, 0, none⟩)), (3, .pointer (some ⟨b3, 0, none⟩)), (4, .pointer (some ⟨b4, 0, none⟩)), (5, .int .i64 n), (29, .bool (decide (S < 0) == decide (T < 0)))]) (fun _ => [(b4, 142, [.bool false, .slice none 0 0]), (b3, 142, bigA T ab cb), (b2, 142, bigA S aa ca)]) ?_ fun hk => ?_
  · rintro -
    by_cases hs : decide (S < 0) = decide (T < 0)
    · obtain ⟨hs1, hs2⟩ := big_sgn hs
      refine At.go [true] [hB 2] rfl (by and_intros <;> first | (simp [hs]; done) | exact oK) ?_
      refine At.al fun b6 hb6 => ?_
      refine At.go [] [hB 0] rfl (by and_intros <;> first | (simp [hs]; done) | exact oK) ?_
      refine At.nilRow 3 1 ?_
      refine At.loop (env0 := [(2, .pointer (some ⟨b2, 0, none⟩)), (3, .pointer (some ⟨b3, 0, none⟩)), (4, .pointer (some ⟨b4, 0, none⟩)), (5, .int .i64 ↑n), (6, .pointer (some ⟨b6, 0, none⟩)), (7, .int .i64 0), (8, .int .i64 0)]) (fun m_ env bx hp => ∃ (i : Nat) (cy : Nat) (a : Option Nat) (c : Nat) (o : List Nat), m_ = n + 1 - i ∧ (i ≤ n + 1) ∧ (o.length = i) ∧ (Dig o) ∧ (cy ≤ 1) ∧ (vl o + 10000 ^ i * cy = vl ((big S).take i) + vl ((big T).take i)) ∧ env = [(2, .pointer (some ⟨b2, 0, none⟩)), (3, .pointer (some ⟨b3, 0, none⟩)), (4, .pointer (some ⟨b4, 0, none⟩)), (5, .int .i64 ↑n), (6, .pointer (some ⟨b6, 0, none⟩)), (7, .int .i64 cy), (8, .int .i64 i)] ∧ bx = [(b6, 142, [.bool (decide (S < 0)), .slice (svA a) i c]), (b4, 142, [.bool false, .slice none 0 0]), (b3, 142, [.bool (decide (T < 0)), .slice ab (big T).length cb]), (b2, 142, [.bool (decide (S < 0)), .slice aa (big S).length ca])] ∧ hp = [Seg.row a 3 1 i c (nc o)]) rfl
        ⟨0, 0, none, 0, [], rfl, (by omega), (rfl), (fun d hd => by cases hd), (by omega), (by simp [vl]), rfl, rfl, rfl⟩ sB ?_
      rintro m_ env bx hp ⟨i, cy, a, c, o, rfl, hi, ho, hod, hcy, hv, rfl, rfl, rfl⟩ ih
      have d1 := atD_lt (big_dig S) i
      have d2 := atD_lt (big_dig T) i
      by_cases hlt : i ≤ n
      · refine At.go [true] [] rfl (by and_intros <;> first | exact hA i (by omega) | exact hD i (by omega) | exact oK) ?_
        refine At.qt [] [hB 3, hC (.int .i64 ↑(atD (big S) i)), hB 2, hC (.int .i64 ↑(atD (big T) i))] rfl rfl (by and_intros <;> first | exact hA i (by omega) | exact hD i (by omega) | exact oK) ?_
        refine At.go [] [hB 0] rfl (by and_intros <;> first | exact hA i (by omega) | exact hD i (by omega) | exact oK) ?_
        refine At.a1 0 1 8 fun b53 a54 c54 => ?_
        refine At.go [] [hB 0] rfl (by and_intros <;> first | exact hA i (by omega) | exact hD i (by omega) | exact oK) ?_
        rw [nc_snoc' (d := (atD (big S) i + atD (big T) i + cy) % 10000) (by omega)]
        exact At.weak (ih _ _ _ _ (by omega) ⟨i + 1, (atD (big S) i + atD (big T) i + cy) / 10000, a54, c54, o ++ [(atD (big S) i + atD (big T) i + cy) % 10000], rfl, by omega, by simp [ho], dig_snoc hod (by omega), by omega, add_step ho hv, rfl, rfl, rfl⟩) sB
      · have hin : i = n + 1 := by omega
        have hvl := add_end (o := o) (c := cy) (big_dig S) (big_dig T) hln hmn (by omega) (by rw [← hin]; exact hv)
        rw [big_vl, big_vl] at hvl
        subst ho
        refine At.go [false] [hB 0] rfl oK ?_
        refine At.step [] rfl rfl rfl rfl rfl trivial (OpOk.callO [] [true] rfl rfl (fun w' hw' ho' => Tryd.bTrim_w _ o a c w' hod (by omega) ho') ?_)
        rintro v bx' hp' ⟨rfl, rfl, rfl⟩
        refine At.go [] [hB 1] rfl oK ?_
        refine At.rt [] [true] [hB 1] Tryd.func77 ?_
        exact ⟨a, c, congrArg (fun l => Value.agg ⟨l⟩) (bigV_of (hs1.trans hvl.symm) (by rw [hvl]; exact hs2)), rfl, bigR_of (hs1.trans hvl.symm)⟩
    · by_cases hl2 : vl (big S) < vl (big T)
      · refine At.gn 17 [false, true] [hB 2, hB 1, hC (.bool (decide (vl (big S) < vl (big T)))), hB 1, hB 2, hB 2, hB 1, hB 2] rfl (by and_intros <;> first | (simp [hs]; done) | exact hL | exact oK) ?_
        rw [big_vl, big_vl] at hl2
        exact At.weak (key T S ab aa cb ca hs (.inr ⟨rfl, rfl⟩) (by omega) hmn hln hb ha b2 b3 b4) sB
      · refine At.gn 16 [false, false] [hB 2, hB 1, hC (.bool (decide (vl (big S) < vl (big T)))), hB 2] rfl (by and_intros <;> first | (simp [hs]; done) | exact hL | exact oK) ?_
        rw [big_vl, big_vl] at hl2
        exact At.weak (key S T aa ab ca cb hs (.inl ⟨rfl, rfl⟩) (by omega) hln hmn ha hb b2 b3 b4) sB
  · by_cases h : (big S).length < (big T).length
    · rw [if_pos h] at hn
      refine At.go [true] [hB 2, hB 1, hB 1, hB 2, hB 1] rfl (by and_intros <;> first | (simp; omega) | exact oK) ?_
      exact At.weak (hk ()) sB
    · rw [if_neg h] at hn
      refine At.go [false] [hB 2, hB 1, hB 2, hB 1] rfl (by and_intros <;> first | (simp; omega) | exact oK) ?_
      exact At.weak (hk ()) sB
end Go.Proofs

/-
  Walks of layer 5's document: does a number fit.
-/
namespace Go.Proofs
open Go Go.Eng
set_option maxRecDepth 100000
set_option maxHeartbeats 4000000
attribute [local irreducible] Tri

theorem vl_drop_le (l : List Nat) (i : Nat) : vl (l.drop i) ≤ vl l := by
  have h := vl_split l i
  have : 1 * vl (l.drop i) ≤ 10000 ^ i * vl (l.drop i) := Nat.mul_le_mul_right _ (Nat.pow_pos (by decide))
  omega
theorem bigV_one {S : Int} {a : Option Nat} {c : Nat} : ∀ u, u ∈ bigV S a c → u.oneCell' = true := by
  intro u hu
  simp only [bigV, List.mem_cons, List.not_mem_nil, or_false] at hu
  rcases hu with rfl | rfl <;> rfl
theorem Tryd.bFits_w (S : Int) (a : Option Addr) (c : Nat) (w : World) (hS : (big S).length ≤ 100000) (ha : SlOk w a (nc (big S))) :
    Fun Tryd.prog 80 [.agg ⟨bigA S a c⟩] w (.tuple #[.int .i64 (totS S).1, .bool (totS S).2]) := by
  refine Tri.enter (bx := []) (hp := []) Tryd.func80 rfl (by kernel_rfl) rfl (Own.nil w) ?_
  refine At.go [] [] rfl oK ?_
  refine At.bo fun b1 hb1 => ?_
  refine At.go [] [] rfl oK ?_
  refine At.ca (fun w' _ => Tryd.bOf_w (-9223372036854775808) (by simp [inK]) w') ?_
  rintro v bx' hp' ⟨a', c', rfl, rfl, rfl⟩
  refine At.al fun b4 hb4 => ?_
  have hvL : vl (big (-9223372036854775808)) = 9223372036854775808 := big_vl _
  have hlL : (big (-9223372036854775808)).length ≤ 5 := dg_len (by decide)
  have hvS := big_vl S
  have hX : ∀ {bx : Bx}, CallOb Tryd.prog ⟨w, kys [] []⟩ bx [Seg.row a' 3 1 (big (-9223372036854775808)).length c' (nc (big (-9223372036854775808)))] 120 [.slice (svA a') (big (-9223372036854775808)).length c', .slice a (big S).length c] (.bool (decide (9223372036854775808 < S.natAbs))) := fun {_} w' hw' => by
    have := Tryd.bLess_w (big (-9223372036854775808)) (big S) (svA a') a c' c w' (by omega) (by omega) (big_dig _) (big_dig _) (SlOk.row (hw'.hp (Seg.row a' 3 1 (big (-9223372036854775808)).length c' (nc (big (-9223372036854775808)))) (by simp))) (ha.ext hw'.ext (by simp [kys]))
    rw [hvL, hvS] at this; exact this
  have hY : ∀ {bx : Bx}, CallOb Tryd.prog ⟨w, kys [] []⟩ bx [Seg.row a' 3 1 (big (-9223372036854775808)).length c' (nc (big (-9223372036854775808)))] 120 [.slice a (big S).length c, .slice (svA a') (big (-9223372036854775808)).length c'] (.bool (decide (S.natAbs < 9223372036854775808))) := fun {_} w' hw' => by
    have := Tryd.bLess_w (big S) (big (-9223372036854775808)) a (svA a') c c' w' (by omega) (by omega) (big_dig _) (big_dig _) (ha.ext hw'.ext (by simp [kys])) (SlOk.row (hw'.hp (Seg.row a' 3 1 (big (-9223372036854775808)).length c' (nc (big (-9223372036854775808)))) (by simp)))
    rw [hvL, hvS] at this; exact this
  by_cases hf : -9223372036854775808 ≤ S ∧ S ≤ 9223372036854775807
  · rw [show totS S = (S, true) from if_pos hf]
    have hle : vl (big S) ≤ 9223372036854775808 := by omega
    refine At.cutU (ι := Unit) ⟨0, [0, 1, 0, 1, 1, 1, 1], []⟩ (fun _ => [(1, .pointer (some ⟨b1, 0, none⟩)), (5, .int .i64 0), (6, .int .i64 ((big S).length - 1))]) (fun _ => [(b4, 142, bigV (-9223372036854775808) a' c'), (b1, 142, bigA S a c)]) ?_ fun hk => ?_
    · rintro -
      refine At.loop (env0 := [(1, .pointer (some ⟨b1, 0, none⟩)), (5, .int .i64 0), (6, .int .i64 (↑(big S).length - 1))]) (fun m_ env bx hp => ∃ (i : Nat) (z : Nat), m_ = i + 1 ∧ (i ≤ (big S).length) ∧ (z = vl ((big S).drop i)) ∧ env = [(1, .pointer (some ⟨b1, 0, none⟩)), (5, .int .i64 (-(z : Int))), (6, .int .i64 ((i : Int) - 1))] ∧ bx = [(b4, 142, [.bool (decide (-9223372036854775808 < 0)), .slice (svA a') (big (-9223372036854775808)).length c']), (b1, 142, [.bool (decide (S < 0)), .slice a (big S).length c])] ∧ hp = [Seg.row a' 3 1 (big (-9223372036854775808)).length c' (nc (big (-9223372036854775808)))]) rfl
        ⟨(big S).length, 0, rfl, (Nat.le_refl _), (by rw [List.drop_length]; rfl), rfl, rfl, rfl⟩ sB ?_
      rintro m_ env bx hp ⟨i, z, rfl, hi, hz, rfl, rfl, rfl⟩ ih
      by_cases h0 : i = 0
      · subst h0
        rw [List.drop_zero, hvS] at hz
        by_cases hn : S < 0
        · refine At.go [false, false] [hB 1] rfl (by and_intros <;> first | (simp [hn]; done) | exact oK) ?_
          refine At.rt [] [] [] Tryd.func80 ?_
          exact ⟨by rw [hz]; exact congrArg (fun z => Value.tuple #[.int .i64 z, .bool true]) (by omega), rfl, rfl⟩
        · refine At.go [false, true] [hB 1] rfl (by and_intros <;> first | (simp [hn]; done) | exact oK) ?_
          refine At.rt [] [] [] Tryd.func80 ?_
          exact ⟨by rw [hz]; exact congrArg (fun z => Value.tuple #[.int .i64 z, .bool true]) (by omega), rfl, rfl⟩
      · obtain ⟨k, rfl⟩ : ∃ k, i = k + 1 := ⟨i - 1, by omega⟩
        rw [show (((k + 1 : Nat) : Int) - 1) = (k : Int) by omega]
        obtain ⟨x, hx⟩ : ∃ x, (big S)[k]? = some x := ⟨_, List.getElem?_eq_getElem (by omega)⟩
        obtain ⟨g, o, rfl, hc⟩ := ha.nc_get hx
        have r : ∀ {bx : Bx} {hp : List Seg}, RdW ⟨w, kys [] []⟩ bx hp g (o + (k : Int).toNat * 1) [.int .i64 (x : Int)] := fun {_ _} => RdW.base1 (by simp [kys]) (by rw [Int.toNat_natCast, Nat.mul_one]; exact hc)
        have hvd := vl_drop (big S) k
        rw [atD_some hx] at hvd
        have hle2 := vl_drop_le (big S) k
        subst hz
        refine At.go [true] [hB 1, hR [.int .i64 ↑x]] rfl (by and_intros <;> first | exact r | exact oK) ?_
        exact At.weak (ih _ _ _ _ (by omega) ⟨k, vl ((big S).drop k), rfl, by omega, rfl, rfl, rfl, rfl⟩) sB
    · by_cases hn : S < 0
      · refine At.go [true, false, false, false] [hB 0, hB 1, hB 0, hB 1, hC (.bool (decide (9223372036854775808 < S.natAbs))), hB 1, hB 1] rfl (by and_intros <;> first | exact bigV_one | exact hX | exact hY | (simp [hn]; done) | (simp [hn]; omega) | exact oK) ?_
        exact At.weak (hk ()) sB
      · refine At.go [false, false, true, false] [hB 0, hB 1, hB 1, hB 1, hB 0, hC (.bool (decide (S.natAbs < 9223372036854775808))), hB 1] rfl (by and_intros <;> first | exact bigV_one | exact hX | exact hY | (simp [hn]; done) | (simp [hn]; omega) | exact oK) ?_
        exact At.weak (hk ()) sB
  · rw [show totS S = (0, false) from if_neg hf]
    by_cases hn : S < 0
    · refine At.go [true, true, true] [hB 0, hB 1, hB 0, hB 1, hC (.bool (decide (9223372036854775808 < S.natAbs)))] rfl (by and_intros <;> first | exact bigV_one | exact hX | exact hY | (simp [hn]; done) | (simp [hn]; omega) | exact oK) ?_
      refine At.rt [] [] [] Tryd.func80 ?_
      exact ⟨rfl, rfl, rfl⟩
    · refine At.go [false, false, true, true] [hB 0, hB 1, hB 1, hB 1, hB 0, hC (.bool (decide (S.natAbs < 9223372036854775808)))] rfl (by and_intros <;> first | exact bigV_one | exact hX | exact hY | (simp [hn]; done) | (simp [hn]; omega) | exact oK) ?_
      refine At.rt [] [] [] Tryd.func80 ?_
      exact ⟨rfl, rfl, rfl⟩
end Go.Proofs

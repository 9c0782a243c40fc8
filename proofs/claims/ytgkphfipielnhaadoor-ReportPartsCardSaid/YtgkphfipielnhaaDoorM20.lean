/-
  Walks of layer 5's document: numbers multiplied.
-/
import Derived.Test.YtgkphfipielnhaaDoorM17
import Derived.Test.YtgkphfipielnhaaDoorM15
import Derived.Test.YtgkphfipielnhaaDoorM7
import Derived.Test.YtgkphfipielnhaaDoorM18
import Derived.Test.YtgkphfipielnhaaDoorM11
import Derived.Test.YtgkphfipielnhaaDoorM12
import Derived.Test.YtgkphfipielnhaaDoorM2
import Derived.Test.YtgkphfipielnhaaDoorM19
/-
  Walks of layer 5's document: numbers multiplied.
-/
namespace Go.Proofs
open Go Go.Eng
set_option maxRecDepth 100000
set_option maxHeartbeats 4000000
attribute [local irreducible] Tri

theorem putL_nc {o : List Nat} {k d : Nat} {x : Int} (h : x = (d : Int)) : putL (nc o) k [Value.int .i64 x] = nc (o.set k d) := by
  subst h
  show putL (setL (nc o) k _) (k + 1) [] = _
  rw [show putL (setL (nc o) k (Value.int .i64 (d : Int))) (k + 1) [] = setL (nc o) k (Value.int .i64 (d : Int)) by cases (setL (nc o) k (Value.int .i64 (d : Int))) <;> rfl, setL_eq]
  unfold nc; rw [List.map_set]
theorem mul_sgn {S T : Int} : (S * T).natAbs = S.natAbs * T.natAbs ∧ ((!(decide (S < 0) == decide (T < 0))) && !decide (S.natAbs * T.natAbs = 0)) = decide (S * T < 0) := by
  refine ⟨Int.natAbs_mul S T, ?_⟩
  obtain ⟨h1, h2, h3, h4⟩ := @mul_signs S T
  by_cases a : S < 0 <;> by_cases b : T < 0
  · rw [decide_eq_true a, decide_eq_true b, decide_eq_false (show ¬ S * T < 0 by rw [h1 a b]; omega)]; rfl
  · have := h3 a b
    rw [decide_eq_true a, decide_eq_false b]
    by_cases z : S.natAbs * T.natAbs = 0
    · rw [decide_eq_true z, decide_eq_false (show ¬ S * T < 0 by rw [this, z]; omega)]; rfl
    · rw [decide_eq_false z, decide_eq_true (show S * T < 0 by rw [this]; omega)]; rfl
  · have := h4 a b
    rw [decide_eq_false a, decide_eq_true b]
    by_cases z : S.natAbs * T.natAbs = 0
    · rw [decide_eq_true z, decide_eq_false (show ¬ S * T < 0 by rw [this, z]; omega)]; rfl
    · rw [decide_eq_false z, decide_eq_true (show S * T < 0 by rw [this]; omega)]; rfl
  · rw [decide_eq_false a, decide_eq_false b, decide_eq_false (show ¬ S * T < 0 by rw [h2 a b]; omega)]; rfl
theorem mul_td {y x t c : Nat} : ((y : Int) + (x : Int) * (t : Int) + (c : Int)) % 10000 = (((y + x * t + c) % 10000 : Nat) : Int) ∧ ((y : Int) + (x : Int) * (t : Int) + (c : Int)) / 10000 = (((y + x * t + c) / 10000 : Nat) : Int) := by
  rw [show (y : Int) + (x : Int) * (t : Int) + (c : Int) = ((y + x * t + c : Nat) : Int) by simp]
  exact ⟨by omega, by omega⟩
theorem two_one {b : Bool} {a : Option Addr} {n c : Nat} : ∀ u, u ∈ [Value.bool b, .slice a n c] → u.oneCell' = true := fun u hu => by
  rcases List.mem_cons.1 hu with rfl | hu
  · rfl
  · rw [List.mem_singleton.1 hu]; rfl
theorem Tryd.bMul_w (S T : Int) (aa ab : Option Addr) (ca cb : Nat) (w : World) (hS : (big S).length ≤ 1000) (hT : (big T).length ≤ 1000) (ha : SlOk w aa (nc (big S))) (hb : SlOk w ab (nc (big T))) :
    Tri Tryd.prog 79 [.agg ⟨bigA S aa ca⟩, .agg ⟨bigA T ab cb⟩] w [] (fun v bx hp => ∃ a c, v = .agg ⟨bigV (S * T) a c⟩ ∧ bx = [] ∧ hp = [Seg.row a 3 1 (big (S * T)).length c (nc (big (S * T)))]) := by
  refine Tri.enter (bx := []) (hp := []) Tryd.func79 rfl (by kernel_rfl) rfl (Own.nil w) ?_
  have hD : ∀ {bx : Bx} {hp : List Seg} (k : Nat), k ≤ 9000000000000000000 → CallOb Tryd.prog ⟨w, kys [] []⟩ bx hp 118 [.slice ab (big T).length cb, .int .i64 k] (.int .i64 (atD (big T) k : Int)) := fun {_ _} k hk w' hw' => Tryd.bAt_w _ ab cb k w' hk (hb.ext hw'.ext (by simp [kys]))
  refine At.go [] [] rfl oK ?_
  refine At.bo fun b2 hb2 => ?_
  refine At.bo fun b3 hb3 => ?_
  refine At.al fun b4 hb4 => ?_
  obtain ⟨n, hn⟩ : ∃ n, (big S).length + (big T).length + 1 = n := ⟨_, rfl⟩
  have hn2 : n ≤ 2001 := by omega
  refine At.cutS (ι := Nat × Nat) ⟨0, [0, 1, 0, 1, 1], []⟩ (fun e => [(6, .int .i64 0), (2, .pointer (some ⟨b2, 0, none⟩)), (3, .pointer (some ⟨b3, 0, none⟩)), (4, .pointer (some ⟨b4, 0, none⟩)), (5, .pointer (some ⟨e.1, 0, none⟩))])
    (fun e => [(e.1, 142, [.bool (!(decide (S < 0) == decide (T < 0))), .slice (some ⟨e.2, 0, none⟩) n n]), (b4, 142, [.bool false, .slice none 0 0]), (b3, 142, bigA T ab cb), (b2, 142, bigA S aa ca)])
    (fun e => [Seg.row (some e.2) 3 1 n n (nc (List.replicate n 0))]) ?_ fun hk => ?_
  · rintro ⟨b5, g⟩
    have hvS := big_vl S
    have hvT := big_vl T
    show At _ ⟨0, [0, 1, 0, 1, 1], []⟩ [] [(6, .int .i64 0), (2, .pointer (some ⟨b2, 0, none⟩)), (3, .pointer (some ⟨b3, 0, none⟩)), (4, .pointer (some ⟨b4, 0, none⟩)), (5, .pointer (some ⟨b5, 0, none⟩))]
      [(b5, 142, [.bool (!(decide (S < 0) == decide (T < 0))), .slice (some ⟨g, 0, none⟩) n n]), (b4, 142, [.bool false, .slice none 0 0]), (b3, 142, bigA T ab cb), (b2, 142, bigA S aa ca)]
      [Seg.row (some g) 3 1 n n (nc (List.replicate n 0))] ⟨w, kys [] []⟩
    refine At.loop (env0 := [(2, .pointer (some ⟨b2, 0, none⟩)), (3, .pointer (some ⟨b3, 0, none⟩)), (4, .pointer (some ⟨b4, 0, none⟩)), (5, .pointer (some ⟨b5, 0, none⟩)), (6, .int .i64 0)]) (fun m_ env bx hp => ∃ (i : Nat) (o : List Nat), m_ = (big S).length - i ∧ (i ≤ (big S).length) ∧ (o.length = n) ∧ (Dig o) ∧ (vl o = vl ((big S).take i) * vl (big T)) ∧ env = [(2, .pointer (some ⟨b2, 0, none⟩)), (3, .pointer (some ⟨b3, 0, none⟩)), (4, .pointer (some ⟨b4, 0, none⟩)), (5, .pointer (some ⟨b5, 0, none⟩)), (6, .int .i64 i)] ∧ bx = [(b5, 142, [.bool !decide (S < 0) == decide (T < 0), .slice (some ⟨g, 0, none⟩) n n]), (b4, 142, [.bool false, .slice none 0 0]), (b3, 142, [.bool (decide (T < 0)), .slice ab (big T).length cb]), (b2, 142, [.bool (decide (S < 0)), .slice aa (big S).length ca])] ∧ hp = [Seg.row (some g) 3 1 n n (nc o)]) rfl
      ⟨0, List.replicate n 0, rfl, (by omega), (by simp), (fun d hd => by rw [(List.mem_replicate.1 hd).2]; omega), (by rw [vl_rep]; simp [vl]), rfl, rfl, rfl⟩ sB ?_
    rintro m_ env bx hp ⟨i, o, rfl, hi, ho, hod, hv, rfl, rfl, rfl⟩ ihli
    by_cases hlt : i < (big S).length
    · obtain ⟨x, hx⟩ : ∃ x, (big S)[i]? = some x := ⟨_, List.getElem?_eq_getElem hlt⟩
      obtain ⟨ga, oa, rfl, hc⟩ := ha.nc_get hx
      have rS : ∀ {bx : Bx} {hp : List Seg}, RdW ⟨w, kys [] []⟩ bx hp ga (oa + (i : Int).toNat * 1) [.int .i64 (x : Int)] := fun {_ _} => RdW.base1 (by simp [kys]) (by rw [Int.toNat_natCast, Nat.mul_one]; exact hc)
      refine At.go [true] [hB 3] rfl oK ?_
      refine At.loop (env0 := [(2, .pointer (some ⟨b2, 0, none⟩)), (3, .pointer (some ⟨b3, 0, none⟩)), (4, .pointer (some ⟨b4, 0, none⟩)), (5, .pointer (some ⟨b5, 0, none⟩)), (6, .int .i64 ↑i), (7, .int .i64 0), (8, .int .i64 0)]) (fun m_ env bx hp => ∃ (j : Nat) (c : Nat) (o : List Nat), m_ = (big T).length + 1 - j ∧ (j ≤ (big T).length + 1) ∧ (o.length = n) ∧ (Dig o) ∧ (c < 10000) ∧ (vl o + 10000 ^ (i + j) * c = vl ((big S).take i) * vl (big T) + x * 10000 ^ i * vl ((big T).take j)) ∧ env = [(2, .pointer (some ⟨b2, 0, none⟩)), (3, .pointer (some ⟨b3, 0, none⟩)), (4, .pointer (some ⟨b4, 0, none⟩)), (5, .pointer (some ⟨b5, 0, none⟩)), (6, .int .i64 ↑i), (7, .int .i64 c), (8, .int .i64 j)] ∧ bx = [(b5, 142, [.bool !decide (S < 0) == decide (T < 0), .slice (some ⟨g, 0, none⟩) n n]), (b4, 142, [.bool false, .slice none 0 0]), (b3, 142, [.bool (decide (T < 0)), .slice ab (big T).length cb]), (b2, 142, [.bool (decide (S < 0)), .slice (some ⟨ga, oa, none⟩) (big S).length ca])] ∧ hp = [Seg.row (some g) 3 1 n n (nc o)]) rfl
        ⟨0, 0, o, rfl, (by omega), (ho), (hod), (by omega), (by rw [hv]; simp [vl]), rfl, rfl, rfl⟩ sB ?_
      rintro m_ env bx hp ⟨j, c, o, rfl, hj, ho, hod, hcl, hv, rfl, rfl, rfl⟩ ihlj
      by_cases hjl : j < (big T).length + 1
      · obtain ⟨y, hy⟩ : ∃ y, o[i + j]? = some y := ⟨_, List.getElem?_eq_getElem (by omega)⟩
        have rO : ∀ {bx : Bx}, RdW ⟨w, kys [] []⟩ bx [Seg.row (some g) 3 1 n n (nc o)] g (0 + ((i : Int) + (j : Int)).toNat * 1) [.int .i64 (y : Int)] := fun {_} => RdW.row1 (j := 0) rfl (nc_get hy) (by omega)
        have d1 := atD_lt (big_dig T) j
        have d2 : y < 10000 := hod y (List.mem_of_getElem? hy)
        have d3 : x < 10000 := big_dig S x (List.mem_of_getElem? hx)
        have d4 : x * atD (big T) j ≤ 99980001 := by
          have := Nat.mul_le_mul (show x ≤ 9999 by omega) (show atD (big T) j ≤ 9999 by omega)
          omega
        have d5 : ((x : Int) * (atD (big T) j : Int)) = ((x * atD (big T) j : Nat) : Int) := by simp
        have hln : 0 + ((i : Int) + (j : Int)).toNat * 1 + 1 ≤ (nc o).length := by rw [nc_len, ho]; omega
        have d6 := @mul_td y x (atD (big T) j) c
        refine At.go [true] [hB 2] rfl oK ?_
        refine At.dr 21 ?_
        refine AtD.pu [0, 2, 3, 7, 9, 12, 14, 18] 13 rfl oK ?_
        refine AtD.pu [4] 12 rfl oK ?_
        refine AtD.lx [1, 5, 6, 8, 10, 11, 13, 15, 16, 17, 19, 20] 0 [] [hB 0, hR [.int .i64 (y : Int)], hB 3, hR [.int .i64 (x : Int)], hB 2, hC (.int .i64 (atD (big T) j : Int))] rfl (by and_intros <;> first | exact rO | exact rS | exact hD j (by omega) | exact oK) ?_ (h0 := fun _ => by kernel_rfl)
        refine AtD.dn ?_
        refine At.go [] [hB 0] rfl (by and_intros <;> first | exact hln | exact oK) ?_
        refine At.sr 0 rfl rfl rfl rfl rfl rfl (by and_intros <;> first | exact hln | exact oK) (by and_intros <;> first | exact hln | exact oK) (by and_intros <;> first | exact hln | exact oK) ?_
        refine At.go [] [] rfl (by and_intros <;> first | exact hln | exact oK) ?_
        rw [d6.1, d6.2, putL_nc rfl, show 0 + ((i : Int) + (j : Int)).toNat * 1 = i + j by omega]
        exact At.weak (ihlj _ _ _ _ (by omega) ⟨j + 1, (y + x * atD (big T) j + c) / 10000, o.set (i + j) ((y + x * atD (big T) j + c) % 10000), rfl, by omega, by simp [ho], dig_set hod (by omega), by omega, mul_step hy hv, rfl, rfl, rfl⟩) sB
      · have hjn : j = (big T).length + 1 := by omega
        subst hjn
        have q := mul_end (big_dig S) (big_dig T) (atD_some hx) hv
        refine At.go [false] [hB 2] rfl oK ?_
        exact At.weak (ihli _ _ _ _ (by omega) ⟨i + 1, o, rfl, by omega, ho, hod, q, rfl, rfl, rfl⟩) sB
    · have hin : i = (big S).length := by omega
      rw [hin, List.take_of_length_le (Nat.le_refl _)] at hv
      rw [hvS, hvT] at hv
      obtain ⟨hs1, hs2⟩ := @mul_sgn S T
      have hvl : vl o = (S * T).natAbs := hv.trans hs1.symm
      refine At.go [false] [hB 3, hB 0] rfl oK ?_
      subst ho
      refine At.step [] rfl rfl rfl rfl rfl trivial (OpOk.callO [] [true] rfl rfl (fun w' hw' ho' => Tryd.bTrim_w _ o (some g) o.length w' hod (by omega) ho') ?_)
      rintro v bx' hp' ⟨rfl, rfl, rfl⟩
      refine At.go [] [hB 1] rfl oK ?_
      refine At.rt [] [true] [hB 1] Tryd.func79 ?_
      exact ⟨some g, o.length, congrArg (fun l => Value.agg ⟨l⟩) (bigV_of hvl.symm (by rw [hvl, hs1]; exact hs2)), rfl, bigR_of hvl.symm⟩
  · refine At.go [] [] rfl oK ?_
    refine At.dr 17 ?_
    refine AtH.reads true [0, 1, 2, 3, 4, 5, 6, 7, 8, 9, 10, 11, 12] [hB 2, hB 1, hB 2, hB 1] (by kernel_rfl) (by kernel_rfl) (by kernel_rfl) rfl rfl oK rfl rfl (fuel := 4) ?_
    refine AtH.fork2 13 15 (by kernel_rfl) rfl rfl rfl rfl rfl rfl (OpOk.makeSlice (sz := 1) (by_ := 8) (xs := nc (List.replicate n 0)) n rfl rfl rfl rfl (some_int_eq (by omega)) (some_int_eq (by omega)) (by omega) (by omega) (by omega) (by simp [nc]) (fun j hj => nc_rep hj) (by decide) (fun g => ⟨fun w hw => hw.dropH, ?_⟩))
      (OpOk.alloc (cs := [.bool false, .slice none 0 0]) rfl (by kernel_rfl) fun b5 hb5 => ⟨fun w hw => hw.dropB, ?_⟩)
    · refine AtH.fork2 14 15 (by kernel_rfl) rfl rfl rfl rfl rfl rfl (OpOk.one true [] [] rfl oK ⟨fun w hw => hw.dropH, ?_⟩) (OpOk.alloc (cs := [.bool false, .slice none 0 0]) rfl (by kernel_rfl) fun b5 hb5 => ⟨fun w hw => hw.dropB.dropH, ?_⟩)
      · refine AtH.fork1 15 (by kernel_rfl) rfl rfl rfl (OpOk.alloc (cs := [.bool false, .slice none 0 0]) rfl (by kernel_rfl) fun b5 hb5 => ⟨fun w hw => hw.dropB.dropH, ?_⟩)
        refine AtH.fork1 16 (by kernel_rfl) rfl rfl rfl (OpOk.one true [] [hB 0] rfl (by and_intros <;> first | exact two_one | exact oK) ⟨fun w hw => hw.dropB.dropH, ?_⟩)
        refine AtH.done (by kernel_rfl) ?_
        exact At.go [] [] rfl oK (At.weak (hk (b5, g)) sB)
      · refine AtH.fork1 14 (by kernel_rfl) rfl rfl rfl (OpOk.one true [] [] rfl oK ⟨fun w hw => hw.dropB.dropH, ?_⟩)
        refine AtH.fork1 16 (by kernel_rfl) rfl rfl rfl (OpOk.one true [] [hB 0] rfl (by and_intros <;> first | exact two_one | exact oK) ⟨fun w hw => hw.dropB.dropH, ?_⟩)
        refine AtH.done (by kernel_rfl) ?_
        exact At.go [] [] rfl oK (At.weak (hk (b5, g)) sB)
    · refine AtH.fork1 13 (by kernel_rfl) rfl rfl rfl (OpOk.makeSlice (sz := 1) (by_ := 8) (xs := nc (List.replicate n 0)) n rfl rfl rfl rfl (some_int_eq (by omega)) (some_int_eq (by omega)) (by omega) (by omega) (by omega) (by simp [nc]) (fun j hj => nc_rep hj) (by decide) (fun g => ⟨fun w hw => hw.dropH.dropB, ?_⟩))
      refine AtH.fork1 14 (by kernel_rfl) rfl rfl rfl (OpOk.one true [] [] rfl oK ⟨fun w hw => hw.dropB.dropH, ?_⟩)
      refine AtH.fork1 16 (by kernel_rfl) rfl rfl rfl (OpOk.one true [] [hB 0] rfl (by and_intros <;> first | exact two_one | exact oK) ⟨fun w hw => hw.dropB.dropH, ?_⟩)
      refine AtH.done (by kernel_rfl) ?_
      exact At.go [] [] rfl oK (At.weak (hk (b5, g)) sB)
end Go.Proofs

/-
  Walks of layer 28: of a pair, the symbol whose volume it counts to.
-/
namespace Go.Proofs
open Go Go.Eng
set_option maxRecDepth 100000
set_option maxHeartbeats 4000000
attribute [local irreducible] Tri

theorem _root_.Go.Eng.RdW.pair {S : Base} {bx : Bx} {hp : List Seg} {g o i : Nat} {L : List (List Int)} {p : List Int} (hc : ∀ j u, (L.flatMap i64s)[j]? = some u → S.w0.cell? ⟨g, o + j, none⟩ = some u) (hm : g ∉ S.mods) (h9 : ∀ p, p ∈ L → p.length = 9) (hx : L[i]? = some p) (k : Nat) (hk : k < 9) :
    RdW S bx hp g (o + (i : Int).toNat * 9 + k) [.int .i64 (pg p k)] := by
  have h1 : p.length = 9 := h9 p (List.mem_of_getElem? hx)
  refine RdW.base1 hm ?_
  rw [Int.toNat_natCast, Nat.add_assoc]
  refine hc (i * 9 + k) _ (flat_get (f := i64s) (sz := 9) (fun x hx => by simp [i64s, h9 x hx]) hx k _ ?_)
  have : p[k]? = some (pg p k) := by
    unfold pg; rw [List.getD_eq_getElem?_getD, List.getElem?_eq_getElem (by omega)]; rfl
  simp [i64s, this]
/-- The symbol that a pair counts to. -/
def symAt (L : List (List Int)) (i : Nat) : Option Int := match L[i]? with
  | some p => if pg p 0 = 5 ∧ pg p 7 = 0 then ordS (L.take i) (pg p 2) else none
  | none => none
theorem ordS_succ {L : List (List Int)} {i : Nat} {q : List Int} {o : Int} (h : L[i]? = some q) : ordS (L.take (i + 1)) o = if isO q o = true then some (pg q 3) else ordS (L.take i) o := by
  unfold ordS
  rw [List.take_add_one, h, Option.toList_some, List.reverse_append, List.reverse_singleton, List.singleton_append, List.find?_cons]
  cases isO q o <;> rfl
theorem Tryd.symbol_w (L : List (List Int)) (a : Option Addr) (c i : Nat) (w : World) (h9 : ∀ p, p ∈ L → p.length = 9) (hl : L.length ≤ 1000000000) (hi : i < L.length) (ha : SlOk w a (L.flatMap i64s)) :
    Fun Tryd.prog 41 [.slice a L.length c, .int .i64 i] w (.tuple #[.int .i64 ((symAt L i).getD 0), .bool (symAt L i).isSome]) := by
  refine Tri.enter (bx := []) (hp := []) Tryd.func41 rfl (by kernel_rfl) rfl (Own.nil w) ?_
  obtain ⟨p, hp⟩ : ∃ p, L[i]? = some p := ⟨_, List.getElem?_eq_getElem hi⟩
  have hne : L.flatMap i64s ≠ [] := fun e => by
    have := flat_len (f := i64s) (sz := 9) (l := L) fun x hx => by simp [i64s, h9 x hx]
    rw [e] at this; simp at this; omega
  obtain ⟨g, o, rfl, hc⟩ := ha.get hne
  have r : ∀ {bx : Bx} {hp : List Seg} (k : Nat), k < 9 → RdW ⟨w, kys [] []⟩ bx hp g (o + (i : Int).toNat * 9 + k) [.int .i64 (pg p k)] := fun {_ _} => RdW.pair hc (by simp [kys]) h9 hp
  by_cases h5 : pg p 0 = 5
  · by_cases h7 : pg p 7 = 0
    · have hs : symAt L i = ordS (L.take i) (pg p 2) := by unfold symAt; rw [hp]; exact if_pos ⟨h5, h7⟩
      refine At.go [false, false] [hR [.int .i64 (pg p 0)], hR [.int .i64 (pg p 7)]] rfl (by and_intros <;> first | exact r 0 (by omega) | exact r 7 (by omega) | (simp [h5]; done) | (simp [h7]; done) | (simp [h5, h7]; done) | exact oK) ?_
      refine At.loop (env0 := [(0, .slice (some ⟨g, o, none⟩) L.length c), (1, .int .i64 ↑i), (6, .int .i64 (↑i - 1))]) (fun m_ env bx hp => ∃ (m : Nat), m_ = m + 1 ∧ (m ≤ i) ∧ (ordS (L.take m) (pg p 2) = ordS (L.take i) (pg p 2)) ∧ env = [(0, .slice (some ⟨g, o, none⟩) L.length c), (1, .int .i64 ↑i), (6, .int .i64 ((m : Int) - 1))] ∧ bx = [] ∧ hp = []) rfl
        ⟨i, rfl, (by omega), (rfl), rfl, rfl, rfl⟩ sB ?_
      rintro m_ env bx hp ⟨m, rfl, hm, hv, rfl, rfl, rfl⟩ ih
      by_cases h0 : m = 0
      · subst h0
        have hn : symAt L i = none := by rw [hs, ← hv]; rfl
        refine At.go [false] [] rfl (by and_intros <;> first | (simp; done) | exact oK) ?_
        refine At.rt [] [] [] Tryd.func41 ?_
        exact ⟨by rw [hn]; rfl, rfl, rfl⟩
      · obtain ⟨k, rfl⟩ : ∃ k, m = k + 1 := ⟨m - 1, by omega⟩
        rw [show (((k + 1 : Nat) : Int) - 1) = (k : Int) by omega]
        obtain ⟨q, hq⟩ : ∃ q, L[k]? = some q := ⟨_, List.getElem?_eq_getElem (by omega)⟩
        have r2 : ∀ {bx : Bx} {hp : List Seg} (f : Nat), f < 9 → RdW ⟨w, kys [] []⟩ bx hp g (o + (k : Int).toNat * 9 + f) [.int .i64 (pg q f)] := fun {_ _} => RdW.pair hc (by simp [kys]) h9 hq
        rw [ordS_succ hq] at hv
        by_cases a1 : pg q 0 = 4
        · by_cases a2 : pg q 7 = 0
          · by_cases a3 : pg q 2 = pg p 2
            · rw [if_pos (show isO q (pg p 2) = true from decide_eq_true ⟨a1, a2, a3⟩)] at hv
              have hn : symAt L i = some (pg q 3) := by rw [hs, ← hv]
              refine At.gn 13 [true] [] rfl oK ?_
              refine At.qt [true, true] [hR [.int .i64 (pg q 0)], hR [.int .i64 (pg q 7)], hR [.int .i64 (pg q 2)], hR [.int .i64 (pg p 2)]] rfl rfl (by and_intros <;> first | exact r2 0 (by omega) | exact r2 7 (by omega) | exact r2 2 (by omega) | exact r 2 (by omega) | (simp [a1]; done) | (simp [a2]; done) | (simp [a1, a2]; done) | exact oK) ?_
              refine At.go [true] [hR [.int .i64 (pg q 3)]] rfl (by and_intros <;> first | exact r2 3 (by omega) | (simp [a1, a2, a3]; done) | exact oK) ?_
              refine At.rt [] [] [] Tryd.func41 ?_
              exact ⟨by rw [hn]; rfl, rfl, rfl⟩
            · rw [if_neg (show ¬ isO q (pg p 2) = true from fun e => a3 (of_decide_eq_true e).2.2)] at hv
              refine At.gn 13 [true] [] rfl oK ?_
              refine At.qt [true, true] [hR [.int .i64 (pg q 0)], hR [.int .i64 (pg q 7)], hR [.int .i64 (pg q 2)], hR [.int .i64 (pg p 2)]] rfl rfl (by and_intros <;> first | exact r2 0 (by omega) | exact r2 7 (by omega) | exact r2 2 (by omega) | exact r 2 (by omega) | (simp [a1]; done) | (simp [a2]; done) | (simp [a1, a2]; done) | exact oK) ?_
              refine At.go [false] [] rfl (by and_intros <;> first | (simp [a1, a2, a3]; done) | exact oK) ?_
              exact At.weak (ih _ _ _ _ (by omega) ⟨k, rfl, by omega, hv, rfl, rfl, rfl⟩) sB
          · rw [if_neg (show ¬ isO q (pg p 2) = true from fun e => a2 (of_decide_eq_true e).2.1)] at hv
            refine At.gn 13 [true] [] rfl oK ?_
            refine At.qt [true, false] [hR [.int .i64 (pg q 0)], hR [.int .i64 (pg q 7)]] rfl rfl (by and_intros <;> first | exact r2 0 (by omega) | exact r2 7 (by omega) | (simp [a1]; done) | (simp [a2]; done) | (simp [a1, a2]; done) | exact oK) ?_
            refine At.go [false] [] rfl (by and_intros <;> first | (simp [a1, a2]; done) | exact oK) ?_
            exact At.weak (ih _ _ _ _ (by omega) ⟨k, rfl, by omega, hv, rfl, rfl, rfl⟩) sB
        · rw [if_neg (show ¬ isO q (pg p 2) = true from fun e => a1 (of_decide_eq_true e).1)] at hv
          refine At.gn 13 [true] [] rfl oK ?_
          refine At.qt [false, false] [hR [.int .i64 (pg q 0)]] rfl rfl (by and_intros <;> first | exact r2 0 (by omega) | (simp [a1]; done) | exact oK) ?_
          refine At.go [false] [] rfl (by and_intros <;> first | (simp [a1]; done) | exact oK) ?_
          exact At.weak (ih _ _ _ _ (by omega) ⟨k, rfl, by omega, hv, rfl, rfl, rfl⟩) sB
    · have hn : symAt L i = none := by unfold symAt; rw [hp]; exact if_neg fun e => h7 e.2
      refine At.go [false, true] [hR [.int .i64 (pg p 0)], hR [.int .i64 (pg p 7)]] rfl (by and_intros <;> first | exact r 0 (by omega) | exact r 7 (by omega) | (simp [h5]; done) | (simp [h7]; done) | (simp [h5, h7]; done) | exact oK) ?_
      refine At.rt [] [] [] Tryd.func41 ?_
      exact ⟨by rw [hn]; rfl, rfl, rfl⟩
  · have hn : symAt L i = none := by unfold symAt; rw [hp]; exact if_neg fun e => h5 e.1
    refine At.go [true, true] [hR [.int .i64 (pg p 0)]] rfl (by and_intros <;> first | exact r 0 (by omega) | (simp [h5]; done) | exact oK) ?_
    refine At.rt [] [] [] Tryd.func41 ?_
    exact ⟨by rw [hn]; rfl, rfl, rfl⟩
end Go.Proofs

/-
  Walks of layer 28: a symbol's volume.
-/
namespace Go.Proofs
open Go Go.Eng
set_option maxRecDepth 100000
set_option maxHeartbeats 4000000
attribute [local irreducible] Tri

theorem big_len {S : Int} (h : BigS S) : (big S).length ≤ 15 := by
  unfold BigS at h
  unfold big
  refine dg_len ?_
  have : (10000 : Nat) ^ 15 = 1000000000000000000000000000000000000000000000000000000000000 := by decide
  rw [this]; omega
theorem bigS_in {x : Int} (h : inK .i64 x) : BigS x := by simp only [inK] at h; unfold BigS; omega
theorem bigS_mul {x y : Int} (hx : inK .i64 x) (hy : inK .i64 y) : BigS (x * y) := by
  have := mul_bnd hx hy
  unfold BigS; omega
theorem symAt_cnt (L : List (List Int)) (i : Nat) : symAt L i = (cntAt L i).map (·.1) := by
  unfold symAt cntAt
  cases L[i]? with
  | none => rfl
  | some p => by_cases h : pg p 0 = 5 ∧ pg p 7 = 0 <;> simp [h, Function.comp_def]
theorem cntAt_some {L : List (List Int)} {i : Nat} {p : List Int} {s : Int} (hp : L[i]? = some p) (h : symAt L i = some s) : cntAt L i = some (s, pg p 5, pg p 6) := by
  unfold symAt at h; unfold cntAt
  rw [hp] at h ⊢
  dsimp only at h ⊢
  split at h
  · rename_i c; rw [if_pos c, h]; rfl
  · cases h
theorem cn_other {L : List (List Int)} {i : Nat} {s : Int} (h : symAt L i ≠ some s) : sq (cn L (i + 1)) s = sq (cn L i) s ∧ sa (cn L (i + 1)) s = sa (cn L i) s := by
  rw [cn_succ]
  rw [symAt_cnt] at h
  cases hc : cntAt L i with
  | none => simp
  | some c =>
    rw [hc] at h
    have : c.1 ≠ s := fun e => h (by simp [e])
    simp only [Option.toList_some]
    rw [sq_snoc, sa_snoc, if_neg this, if_neg this]; exact ⟨Int.add_zero _, Int.add_zero _⟩
theorem cn_this {L : List (List Int)} {i : Nat} {p : List Int} {s : Int} (hp : L[i]? = some p) (h : symAt L i = some s) : sq (cn L (i + 1)) s = sq (cn L i) s + pg p 5 ∧ sa (cn L (i + 1)) s = sa (cn L i) s + pg p 5 * pg p 6 := by
  rw [cn_succ, cntAt_some hp h]
  simp only [Option.toList_some]
  rw [sq_snoc, sa_snoc, if_pos rfl, if_pos rfl]; exact ⟨rfl, rfl⟩
theorem pg_in {p : List Int} (h : ∀ x, x ∈ p → inK .i64 x) (k : Nat) : inK .i64 (pg p k) := by
  unfold pg; rw [List.getD_eq_getElem?_getD]
  cases hx : p[k]? with
  | none => simp [inK]
  | some x => exact h x (List.mem_of_getElem? hx)
theorem _root_.Go.Eng.RdW.event {S : Base} {bx : Bx} {hp : List Seg} {g o i : Nat} {L : List (List Int)} {p : List Int} (hc : ∀ j u, (L.flatMap i64s)[j]? = some u → S.w0.cell? ⟨g, o + j, none⟩ = some u) (hm : g ∉ S.mods) (h9 : ∀ p, p ∈ L → p.length = 9) (hx : L[i]? = some p) :
    RdW S bx hp g (o + (i : Int).toNat * 9) [.int .i64 (pg p 0), .int .i64 (pg p 1), .int .i64 (pg p 2), .int .i64 (pg p 3), .int .i64 (pg p 4), .int .i64 (pg p 5), .int .i64 (pg p 6)] := by
  have h1 : p.length = 9 := h9 p (List.mem_of_getElem? hx)
  refine RdW.base hm fun j u hu => ?_
  rw [Int.toNat_natCast, Nat.add_assoc]
  refine hc (i * 9 + j) _ (flat_get (f := i64s) (sz := 9) (fun x hx => by simp [i64s, h9 x hx]) hx j _ ?_)
  have hk : ∀ k, k < 9 → (i64s p)[k]? = some (.int .i64 (pg p k)) := fun k hk => by
    have : p[k]? = some (pg p k) := by
      unfold pg; rw [List.getD_eq_getElem?_getD, List.getElem?_eq_getElem (by omega)]; rfl
    simp [i64s, this]
  match j, hu with
  | 0, hu => simp at hu; subst hu; exact hk 0 (by omega)
  | 1, hu => simp at hu; subst hu; exact hk 1 (by omega)
  | 2, hu => simp at hu; subst hu; exact hk 2 (by omega)
  | 3, hu => simp at hu; subst hu; exact hk 3 (by omega)
  | 4, hu => simp at hu; subst hu; exact hk 4 (by omega)
  | 5, hu => simp at hu; subst hu; exact hk 5 (by omega)
  | 6, hu => simp at hu; subst hu; exact hk 6 (by omega)
theorem Tryd.volume_w (L : List (List Int)) (a : Option Addr) (c : Nat) (s : Int) (w : World) (h9 : ∀ p, p ∈ L → p.length = 9) (hin : ∀ p, p ∈ L → ∀ x, x ∈ p → inK .i64 x) (hl : L.length ≤ 1000000) (ha : SlOk w a (L.flatMap i64s)) :
    Fun Tryd.prog 42 [.slice a L.length c, .int .i64 s] w (.agg ⟨vC (volR (cn L L.length) s)⟩) := by
  refine Tri.enter (bx := []) (hp := []) Tryd.func42 rfl (by kernel_rfl) rfl (Own.nil w) ?_
  refine At.go [] [] rfl oK ?_
  refine At.al fun b4 hb4 => ?_
  refine At.go [] [] rfl oK ?_
  refine At.al fun b5 hb5 => ?_
  refine At.al fun b6 hb6 => ?_
  refine At.go [] [] rfl oK ?_
  refine At.nilRow 3 1 ?_
  refine At.nilRow 3 1 ?_
  refine At.loop (env0 := [(0, .slice a L.length c), (1, .int .i64 s), (4, .pointer (some ⟨b4, 0, none⟩)), (5, .pointer (some ⟨b5, 0, none⟩)), (6, .pointer (some ⟨b6, 0, none⟩)), (7, .int .i64 0)]) (fun m_ env bx hp => ∃ (i : Nat) (a1 : Option Nat) (c1 : Nat) (a2 : Option Nat) (c2 : Nat) (l1 : List Nat) (l2 : List Nat), m_ = L.length - i ∧ (i ≤ L.length) ∧ (l1 = big (sq (cn L i) s)) ∧ (l2 = big (sa (cn L i) s)) ∧ env = [(0, .slice a L.length c), (1, .int .i64 s), (4, .pointer (some ⟨b4, 0, none⟩)), (5, .pointer (some ⟨b5, 0, none⟩)), (6, .pointer (some ⟨b6, 0, none⟩)), (7, .int .i64 i)] ∧ bx = [(b6, 142, [.bool (decide (sa (cn L i) s < 0)), .slice (svA a2) l2.length c2]), (b5, 142, [.bool (decide (sq (cn L i) s < 0)), .slice (svA a1) l1.length c1]), (b4, 30, [.int .i64 0, .int .i64 0, .int .i64 0, .bool false])] ∧ hp = [Seg.row a2 3 1 l2.length c2 (nc l2), Seg.row a1 3 1 l1.length c1 (nc l1)]) rfl
    ⟨0, none, 0, none, 0, [], [], rfl, (by omega), (dg0.symm), (dg0.symm), rfl, rfl, rfl⟩ sB ?_
  rintro m_ env bx hp ⟨i, a1, c1, a2, c2, l1, l2, rfl, hi, e1, e2, rfl, rfl, rfl⟩ ih
  subst e1
  subst e2
  obtain ⟨B1, B2⟩ := sums_big hin (n := i) (by omega) s
  by_cases hlt : i < L.length
  · obtain ⟨p, hp⟩ : ∃ p, L[i]? = some p := ⟨_, List.getElem?_eq_getElem hlt⟩
    have hne : L.flatMap i64s ≠ [] := fun e => by
      have := flat_len (f := i64s) (sz := 9) (l := L) fun x hx => by simp [i64s, h9 x hx]
      rw [e] at this; simp at this; omega
    have ha0 := ha
    obtain ⟨g, o, rfl, hc⟩ := ha.get hne
    have r : ∀ {bx : Bx} {hp : List Seg}, RdW ⟨w, kys [] []⟩ bx hp g (o + (i : Int).toNat * 9) [.int .i64 (pg p 0), .int .i64 (pg p 1), .int .i64 (pg p 2), .int .i64 (pg p 3), .int .i64 (pg p 4), .int .i64 (pg p 5), .int .i64 (pg p 6)] := fun {_ _} => RdW.event hc (by simp [kys]) h9 hp
    have hS : ∀ {bx : Bx} {hp : List Seg}, CallOb Tryd.prog ⟨w, kys [] []⟩ bx hp 41 [.slice (some ⟨g, o, none⟩) L.length c, .int .i64 i] (.tuple #[.int .i64 ((symAt L i).getD 0), .bool (symAt L i).isSome]) := fun {_ _} w' hw' => Tryd.symbol_w L _ c i w' h9 (by omega) hlt (ha0.ext hw'.ext (by simp [kys]))
    by_cases hs : symAt L i = some s
    · rw [hs] at hS
      refine At.go [true, true, true] [hC (.tuple ⟨[.int .i64 ((some s).getD 0), .bool (some s).isSome]⟩), hR [.int .i64 (pg p 0), .int .i64 (pg p 1), .int .i64 (pg p 2), .int .i64 (pg p 3), .int .i64 (pg p 4), .int .i64 (pg p 5), .int .i64 (pg p 6)]] rfl (by and_intros <;> first | exact r | exact hS | (simp; done) | exact oK) ?_
      refine At.al fun b10 hb10 => ?_
      refine At.go [] [hB 0] rfl (by and_intros <;> first | exact r | exact hS | (simp; done) | exact oK) ?_
      refine At.dr 6 ?_
      refine AtD.pu [1] 5 rfl (by and_intros <;> first | exact r | exact hS | (simp; done) | exact oK) ?_
      have q5 : inK .i64 (pg p 5) := pg_in (hin p (List.mem_of_getElem? hp)) 5
      have q6 : inK .i64 (pg p 6) := pg_in (hin p (List.mem_of_getElem? hp)) 6
      obtain ⟨N1, N2⟩ := cn_this hp hs
      refine AtZ.reads true 5 [0, 2] [hB 2, hB 0] (by kernel_rfl) (by kernel_rfl) (by kernel_rfl) (by kernel_rfl) rfl rfl oK rfl rfl (fuel := 3) ?_
      refine AtZ.f1 3 rfl (OpOk.call rfl (fun w' hw' => Tryd.bOf_w (pg p 5) q5 w') ?_)
      rintro _ _ _ ⟨a3, c3, rfl, rfl, rfl⟩
      refine ⟨fun _ w hw => hw.dropH, ?_⟩
      refine AtZ.f1 4 rfl (OpOk.call rfl (fun w' hw' => Tryd.bAdd_w (sq (cn L i) s) (pg p 5) (svA a1) (svA a3) c1 c3 w' (by have := big_len B1; omega) (by have := big_len (bigS_in q5); omega) (SlOk.row (hw'.hp (Seg.row a1 3 1 (big (sq (cn L i) s)).length c1 (nc (big (sq (cn L i) s)))) (by simp))) (SlOk.row (hw'.hp (Seg.row a3 3 1 (big (pg p 5)).length c3 (nc (big (pg p 5)))) (by simp)))) ?_)
      rintro _ _ _ ⟨a4, c4, rfl, rfl, rfl⟩
      refine ⟨fun _ w hw => hw.dropH.dropH, ?_⟩
      refine AtZ.f1 5 rfl (OpOk.one true [] [hB 2] rfl (by and_intros <;> first | exact two_one | exact oK) ⟨fun h => absurd rfl h, ?_⟩)
      refine AtZ.done (by kernel_rfl) ?_
      refine At.go [] [] rfl oK ?_
      refine At.dr 10 ?_
      refine AtD.pu [1, 4] 8 rfl oK ?_
      refine AtZ.reads true 9 [0, 2, 5] [hB 1, hB 0, hB 0] (by kernel_rfl) (by kernel_rfl) (by kernel_rfl) (by kernel_rfl) rfl rfl oK rfl rfl (fuel := 5) ?_
      refine AtZ.f1 3 rfl (OpOk.call rfl (fun w' hw' => Tryd.bOf_w (pg p 5) q5 w') ?_)
      rintro _ _ _ ⟨a5, c5, rfl, rfl, rfl⟩
      refine ⟨fun _ w hw => hw.dropH, ?_⟩
      refine AtZ.f1 6 rfl (OpOk.call rfl (fun w' hw' => Tryd.bOf_w (pg p 6) q6 w') ?_)
      rintro _ _ _ ⟨a6, c6, rfl, rfl, rfl⟩
      refine ⟨fun _ w hw => hw.dropH.dropH, ?_⟩
      refine AtZ.f1 7 rfl (OpOk.call rfl (fun w' hw' => Tryd.bMul_w (pg p 5) (pg p 6) (svA a5) (svA a6) c5 c6 w' (by have := big_len (bigS_in q5); omega) (by have := big_len (bigS_in q6); omega) (SlOk.row (hw'.hp (Seg.row a5 3 1 (big (pg p 5)).length c5 (nc (big (pg p 5)))) (by simp))) (SlOk.row (hw'.hp (Seg.row a6 3 1 (big (pg p 6)).length c6 (nc (big (pg p 6)))) (by simp)))) ?_)
      rintro _ _ _ ⟨a7, c7, rfl, rfl, rfl⟩
      refine ⟨fun _ w hw => hw.dropH.dropH.dropH, ?_⟩
      refine AtZ.f1 8 rfl (OpOk.call rfl (fun w' hw' => Tryd.bAdd_w (sa (cn L i) s) (pg p 5 * pg p 6) (svA a2) (svA a7) c2 c7 w' (by have := big_len B2; omega) (by have := big_len (bigS_mul q5 q6); omega) (SlOk.row (hw'.hp (Seg.row a2 3 1 (big (sa (cn L i) s)).length c2 (nc (big (sa (cn L i) s)))) (by simp))) (SlOk.row (hw'.hp (Seg.row a7 3 1 (big (pg p 5 * pg p 6)).length c7 (nc (big (pg p 5 * pg p 6)))) (by simp)))) ?_)
      rintro _ _ _ ⟨a8, c8, rfl, rfl, rfl⟩
      refine ⟨fun _ w hw => hw.dropH.dropH.dropH.dropH, ?_⟩
      refine AtZ.f1 9 rfl (OpOk.one true [] [hB 1] rfl (by and_intros <;> first | exact two_one | exact oK) ⟨fun h => absurd rfl h, ?_⟩)
      refine AtZ.done (by kernel_rfl) ?_
      refine At.go [] [] rfl oK ?_
      refine At.keep [false, true, true, true] [true, false, false, false, true] rfl ?_
      rw [← N1, ← N2]
      exact At.weak (ih _ _ _ _ (by omega) ⟨i + 1, a4, c4, a8, c8, big (sq (cn L (i + 1)) s), big (sa (cn L (i + 1)) s), rfl, by omega, rfl, rfl, rfl, rfl, rfl⟩) sB
    · rw [← (cn_other hs).1, ← (cn_other hs).2]
      cases hy : symAt L i with
      | none =>
        rw [hy] at hS
        refine At.go [true, false, false] [hC (.tuple ⟨[.int .i64 (none.getD 0), .bool none.isSome]⟩)] rfl (by and_intros <;> first | exact hS | (simp; done) | exact oK) ?_
        exact At.weak (ih _ _ _ _ (by omega) ⟨i + 1, a1, c1, a2, c2, big (sq (cn L (i + 1)) s), big (sa (cn L (i + 1)) s), rfl, by omega, rfl, rfl, rfl, rfl, rfl⟩) sB
      | some t =>
        rw [hy] at hS
        have ht : ¬ t = s := fun e => hs (by rw [hy, e])
        refine At.go [true, true, false] [hC (.tuple ⟨[.int .i64 ((some t).getD 0), .bool (some t).isSome]⟩)] rfl (by and_intros <;> first | exact hS | (simp; done) | (simp [ht]; done) | exact oK) ?_
        exact At.weak (ih _ _ _ _ (by omega) ⟨i + 1, a1, c1, a2, c2, big (sq (cn L (i + 1)) s), big (sa (cn L (i + 1)) s), rfl, by omega, rfl, rfl, rfl, rfl, rfl⟩) sB
  · have hie : i = L.length := by omega
    subst hie
    have hF : ∀ {bx : Bx}, CallOb Tryd.prog ⟨w, kys [] []⟩ bx [Seg.row a2 3 1 (big (sa (cn L L.length) s)).length c2 (nc (big (sa (cn L L.length) s))), Seg.row a1 3 1 (big (sq (cn L L.length) s)).length c1 (nc (big (sq (cn L L.length) s)))] 80 [.agg ⟨bigA (sq (cn L L.length) s) (svA a1) c1⟩] (.tuple #[.int .i64 (totS (sq (cn L L.length) s)).1, .bool (totS (sq (cn L L.length) s)).2]) := fun {_} w' hw' => Tryd.bFits_w _ _ _ w' (by have := big_len B1; omega) (SlOk.row (hw'.hp (Seg.row a1 3 1 (big (sq (cn L L.length) s)).length c1 (nc (big (sq (cn L L.length) s)))) (by simp)))
    have hG : ∀ {bx : Bx}, CallOb Tryd.prog ⟨w, kys [] []⟩ bx [Seg.row a2 3 1 (big (sa (cn L L.length) s)).length c2 (nc (big (sa (cn L L.length) s))), Seg.row a1 3 1 (big (sq (cn L L.length) s)).length c1 (nc (big (sq (cn L L.length) s)))] 80 [.agg ⟨bigA (sa (cn L L.length) s) (svA a2) c2⟩] (.tuple #[.int .i64 (totS (sa (cn L L.length) s)).1, .bool (totS (sa (cn L L.length) s)).2]) := fun {_} w' hw' => Tryd.bFits_w _ _ _ w' (by have := big_len B2; omega) (SlOk.row (hw'.hp (Seg.row a2 3 1 (big (sa (cn L L.length) s)).length c2 (nc (big (sa (cn L L.length) s)))) (by simp)))
    unfold bigA at hF hG
    by_cases f1 : (totS (sq (cn L L.length) s)).2 = true
    · by_cases f2 : (totS (sa (cn L L.length) s)).2 = true
      · refine At.go [false, true, true] [hB 1, hC (.tuple ⟨[.int .i64 (totS (sq (cn L L.length) s)).fst, .bool (totS (sq (cn L L.length) s)).snd]⟩), hB 0, hC (.tuple ⟨[.int .i64 (totS (sa (cn L L.length) s)).fst, .bool (totS (sa (cn L L.length) s)).snd]⟩), hB 2] rfl (by and_intros <;> first | exact hF | exact hG | exact f1 | exact f2 | (simp; done) | (simp [f1, f2]; done) | exact oK) ?_
        refine At.rt [] [] [hB 2] Tryd.func42 ?_
        exact ⟨by unfold volR vC; rw [if_pos ⟨f1, f2⟩]; rfl, rfl, rfl⟩
      · have f2' : (totS (sa (cn L L.length) s)).2 = false := by simpa using f2
        refine At.go [false, true, false] [hB 1, hC (.tuple ⟨[.int .i64 (totS (sq (cn L L.length) s)).fst, .bool (totS (sq (cn L L.length) s)).snd]⟩), hB 0, hC (.tuple ⟨[.int .i64 (totS (sa (cn L L.length) s)).fst, .bool (totS (sa (cn L L.length) s)).snd]⟩), hB 2] rfl (by and_intros <;> first | exact hF | exact hG | exact f1 | exact f2' | (simp; done) | (simp [f1, f2']; done) | exact oK) ?_
        refine At.rt [] [] [hB 2] Tryd.func42 ?_
        exact ⟨by unfold volR vC; rw [if_neg (fun e => f2 e.2)]; rfl, rfl, rfl⟩
    · have f1' : (totS (sq (cn L L.length) s)).2 = false := by simpa using f1
      refine At.go [false, false, false] [hB 1, hC (.tuple ⟨[.int .i64 (totS (sq (cn L L.length) s)).fst, .bool (totS (sq (cn L L.length) s)).snd]⟩), hB 0, hC (.tuple ⟨[.int .i64 (totS (sa (cn L L.length) s)).fst, .bool (totS (sa (cn L L.length) s)).snd]⟩), hB 2] rfl (by and_intros <;> first | exact hF | exact hG | exact f1' | (simp; done) | (simp [f1']; done) | exact oK) ?_
      refine At.rt [] [] [hB 2] Tryd.func42 ?_
      exact ⟨by unfold volR vC; rw [if_neg (fun e => f1 e.1)]; rfl, rfl, rfl⟩
end Go.Proofs

/-
  Plain laws of layer 28: the symbols that pairs count to, rising.
-/
namespace Go.Eng
open Go Go.Proofs

theorem nodup_sub_len {α : Type} [BEq α] [LawfulBEq α] : ∀ {l1 l2 : List α}, l1.Nodup → (∀ x, x ∈ l1 → x ∈ l2) → l1.length ≤ l2.length
  | [], _, _, _ => Nat.zero_le _
  | x :: l1, l2, hn, hs => by
    rw [List.nodup_cons] at hn
    have hx := hs x (by simp)
    have h := nodup_sub_len (l1 := l1) (l2 := l2.erase x) hn.2 fun y hy => (List.mem_erase_of_ne (fun e => hn.1 (by rw [← e]; exact hy))).2 (hs y (by simp [hy]))
    have hl := List.length_erase_of_mem hx
    have hp := List.length_pos_of_mem hx
    rw [List.length_cons]; omega

/-- The symbols that the first m pairs count to. -/
def syms (L : List (List Int)) (m : Nat) : List Int := (cn L m).map (·.1)
theorem syms_len (L : List (List Int)) (m : Nat) : (syms L m).length ≤ m := by unfold syms; rw [List.length_map]; exact cn_len L m
theorem syms_succ (L : List (List Int)) (m : Nat) : syms L (m + 1) = syms L m ++ (symAt L m).toList := by
  unfold syms; rw [cn_succ, List.map_append, symAt_cnt]
  cases cntAt L m <;> rfl
theorem mem_syms {L : List (List Int)} {m : Nat} {s : Int} : s ∈ syms L m ↔ ∃ i, i < m ∧ symAt L i = some s := by
  induction m with
  | zero => simp [syms, cn]
  | succ m ih =>
    rw [syms_succ, List.mem_append, ih]
    constructor
    · rintro (⟨i, hi, h⟩ | h)
      · exact ⟨i, by omega, h⟩
      · exact ⟨m, by omega, by simpa using h⟩
    · rintro ⟨i, hi, h⟩
      by_cases e : i = m
      · subst e; exact .inr (by simp [h])
      · exact .inl ⟨i, by omega, h⟩

/-- Above all of these. -/
def abv (D : List Int) (s : Int) : Prop := ∀ x, x ∈ D → x < s
theorem abv_last {D : List Int} {d s : Int} (h : (D ++ [d]).Pairwise (· < ·)) : abv (D ++ [d]) s ↔ d < s := by
  rw [List.pairwise_append] at h
  constructor
  · intro k; exact k d (by simp)
  · intro k x hx
    rcases List.mem_append.1 hx with hx | hx
    · have := h.2.2 x hx d (by simp); omega
    · rw [List.mem_singleton] at hx; omega
/-- b is the least of the first m pairs' symbols above D, if there is one. -/
def Least (L : List (List Int)) (D : List Int) (m : Nat) : Option Int → Prop
  | none => ∀ s, s ∈ syms L m → ¬ abv D s
  | some b => b ∈ syms L m ∧ abv D b ∧ ∀ s, s ∈ syms L m → abv D s → b ≤ s
theorem Least.zero (L : List (List Int)) (D : List Int) : Least L D 0 none := by intro s hs; simp [syms, cn] at hs
theorem Least.skip {L : List (List Int)} {D : List Int} {m : Nat} {o : Option Int} (h : Least L D m o) (hn : symAt L m = none) : Least L D (m + 1) o := by
  have e : syms L (m + 1) = syms L m := by rw [syms_succ, hn]; simp
  cases o with
  | none => intro s hs; rw [e] at hs; exact h s hs
  | some b => exact ⟨by rw [e]; exact h.1, h.2.1, fun s hs => h.2.2 s (by rw [← e]; exact hs)⟩
theorem Least.low {L : List (List Int)} {D : List Int} {m : Nat} {o : Option Int} {t : Int} (h : Least L D m o) (hn : symAt L m = some t) (ht : ¬ abv D t) : Least L D (m + 1) o := by
  have e : syms L (m + 1) = syms L m ++ [t] := by rw [syms_succ, hn]; rfl
  have k : ∀ s, s ∈ syms L (m + 1) → s ∈ syms L m ∨ s = t := fun s hs => by rw [e] at hs; simpa using hs
  cases o with
  | none =>
    intro s hs
    rcases k s hs with hs | rfl
    · exact h s hs
    · exact ht
  | some b =>
    refine ⟨by rw [e]; exact List.mem_append_left _ h.1, h.2.1, fun s hs ha => ?_⟩
    rcases k s hs with hs | rfl
    · exact h.2.2 s hs ha
    · exact (ht ha).elim
theorem Least.not {L : List (List Int)} {D : List Int} {m : Nat} {b t : Int} (h : Least L D m (some b)) (hn : symAt L m = some t) (ht : ¬ t < b) : Least L D (m + 1) (some b) := by
  have e : syms L (m + 1) = syms L m ++ [t] := by rw [syms_succ, hn]; rfl
  refine ⟨by rw [e]; exact List.mem_append_left _ h.1, h.2.1, fun s hs ha => ?_⟩
  rw [e] at hs
  rcases List.mem_append.1 hs with hs | hs
  · exact h.2.2 s hs ha
  · rw [List.mem_singleton] at hs; omega
theorem Least.new {L : List (List Int)} {D : List Int} {m : Nat} {t : Int} (h : Least L D m none) (hn : symAt L m = some t) (ht : abv D t) : Least L D (m + 1) (some t) := by
  have e : syms L (m + 1) = syms L m ++ [t] := by rw [syms_succ, hn]; rfl
  refine ⟨by rw [e]; simp, ht, fun s hs ha => ?_⟩
  rw [e] at hs
  rcases List.mem_append.1 hs with hs | hs
  · exact (h s hs ha).elim
  · rw [List.mem_singleton] at hs; omega
theorem Least.less {L : List (List Int)} {D : List Int} {m : Nat} {b t : Int} (h : Least L D m (some b)) (hn : symAt L m = some t) (ht : abv D t) (hl : t < b) : Least L D (m + 1) (some t) := by
  have e : syms L (m + 1) = syms L m ++ [t] := by rw [syms_succ, hn]; rfl
  refine ⟨by rw [e]; simp, ht, fun s hs ha => ?_⟩
  rw [e] at hs
  rcases List.mem_append.1 hs with hs | hs
  · have := h.2.2 s hs ha; omega
  · rw [List.mem_singleton] at hs; omega

/-- The symbols so far: rising, and all that aren't above them. -/
structure Low (L : List (List Int)) (D : List Int) : Prop where
  up : D.Pairwise (· < ·)
  sub : ∀ s, s ∈ D → s ∈ syms L L.length
  all : ∀ s, s ∈ syms L L.length → s ∈ D ∨ abv D s
theorem Low.nil (L : List (List Int)) : Low L [] := ⟨List.Pairwise.nil, by simp, fun s _ => .inr (by intro x hx; simp at hx)⟩
theorem Low.nodup {L : List (List Int)} {D : List Int} (h : Low L D) : D.Nodup := h.up.imp fun hh e => by subst e; omega
theorem Low.len {L : List (List Int)} {D : List Int} (h : Low L D) : D.length ≤ L.length := Nat.le_trans (nodup_sub_len h.nodup h.sub) (syms_len _ _)
theorem Low.more {L : List (List Int)} {D : List Int} {b : Int} (h : Low L D) (hb : Least L D L.length (some b)) : Low L (D ++ [b]) := by
  refine ⟨?_, fun s hs => ?_, fun s hs => ?_⟩
  · rw [List.pairwise_append]
    exact ⟨h.up, by simp, fun x hx y hy => by rw [List.mem_singleton] at hy; subst hy; exact hb.2.1 x hx⟩
  · rcases List.mem_append.1 hs with hs | hs
    · exact h.sub s hs
    · rw [List.mem_singleton] at hs; subst hs; exact hb.1
  · rcases h.all s hs with h1 | h1
    · exact .inl (List.mem_append_left _ h1)
    · have := hb.2.2 s hs h1
      by_cases e : s = b
      · subst e; exact .inl (by simp)
      · refine .inr fun x hx => ?_
        rcases List.mem_append.1 hx with hx | hx
        · exact h1 x hx
        · rw [List.mem_singleton] at hx; omega
theorem Low.fin {L : List (List Int)} {D : List Int} (h : Low L D) (hb : Least L D L.length none) : ∀ s, s ∈ D ↔ s ∈ syms L L.length :=
  fun s => ⟨h.sub s, fun hs => (h.all s hs).resolve_right (hb s hs)⟩

/-- The volumes of these symbols, as cells. -/
def volCs (L : List (List Int)) (D : List Int) : List Value := D.flatMap fun s => vC (volR (cn L L.length) s)
theorem volCs_snoc (L : List (List Int)) (D : List Int) (s : Int) : volCs L (D ++ [s]) = volCs L D ++ vC (volR (cn L L.length) s) := by simp [volCs]
theorem volR_1 (l : List (Int × Int × Int)) (s : Int) : (volR l s).1 = s := by unfold volR; split <;> rfl
theorem volCs_sym {L : List (List Int)} {D : List Int} {i : Nat} {s : Int} (h : D[i]? = some s) : (volCs L D)[i * 4]? = some (.int .i64 s) := by
  have := flat_get (f := fun s => vC (volR (cn L L.length) s)) (sz := 4) (l := D) (fun x _ => rfl) h 0 (.int .i64 s) (by simp [vC, volR_1])
  simpa [volCs] using this
end Go.Eng

/-
  A pair, read whole.
-/
namespace Go.Proofs
open Go Go.Eng
set_option maxRecDepth 100000
set_option maxHeartbeats 4000000
attribute [local irreducible] Tri

theorem _root_.Go.Eng.RdW.pair9 {S : Base} {bx : Bx} {hp : List Seg} {g o i : Nat} {L : List (List Int)} {p : List Int} (hc : ∀ j u, (L.flatMap i64s)[j]? = some u → S.w0.cell? ⟨g, o + j, none⟩ = some u) (hm : g ∉ S.mods) (h9 : ∀ p, p ∈ L → p.length = 9) (hx : L[i]? = some p) :
    RdW S bx hp g (o + (i : Int).toNat * 9) [.int .i64 (pg p 0), .int .i64 (pg p 1), .int .i64 (pg p 2), .int .i64 (pg p 3), .int .i64 (pg p 4), .int .i64 (pg p 5), .int .i64 (pg p 6), .int .i64 (pg p 7), .int .i64 (pg p 8)] := by
  have h1 : p.length = 9 := h9 p (List.mem_of_getElem? hx)
  refine RdW.base hm fun j u hu => ?_
  rw [Int.toNat_natCast, Nat.add_assoc]
  refine hc (i * 9 + j) _ (flat_get (f := i64s) (sz := 9) (fun x hx => by simp [i64s, h9 x hx]) hx j _ ?_)
  have hk : ∀ k, k < 9 → (i64s p)[k]? = some (.int .i64 (pg p k)) := fun k hk => by
    have : p[k]? = some (pg p k) := by
      unfold pg; rw [List.getD_eq_getElem?_getD, List.getElem?_eq_getElem (by omega)]; rfl
    simp [i64s, this]
  match j, hu with
  | 0, hu => simp at hu; subst hu; exact hk 0 (by omega)
  | 1, hu => simp at hu; subst hu; exact hk 1 (by omega)
  | 2, hu => simp at hu; subst hu; exact hk 2 (by omega)
  | 3, hu => simp at hu; subst hu; exact hk 3 (by omega)
  | 4, hu => simp at hu; subst hu; exact hk 4 (by omega)
  | 5, hu => simp at hu; subst hu; exact hk 5 (by omega)
  | 6, hu => simp at hu; subst hu; exact hk 6 (by omega)
  | 7, hu => simp at hu; subst hu; exact hk 7 (by omega)
  | 8, hu => simp at hu; subst hu; exact hk 8 (by omega)
end Go.Proofs

/-
  Walks of layer 28: how many pairs have each code.
-/
namespace Go.Proofs
open Go Go.Eng
set_option maxRecDepth 100000
set_option maxHeartbeats 4000000
attribute [local irreducible] Tri

/-- How many of the first m pairs have this code. -/
def cntC (L : List (List Int)) (m : Nat) (c : Int) : Int := (((L.take m).filter fun p => decide (pg p 7 = c)).length : Nat)
theorem cntC_succ {L : List (List Int)} {m : Nat} {p : List Int} (hp : L[m]? = some p) (c : Int) : cntC L (m + 1) c = cntC L m c + (if pg p 7 = c then 1 else 0) := by
  unfold cntC
  rw [List.take_add_one, hp, Option.toList_some, List.filter_append]
  by_cases h : pg p 7 = c <;> simp [h]
theorem cntC_le (L : List (List Int)) (m : Nat) (c : Int) : 0 ≤ cntC L m c ∧ cntC L m c ≤ m := by
  unfold cntC
  have h1 := List.length_filter_le (fun p => decide (pg p 7 = c)) (L.take m)
  have h2 := List.length_take_le m L
  omega
/-- The counts, as an array's cells. -/
def cdC (L : List (List Int)) (m : Nat) : List Value := (List.range 14).map fun (c : Nat) => .int .i64 (cntC L m c)
theorem cdC_len (L : List (List Int)) (m : Nat) : (cdC L m).length = 14 := by simp [cdC]
theorem cdC_get {L : List (List Int)} {m k : Nat} (h : k < 14) : (cdC L m)[k]? = some (.int .i64 (cntC L m k)) := by
  unfold cdC; rw [List.getElem?_map, List.getElem?_range h]; rfl
theorem cdC_out {L : List (List Int)} {m : Nat} {p : List Int} (hp : L[m]? = some p) (h : pg p 7 < 0 ∨ 14 ≤ pg p 7) : cdC L (m + 1) = cdC L m := by
  unfold cdC
  refine List.map_congr_left fun c hc => ?_
  rw [List.mem_range] at hc
  rw [cntC_succ hp, if_neg (by omega), Int.add_zero]
theorem cdC_put {L : List (List Int)} {m k : Nat} {p : List Int} (hp : L[m]? = some p) (h : pg p 7 = k) (hk : k < 14) : putL (cdC L m) k [.int .i64 (cntC L m k + 1)] = cdC L (m + 1) := by
  simp only [putL, setL_eq]
  apply List.ext_getElem?
  intro j
  rw [List.getElem?_set]
  by_cases hj : j < 14
  · rw [cdC_get (m := m + 1) hj, cdC_len, cntC_succ hp]
    by_cases e : k = j
    · subst e
      rw [if_pos rfl, if_pos hk, if_pos h]
    · rw [if_neg e, cdC_get (m := m) hj, if_neg (by omega), Int.add_zero]
  · have h1 : (cdC L (m + 1))[j]? = none := List.getElem?_eq_none (by rw [cdC_len]; omega)
    have h2 : (cdC L m)[j]? = none := List.getElem?_eq_none (by rw [cdC_len]; omega)
    rw [h1, h2, if_neg (by omega)]
theorem Tryd.codes_w (L : List (List Int)) (a : Option Addr) (c : Nat) (w : World) (h9 : ∀ p, p ∈ L → p.length = 9) (hl : L.length ≤ 100000) (ha : SlOk w a (L.flatMap i64s)) :
    Fun Tryd.prog 13 [.slice a L.length c] w (.agg ⟨cdC L L.length⟩) := by
  refine Tri.enter (bx := []) (hp := []) Tryd.func13 rfl (by kernel_rfl) rfl (Own.nil w) ?_
  refine At.go [] [] rfl oK ?_
  refine At.al fun b2 hb2 => ?_
  refine At.go [] [] rfl oK ?_
  refine At.al fun b3 hb3 => ?_
  refine At.go [] [] rfl oK ?_
  refine At.loop (env0 := [(2, .pointer (some ⟨b2, 0, none⟩)), (3, .pointer (some ⟨b3, 0, none⟩)), (7, .slice a L.length c), (8, .int .i64 ↑L.length), (9, .int .i64 0)]) (fun m_ env bx hp => ∃ (m : Nat), m_ = L.length - m ∧ (m ≤ L.length) ∧ env = [(2, .pointer (some ⟨b2, 0, none⟩)), (3, .pointer (some ⟨b3, 0, none⟩)), (7, .slice a L.length c), (8, .int .i64 ↑L.length), (9, .int .i64 m)] ∧ bx = [(b3, 32, cdC L m), (b2, 32, [.int .i64 0, .int .i64 0, .int .i64 0, .int .i64 0, .int .i64 0, .int .i64 0, .int .i64 0, .int .i64 0, .int .i64 0, .int .i64 0, .int .i64 0, .int .i64 0, .int .i64 0, .int .i64 0])] ∧ hp = []) rfl
    ⟨0, rfl, (by omega), rfl, rfl, rfl⟩ sB ?_
  rintro m_ env bx hp ⟨m, rfl, hm, rfl, rfl, rfl⟩ ih
  by_cases hlt : m < L.length
  · obtain ⟨p, hp⟩ : ∃ p, L[m]? = some p := ⟨_, List.getElem?_eq_getElem hlt⟩
    have hne : L.flatMap i64s ≠ [] := fun e => by
      have := flat_len (f := i64s) (sz := 9) (l := L) fun x hx => by simp [i64s, h9 x hx]
      rw [e] at this; simp at this; omega
    obtain ⟨g, o, rfl, hc⟩ := ha.get hne
    have r : ∀ {bx : Bx} {hp : List Seg}, RdW ⟨w, kys [] []⟩ bx hp g (o + (m : Int).toNat * 9) [.int .i64 (pg p 0), .int .i64 (pg p 1), .int .i64 (pg p 2), .int .i64 (pg p 3), .int .i64 (pg p 4), .int .i64 (pg p 5), .int .i64 (pg p 6), .int .i64 (pg p 7), .int .i64 (pg p 8)] := fun {_ _} => RdW.pair9 hc (by simp [kys]) h9 hp
    cases h0 : decide (0 ≤ pg p 7) with
    | true =>
      cases h1 : decide (pg p 7 < 14) with
      | true =>
        obtain ⟨k, hk, hk2⟩ : ∃ k : Nat, pg p 7 = k ∧ decide (k < 14) = true := ⟨(pg p 7).toNat, by have := of_decide_eq_true h0; omega, by have := of_decide_eq_true h0; have := of_decide_eq_true h1; rw [decide_eq_true_eq]; omega⟩
        have hb := cntC_le L m k
        refine At.go [true] [hR [.int .i64 (pg p 0), .int .i64 (pg p 1), .int .i64 (pg p 2), .int .i64 (pg p 3), .int .i64 (pg p 4), .int .i64 (pg p 5), .int .i64 (pg p 6), .int .i64 (pg p 7), .int .i64 (pg p 8)]] rfl (by and_intros <;> first | exact r | exact h0 | exact h1 | (have := of_decide_eq_true h0; have := of_decide_eq_true h1; omega) | exact oK) ?_
        refine At.al fun b5 hb5 => ?_
        refine At.go [true, true] [hB 0, hB 0] rfl (by and_intros <;> first | exact r | exact h0 | exact h1 | (have := of_decide_eq_true h0; have := of_decide_eq_true h1; omega) | exact oK) ?_
        have hrd : ∀ {bx : Bx} {hp : List Seg} (i : Nat), nth bx i = some (b3, 32, cdC L m) → RdW ⟨w, kys [] []⟩ bx hp b3 (0 + (pg p 7).toNat * 1) [.int .i64 (cntC L m k)] := fun {_ _} i h => RdW.blk h fun j u hu => by
          match j, hu with
          | 0, hu =>
            simp at hu; subst hu
            rw [show 0 + (pg p 7).toNat * 1 + 0 = k by omega]; exact cdC_get (of_decide_eq_true hk2)
        refine At.go [] [hR [.int .i64 (cntC L m k)]] rfl (by and_intros <;> first | exact hrd 1 rfl | (have := of_decide_eq_true h0; have := of_decide_eq_true h1; omega) | exact oK) ?_
        refine At.step0 [] rfl rfl rfl rfl trivial (OpOk.storeBlk 1 rfl rfl rfl rfl oK rfl (by rw [cdC_len]; have := of_decide_eq_true hk2; simp only [List.length_cons, List.length_nil]; omega) ?_)
        rw [show 0 + (pg p 7).toNat * 1 = k by omega, cdC_put hp hk (of_decide_eq_true hk2)]
        refine At.go [] [] rfl oK ?_
        refine At.keep [false, true, true] [] rfl ?_
        exact At.weak (ih _ _ _ _ (by omega) ⟨m + 1, rfl, by omega, rfl, rfl, rfl⟩) sB
      | false =>
        rw [← cdC_out hp (.inr (by have := of_decide_eq_false h1; omega))]
        refine At.go [true] [hR [.int .i64 (pg p 0), .int .i64 (pg p 1), .int .i64 (pg p 2), .int .i64 (pg p 3), .int .i64 (pg p 4), .int .i64 (pg p 5), .int .i64 (pg p 6), .int .i64 (pg p 7), .int .i64 (pg p 8)]] rfl (by and_intros <;> first | exact r | exact h0 | exact h1 | exact oK) ?_
        refine At.al fun b5 hb5 => ?_
        refine At.go [true, false] [hB 0, hB 0] rfl (by and_intros <;> first | exact r | exact h0 | exact h1 | exact oK) ?_
        refine At.keep [false, true, true] [] rfl ?_
        exact At.weak (ih _ _ _ _ (by omega) ⟨m + 1, rfl, by omega, rfl, rfl, rfl⟩) sB
    | false =>
      rw [← cdC_out hp (.inl (by have := of_decide_eq_false h0; omega))]
      refine At.go [true] [hR [.int .i64 (pg p 0), .int .i64 (pg p 1), .int .i64 (pg p 2), .int .i64 (pg p 3), .int .i64 (pg p 4), .int .i64 (pg p 5), .int .i64 (pg p 6), .int .i64 (pg p 7), .int .i64 (pg p 8)]] rfl (by and_intros <;> first | exact r | exact h0 | exact oK) ?_
      refine At.al fun b5 hb5 => ?_
      refine At.go [false, false] [hB 0, hB 0] rfl (by and_intros <;> first | exact r | exact h0 | exact oK) ?_
      refine At.keep [false, true, true] [] rfl ?_
      exact At.weak (ih _ _ _ _ (by omega) ⟨m + 1, rfl, by omega, rfl, rfl, rfl⟩) sB
  · have hme : m = L.length := by omega
    subst hme
    refine At.go [false] [hB 0, hB 1] rfl oK ?_
    refine At.rt [] [] [hB 1] Tryd.func13 ?_
    exact ⟨rfl, rfl, rfl⟩
end Go.Proofs

/-
  Plain laws of layer 28: orders by their numbers, sums by their symbols.
-/
namespace Go.Eng
open Go Go.Proofs

/-- What stands at a number. -/
def getO (M : List (Int × Int)) (o : Int) : Option Int := (M.find? fun x => decide (x.1 = o)).map (·.2)
theorem getO_cons (x : Int × Int) (M : List (Int × Int)) (o : Int) : getO (x :: M) o = if x.1 = o then some x.2 else getO M o := by
  unfold getO
  by_cases h : x.1 = o <;> simp [h]
theorem getO_some : ∀ {M : List (Int × Int)} {o s : Int}, getO M o = some s → ∃ i : Nat, M[i]? = some (o, s)
  | [], _, _, h => by simp [getO] at h
  | x :: M, o, s, h => by
    rw [getO_cons] at h
    split at h
    · rename_i e; subst e; simp only [Option.some.injEq] at h; subst h; exact ⟨0, rfl⟩
    · obtain ⟨i, hi⟩ := getO_some h; exact ⟨i + 1, by simpa using hi⟩
theorem getO_none : ∀ {M : List (Int × Int)} {o : Int}, getO M o = none → o ∉ M.map (·.1)
  | [], _, _ => by simp
  | x :: M, o, h => by
    rw [getO_cons] at h
    split at h
    · cases h
    · rename_i e
      simp only [List.map_cons, List.mem_cons, not_or]
      exact ⟨fun k => e k.symm, getO_none h⟩
theorem getO_push {M : List (Int × Int)} {o s o' : Int} (h : getO M o = none) : getO (M ++ [(o, s)]) o' = if o = o' then some s else getO M o' := by
  induction M with
  | nil => rw [List.nil_append, getO_cons]
  | cons x M ih =>
    rw [getO_cons] at h
    split at h
    · cases h
    · rename_i e
      rw [List.cons_append, getO_cons, ih h, getO_cons]
      by_cases h1 : x.1 = o'
      · rw [if_pos h1, if_pos h1, if_neg (fun k => e (h1.trans k.symm))]
      · rw [if_neg h1, if_neg h1]
theorem getO_set : ∀ {M : List (Int × Int)} {i : Nat} {o s s0 o' : Int}, (M.map (·.1)).Nodup → M[i]? = some (o, s0) → getO (M.set i (o, s)) o' = if o = o' then some s else getO M o'
  | [], _, _, _, _, _, _, h => by simp at h
  | x :: M, 0, o, s, s0, o', _, h => by
    simp at h; subst h
    rw [List.set_cons_zero, getO_cons, getO_cons]
    by_cases h1 : o = o'
    · rw [if_pos h1, if_pos h1]
    · rw [if_neg h1, if_neg h1, if_neg h1]
  | x :: M, i + 1, o, s, s0, o', hn, h => by
    have hi : M[i]? = some (o, s0) := by simpa using h
    rw [List.map_cons, List.nodup_cons] at hn
    have hx : x.1 ≠ o := fun e => hn.1 (by rw [e]; exact List.mem_map_of_mem (f := (·.1)) (List.mem_of_getElem? hi))
    rw [List.set_cons_succ, getO_cons, getO_cons, getO_set hn.2 hi]
    by_cases h1 : x.1 = o'
    · rw [if_pos h1, if_pos h1, if_neg (fun k => hx (h1.trans k.symm))]
    · rw [if_neg h1, if_neg h1]
theorem set_fst {α β : Type} {a : α} {b c : β} : ∀ {M : List (α × β)} {i : Nat}, M[i]? = some (a, b) → (M.set i (a, c)).map (·.1) = M.map (·.1)
  | [], _, h => by simp at h
  | x :: M, 0, h => by simp at h; subst h; rfl
  | x :: M, i + 1, h => by
    rw [List.set_cons_succ, List.map_cons, List.map_cons, set_fst (by simpa using h)]
/-- Orders as entries of a map. -/
def ordE (p : Int × Int) : Value × Value := (.int .i64 p.1, .int .i64 p.2)
theorem ordE_no {M : List (Int × Int)} {o : Int} (h : getO M o = none) : ∀ p, p ∈ M.map ordE → p.1 ≠ .int .i64 o := by
  intro p hp e
  obtain ⟨x, hx, rfl⟩ := List.mem_map.1 hp
  have e' : x.1 = o := by simpa [ordE] using e
  exact getO_none h (by rw [← e']; exact List.mem_map_of_mem hx)
/-- The orders so far. -/
structure OrdIs (L : List (List Int)) (m : Nat) (M : List (Int × Int)) : Prop where
  nd : (M.map (·.1)).Nodup
  val : ∀ o, getO M o = ordS (L.take m) o
theorem OrdIs.zero (L : List (List Int)) : OrdIs L 0 [] := ⟨by simp, fun o => rfl⟩
theorem OrdIs.skip {L : List (List Int)} {m : Nat} {M : List (Int × Int)} {q : List Int} (h : OrdIs L m M) (hq : L[m]? = some q) (hn : ¬ (pg q 0 = 4 ∧ pg q 7 = 0)) : OrdIs L (m + 1) M :=
  ⟨h.nd, fun o => by rw [ordS_succ hq, if_neg (fun e => hn (by have := of_decide_eq_true (p := pg q 0 = 4 ∧ pg q 7 = 0 ∧ pg q 2 = o) e; exact ⟨this.1, this.2.1⟩))]; exact h.val o⟩
theorem isO_iff {q : List Int} {o : Int} (h : pg q 0 = 4 ∧ pg q 7 = 0) : isO q o = true ↔ pg q 2 = o := by
  unfold isO; rw [decide_eq_true_eq]; exact ⟨fun e => e.2.2, fun e => ⟨h.1, h.2, e⟩⟩
theorem OrdIs.push {L : List (List Int)} {m : Nat} {M : List (Int × Int)} {q : List Int} (h : OrdIs L m M) (hq : L[m]? = some q) (ho : pg q 0 = 4 ∧ pg q 7 = 0) (hn : getO M (pg q 2) = none) : OrdIs L (m + 1) (M ++ [(pg q 2, pg q 3)]) := by
  refine ⟨?_, fun o => ?_⟩
  · rw [List.map_append, List.nodup_append]
    refine ⟨h.nd, by simp, fun a ha b hb e => ?_⟩
    simp only [List.map_cons, List.map_nil, List.mem_singleton] at hb
    subst hb; subst e
    exact getO_none hn ha
  · rw [getO_push hn, ordS_succ hq, h.val]
    by_cases h1 : pg q 2 = o
    · rw [if_pos h1, if_pos ((isO_iff ho).2 h1)]
    · rw [if_neg h1, if_neg (fun e => h1 ((isO_iff ho).1 e))]
theorem OrdIs.set {L : List (List Int)} {m i : Nat} {M : List (Int × Int)} {q : List Int} {s0 : Int} (h : OrdIs L m M) (hq : L[m]? = some q) (ho : pg q 0 = 4 ∧ pg q 7 = 0) (hi : M[i]? = some (pg q 2, s0)) : OrdIs L (m + 1) (M.set i (pg q 2, pg q 3)) := by
  refine ⟨by rw [set_fst hi]; exact h.nd, fun o => ?_⟩
  rw [getO_set h.nd hi, ordS_succ hq, h.val]
  by_cases h1 : pg q 2 = o
  · rw [if_pos h1, if_pos ((isO_iff ho).2 h1)]
  · rw [if_neg h1, if_neg (fun e => h1 ((isO_iff ho).1 e))]

/-- Both sums of a symbol, as a block's cells. -/
def smC (L : List (List Int)) (m : Nat) (s : Int) : List Value := w3 (sumM (sq (cn L m) s)) ++ w3 (sumM (sa (cn L m) s))
/-- The blocks of the symbols. -/
def smG (L : List (List Int)) (m : Nat) (D : List (Int × Nat)) : List (Nat × List Value) := D.map fun p => (p.2, smC L m p.1)
/-- The symbols so far. -/
structure SymIs (L : List (List Int)) (m : Nat) (D : List (Int × Nat)) : Prop where
  nd : (D.map (·.1)).Nodup
  val : ∀ s, s ∈ D.map (·.1) ↔ s ∈ syms L m
theorem SymIs.zero (L : List (List Int)) : SymIs L 0 [] := ⟨by simp, fun s => by simp [syms, cn]⟩
theorem syms_skip {L : List (List Int)} {m : Nat} (h : symAt L m = none) : syms L (m + 1) = syms L m := by rw [syms_succ, h]; simp
theorem cn_skip {L : List (List Int)} {m : Nat} (h : symAt L m = none) : cn L (m + 1) = cn L m := by
  rw [symAt_cnt] at h
  rw [cn_succ]
  cases hc : cntAt L m with
  | none => simp
  | some c => rw [hc] at h; cases h
theorem SymIs.skip {L : List (List Int)} {m : Nat} {D : List (Int × Nat)} (h : SymIs L m D) (hs : symAt L m = none) : SymIs L (m + 1) D := ⟨h.nd, fun s => by rw [syms_skip hs]; exact h.val s⟩
theorem smG_skip {L : List (List Int)} {m : Nat} (D : List (Int × Nat)) (hs : symAt L m = none) : smG L (m + 1) D = smG L m D := by unfold smG smC; rw [cn_skip hs]
theorem SymIs.same {L : List (List Int)} {m : Nat} {D : List (Int × Nat)} {s : Int} (h : SymIs L m D) (hs : symAt L m = some s) (hd : s ∈ D.map (·.1)) : SymIs L (m + 1) D :=
  ⟨h.nd, fun t => by
    rw [syms_succ, hs, h.val, List.mem_append]
    constructor
    · exact .inl
    · rintro (k | k)
      · exact k
      · have : t = s := by simpa using k
        subst this; exact (h.val t).1 hd⟩
theorem SymIs.push {L : List (List Int)} {m g : Nat} {D : List (Int × Nat)} {s : Int} (h : SymIs L m D) (hs : symAt L m = some s) (hd : s ∉ D.map (·.1)) : SymIs L (m + 1) (D ++ [(s, g)]) := by
  refine ⟨?_, fun t => ?_⟩
  · rw [List.map_append, List.nodup_append]
    refine ⟨h.nd, by simp, fun a ha b hb e => ?_⟩
    simp only [List.map_cons, List.map_nil, List.mem_singleton] at hb
    subst hb; subst e; exact hd ha
  · rw [syms_succ, hs, List.map_append, List.mem_append, List.mem_append, h.val]
    simp
theorem smC_other {L : List (List Int)} {m : Nat} {s t : Int} (hs : symAt L m = some s) (h : t ≠ s) : smC L (m + 1) t = smC L m t := by
  have := cn_other (L := L) (i := m) (s := t) (by rw [hs]; simpa using fun e => h e.symm)
  unfold smC; rw [this.1, this.2]
theorem smG_set {L : List (List Int)} {m g : Nat} {s : Int} (hs : symAt L m = some s) : ∀ {D : List (Int × Nat)} {i : Nat}, (D.map (·.1)).Nodup → D[i]? = some (s, g) → (smG L m D).set i (g, smC L (m + 1) s) = smG L (m + 1) D
  | [], _, _, h => by simp at h
  | x :: D, 0, hn, h => by
    simp at h; subst h
    rw [List.map_cons, List.nodup_cons] at hn
    show (g, smC L (m + 1) s) :: smG L m D = (g, smC L (m + 1) s) :: smG L (m + 1) D
    congr 1
    refine List.map_congr_left fun p hp => ?_
    rw [smC_other hs fun e => hn.1 (by show s ∈ _; rw [← e]; exact List.mem_map_of_mem (f := Prod.fst) hp)]
  | x :: D, i + 1, hn, h => by
    rw [List.map_cons, List.nodup_cons] at hn
    have hi : D[i]? = some (s, g) := by simpa using h
    have hx : x.1 ≠ s := fun e => hn.1 (by rw [e]; exact List.mem_map_of_mem (f := (·.1)) (List.mem_of_getElem? hi))
    show (x.2, smC L m x.1) :: (smG L m D).set i (g, smC L (m + 1) s) = (x.2, smC L (m + 1) x.1) :: smG L (m + 1) D
    rw [smG_set hs hn.2 hi, smC_other hs hx]
theorem smG_get {L : List (List Int)} {m i g : Nat} {s : Int} {D : List (Int × Nat)} (h : D[i]? = some (s, g)) : (smG L m D)[i]? = some (g, smC L m s) := by
  unfold smG; rw [List.getElem?_map, h]; rfl
theorem smG_more {L : List (List Int)} {m g : Nat} {s : Int} (hs : symAt L m = some s) {D : List (Int × Nat)} (h : s ∉ D.map (·.1)) : smG L (m + 1) (D ++ [(s, g)]) = smG L m D ++ [(g, smC L (m + 1) s)] := by
  unfold smG
  rw [List.map_append, List.map_singleton]
  congr 1
  refine List.map_congr_left fun p hp => ?_
  rw [smC_other hs fun e => h (by rw [← e]; exact List.mem_map_of_mem (f := (·.1)) hp)]
theorem smC_none {L : List (List Int)} {m : Nat} {s : Int} (h : s ∉ syms L m) : smC L m s = w3 0 ++ w3 0 := by
  have := sq_none (l := cn L m) (s := s) h
  unfold smC; rw [this.1, this.2]; rfl
end Go.Eng

/-
  Walks of layer 28: the document's volumes.
-/
namespace Go.Proofs
open Go Go.Eng
set_option maxRecDepth 100000
set_option maxHeartbeats 4000000
attribute [local irreducible] Tri

theorem _root_.Go.Eng.RdW.rowS {S : Base} {bx : Bx} {hp : List Seg} {j g i off : Nat} {t : TypeId} {sz n cap : Nat} {xs : List Value} {v : Value} (h : nth hp j = some (Seg.row (some g) t sz n cap xs)) (hv : xs[i]? = some v) (ho : off = i) : RdW S bx hp g off [v] :=
  RdW.row h fun k u hu => by
    match k, hu with
    | 0, hu => simp at hu; subst hu; rw [ho]; exact hv
theorem volCs_last {L : List (List Int)} {D : List Int} {d : Int} : (volCs L (D ++ [d]))[D.length * 4]? = some (.int .i64 d) := volCs_sym (by simp)
theorem Tryd.refVols_w (L : List (List Int)) (a : Option Addr) (c : Nat) (w : World) (h9 : ∀ p, p ∈ L → p.length = 9) (hin : ∀ p, p ∈ L → ∀ x, x ∈ p → inK .i64 x) (hl : L.length ≤ 1000000) (ha : SlOk w a (L.flatMap i64s)) :
    Tri Tryd.prog 12 [.slice a L.length c] w [] (fun v bx hp => ∃ (D : List Int) (a' : Option Nat) (c' : Nat), v = sv a' D.length c' ∧ bx = [] ∧ hp = [Seg.row a' 30 4 D.length c' (volCs L D)] ∧ D.Pairwise (· < ·) ∧ ∀ s, s ∈ D ↔ s ∈ syms L L.length) := by
  refine Tri.enter (bx := []) (hp := []) Tryd.func12 rfl (by kernel_rfl) rfl (Own.nil w) ?_
  refine At.go [] [] rfl oK ?_
  refine At.nilRow 30 4 ?_
  refine At.loop (env0 := [(0, .slice a L.length c), (3, .slice none 0 0)]) (fun m_ env bx hp => ∃ (n : Nat) (D : List Int) (a1 : Option Nat) (c1 : Nat) (cs : List Value), m_ = L.length - n ∧ (Low L D) ∧ (D.length = n) ∧ (cs = volCs L D) ∧ env = [(0, .slice a L.length c), (3, sv a1 n c1)] ∧ bx = [] ∧ hp = [Seg.row a1 30 4 n c1 cs]) rfl
    ⟨0, [], none, 0, [], rfl, (Low.nil L), (rfl), (rfl), rfl, rfl, rfl⟩ sB ?_
  rintro m_ env bx hp ⟨n, D, a1, c1, cs, rfl, hD, hn, hc, rfl, rfl, rfl⟩ iho
  have hDl := hD.len
  have hnl : n ≤ L.length := by omega
  refine At.go [] [] rfl oK ?_
  refine At.loop (env0 := [(0, .slice a L.length c), (3, .slice (svA a1) n c1), (4, .bool false), (5, .int .i64 0), (6, .int .i64 0)]) (fun m_ env bx hp => ∃ (m : Nat) (f : Bool) (b : Int), m_ = L.length - m ∧ (m ≤ L.length) ∧ (Least L D m (if f then some b else none)) ∧ env = [(0, .slice a L.length c), (3, .slice (svA a1) n c1), (4, .bool f), (5, .int .i64 b), (6, .int .i64 m)] ∧ bx = [] ∧ hp = [Seg.row a1 30 4 n c1 cs]) rfl
    ⟨0, false, 0, rfl, (by omega), (Least.zero L D), rfl, rfl, rfl⟩ sB ?_
  rintro m_ env bx hp ⟨m, f, b, rfl, hm, ho, rfl, rfl, rfl⟩ ihi
  by_cases hlt : m < L.length
  · have hS : ∀ {bx : Bx} {hp : List Seg}, CallOb Tryd.prog ⟨w, kys [] []⟩ bx hp 41 [.slice a L.length c, .int .i64 m] (.tuple #[.int .i64 ((symAt L m).getD 0), .bool (symAt L m).isSome]) := fun {_ _} w' hw' => Tryd.symbol_w L a c m w' h9 (by omega) hlt (ha.ext hw'.ext (by simp [kys]))
    cases hs : symAt L m with
    | none =>
      rw [hs] at hS
      dsimp only [Option.getD_none, Option.isSome_none] at hS
      refine At.go [true, false, false, false] [hC (.tuple ⟨[.int .i64 0, .bool false]⟩)] rfl (by and_intros <;> first | exact hS | (simp; done) | exact oK) ?_
      exact At.weak (ihi _ _ _ _ (by omega) ⟨m + 1, f, b, rfl, by omega, ho.skip hs, rfl, rfl, rfl⟩) sB
    | some t =>
      rw [hs] at hS
      dsimp only [Option.getD_some, Option.isSome_some] at hS
      by_cases hn0 : n = 0
      · subst hn0
        obtain rfl : D = [] := List.length_eq_zero_iff.1 hn
        have hab : abv [] t := by intro x hx; simp at hx
        cases f with
        | false =>
          refine At.go [true, true, true, true, true, true] [hC (.tuple ⟨[.int .i64 t, .bool true]⟩)] rfl (by and_intros <;> first | exact hS | exact oK) ?_
          exact At.weak (ihi _ _ _ _ (by omega) ⟨m + 1, true, t, rfl, by omega, ho.new hs hab, rfl, rfl, rfl⟩) sB
        | true =>
          cases hb : decide (t < b)
          · refine At.go [true, true, true, true, false, false] [hC (.tuple ⟨[.int .i64 t, .bool true]⟩)] rfl (by and_intros <;> first | exact hS | exact hb | exact oK) ?_
            exact At.weak (ihi _ _ _ _ (by omega) ⟨m + 1, true, b, rfl, by omega, ho.not hs (of_decide_eq_false hb), rfl, rfl, rfl⟩) sB
          · refine At.go [true, true, true, true, false, true] [hC (.tuple ⟨[.int .i64 t, .bool true]⟩)] rfl (by and_intros <;> first | exact hS | exact hb | exact oK) ?_
            exact At.weak (ihi _ _ _ _ (by omega) ⟨m + 1, true, t, rfl, by omega, ho.less hs hab (of_decide_eq_true hb), rfl, rfl, rfl⟩) sB
      · obtain ⟨E, d, rfl⟩ : ∃ E d, D = E ++ [d] := by
          rcases List.eq_nil_or_concat D with rfl | ⟨E, d, rfl⟩
          · exact (hn0 hn.symm).elim
          · exact ⟨E, d, List.concat_eq_append⟩
        rw [List.length_append, List.length_singleton] at hn
        refine At.rowSome 0 rfl (by omega) fun g hg => ?_
        subst hg
        have r : ∀ {bx : Bx} {hp : List Seg}, nth hp 0 = some (Seg.row (some g) 30 4 n c1 cs) → RdW ⟨w, kys [] []⟩ bx hp g (0 + ((n : Int) - 1).toNat * 4 + 0) [.int .i64 d] := fun {_ _} h => RdW.rowS h (by rw [hc]; exact volCs_last) (by omega)
        cases hd : decide (d < t)
        · have hab : ¬ abv (E ++ [d]) t := fun h => of_decide_eq_false hd ((abv_last hD.up).1 h)
          refine At.go [true, true, false, false, false] [hC (.tuple ⟨[.int .i64 t, .bool true]⟩), hR [.int .i64 d]] rfl (by and_intros <;> first | exact hS | exact r rfl | exact hd | exact oK) ?_
          exact At.weak (ihi _ _ _ _ (by omega) ⟨m + 1, f, b, rfl, by omega, ho.low hs hab, rfl, rfl, rfl⟩) sB
        · have hab : abv (E ++ [d]) t := (abv_last hD.up).2 (of_decide_eq_true hd)
          cases f with
          | false =>
            refine At.go [true, true, false, true, true, true] [hC (.tuple ⟨[.int .i64 t, .bool true]⟩), hR [.int .i64 d]] rfl (by and_intros <;> first | exact hS | exact r rfl | exact hd | exact oK) ?_
            exact At.weak (ihi _ _ _ _ (by omega) ⟨m + 1, true, t, rfl, by omega, ho.new hs hab, rfl, rfl, rfl⟩) sB
          | true =>
            cases hb : decide (t < b)
            · refine At.go [true, true, false, true, false, false] [hC (.tuple ⟨[.int .i64 t, .bool true]⟩), hR [.int .i64 d]] rfl (by and_intros <;> first | exact hS | exact r rfl | exact hd | exact hb | exact oK) ?_
              exact At.weak (ihi _ _ _ _ (by omega) ⟨m + 1, true, b, rfl, by omega, ho.not hs (of_decide_eq_false hb), rfl, rfl, rfl⟩) sB
            · refine At.go [true, true, false, true, false, true] [hC (.tuple ⟨[.int .i64 t, .bool true]⟩), hR [.int .i64 d]] rfl (by and_intros <;> first | exact hS | exact r rfl | exact hd | exact hb | exact oK) ?_
              exact At.weak (ihi _ _ _ _ (by omega) ⟨m + 1, true, t, rfl, by omega, ho.less hs hab (of_decide_eq_true hb), rfl, rfl, rfl⟩) sB
  · have hme : m = L.length := by omega
    subst hme
    subst hn
    subst hc
    cases f with
    | false =>
      refine At.go [false, true] [] rfl oK ?_
      refine At.rt [] [true] [] Tryd.func12 ?_
      exact ⟨D, a1, c1, rfl, rfl, rfl, hD.up, hD.fin ho⟩
    | true =>
      have hD' := hD.more ho
      have hDl' := hD'.len
      rw [List.length_append, List.length_singleton] at hDl'
      have hV : ∀ {bx : Bx} {hp : List Seg}, CallOb Tryd.prog ⟨w, kys [] []⟩ bx hp 42 [.slice a L.length c, .int .i64 b] (.agg ⟨vC (volR (cn L L.length) b)⟩) := fun {_ _} w' hw' => Tryd.volume_w L a c b w' h9 hin hl (ha.ext hw'.ext (by simp [kys]))
      refine At.go [false, false] [hC (.agg ⟨[.int .i64 (volR (cn L L.length) b).fst, .int .i64 (volR (cn L L.length) b).snd.fst, .int .i64 (volR (cn L L.length) b).snd.snd.fst, .bool (volR (cn L L.length) b).snd.snd.snd]⟩)] rfl (by and_intros <;> first | exact hV | exact oK) ?_
      refine At.a1 0 4 32 fun b55 a56 c56 => ?_
      refine At.go [] [] rfl (by and_intros <;> first | exact hV | exact oK) ?_
      exact At.weak (iho _ _ _ _ (by omega) ⟨D.length + 1, D ++ [b], a56, c56, volCs L D ++ vC (volR (cn L L.length) b), rfl, hD', by simp, (volCs_snoc L D b).symm, rfl, rfl, rfl⟩) sB
end Go.Proofs

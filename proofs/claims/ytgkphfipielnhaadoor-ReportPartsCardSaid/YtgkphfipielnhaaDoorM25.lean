/-
  Walks of layer 28: the program's volumes.
-/
import Derived.Test.YtgkphfipielnhaaDoorM15
import Derived.Test.YtgkphfipielnhaaDoorM7
import Derived.Test.YtgkphfipielnhaaDoorM20
import Derived.Test.YtgkphfipielnhaaDoorM23
import Derived.Test.YtgkphfipielnhaaDoorM24
import Derived.Test.YtgkphfipielnhaaDoorM22
/-
  Walks of layer 28: the program's volumes.
-/
namespace Go.Proofs
open Go Go.Eng
set_option maxRecDepth 100000
set_option maxHeartbeats 4000000
attribute [local irreducible] Tri

theorem symE_no {D : List (Int × Nat)} {s : Int} (h : s ∉ D.map (·.1)) : ∀ p, p ∈ D.map symE → p.1 ≠ .int .i64 s := by
  intro p hp e
  obtain ⟨x, hx, rfl⟩ := List.mem_map.1 hp
  have e' : x.1 = s := by simpa [symE] using e
  exact h (by rw [← e']; exact List.mem_map_of_mem (f := (·.1)) hx)
theorem Tryd.ordT : Tryd.prog.underlying 76 = some (.map 2 2) := by kernel_rfl
theorem Tryd.zeroI64 : ∀ w, (zeroValue 2).run Tryd.prog w = .ok (.int .i64 0) w := by
  have h : (match Tryd.prog.info? 2 with | some i => (match i.zero with | some (.int .i64 0) => true | _ => false) | none => false) = true := by kernel_rfl
  intro w
  split at h
  · rename_i i hi
    split at h
    · rename_i hz; exact run_zero hi hz
    · cases h
  · cases h
theorem Tryd.zeroSums : ∀ w, (zeroValue 79).run Tryd.prog w = .ok (.pointer none) w := by
  have h : (match Tryd.prog.info? 79 with | some i => (match i.zero with | some (.pointer none) => true | _ => false) | none => false) = true := by kernel_rfl
  intro w
  split at h
  · rename_i i hi
    split at h
    · rename_i hz; exact run_zero hi hz
    · cases h
  · cases h
theorem symAt_no {L : List (List Int)} {m : Nat} {p : List Int} (hp : L[m]? = some p) (h : ¬ (pg p 0 = 5 ∧ pg p 7 = 0)) : symAt L m = none := by unfold symAt; rw [hp]; exact if_neg h
theorem symAt_yes {L : List (List Int)} {m : Nat} {p : List Int} (hp : L[m]? = some p) (h : pg p 0 = 5 ∧ pg p 7 = 0) : symAt L m = ordS (L.take m) (pg p 2) := by unfold symAt; rw [hp]; exact if_pos h

theorem sortI_up {l : List Int} (hn : (l : List Int).Nodup) : (sortI l).Pairwise (· < ·) := by
  have h1 : (sortI l).Pairwise fun x y => decide (x ≤ y) = true := by
    unfold sortI
    exact List.pairwise_mergeSort (by intro a b c; simp only [decide_eq_true_eq]; omega) (by intro a b; simp only [Bool.or_eq_true, decide_eq_true_eq]; omega) l
  have h2 : (sortI l).Nodup := (List.mergeSort_perm _ _).nodup_iff.2 hn
  refine (h1.and h2).imp ?_
  rintro x y ⟨h, k⟩
  rw [decide_eq_true_eq] at h
  have : x ≠ y := k
  omega
theorem Tryd.repVols_w (L : List (List Int)) (a : Option Addr) (c : Nat) (w : World) (h9 : ∀ p, p ∈ L → p.length = 9) (hin : ∀ p, p ∈ L → ∀ x, x ∈ p → inK .i64 x) (hl : L.length ≤ 100000) (ha : SlOk w a (L.flatMap i64s)) :
    Tri Tryd.prog 11 [.slice a L.length c] w [] (fun v bx hp => ∃ (D : List Int) (a' : Option Nat) (c' : Nat), v = sv a' D.length c' ∧ bx = [] ∧ hp = [Seg.row a' 29 4 D.length c' (volCs L D)] ∧ D.Pairwise (· < ·) ∧ ∀ s, s ∈ D ↔ s ∈ syms L L.length) := by
  refine Tri.enter (bx := []) (hp := []) Tryd.func11 rfl (by kernel_rfl) rfl (Own.nil w) ?_
  refine At.go [] [] rfl oK ?_
  refine At.st [] (OpOk.makeMap (.int .i64) rfl fun r1 => ?_)
  refine At.go [] [] rfl oK ?_
  refine At.st [] (OpOk.makeMap (.int .i64) rfl fun r2 => ?_)
  refine At.go [] [] rfl oK ?_
  refine At.bxNil 85 ?_
  refine At.loop (env0 := [(3, .map (some r1)), (4, .map (some r2)), (20, .slice a L.length c), (21, .int .i64 ↑L.length), (22, .int .i64 0)]) (fun m_ env bx hp => ∃ (m : Nat) (M : List (Int × Int)) (D : List (Int × Nat)), m_ = L.length - m ∧ (m ≤ L.length) ∧ (OrdIs L m M) ∧ (SymIs L m D) ∧ env = [(3, .map (some r1)), (4, .map (some r2)), (20, .slice a L.length c), (21, .int .i64 ↑L.length), (22, .int .i64 m)] ∧ bx = [] ∧ hp = [Seg.bxs 85 (smG L m D), Seg.map r2 (.int .i64) (D.map symE), Seg.map r1 (.int .i64) (M.map ordE)]) rfl
    ⟨0, [], [], rfl, (by omega), (OrdIs.zero L), (SymIs.zero L), rfl, rfl, rfl⟩ sB ?_
  rintro m_ env bx hp ⟨m, M, D, rfl, hm, hM, hD, rfl, rfl, rfl⟩ ih
  by_cases hlt : m < L.length
  · obtain ⟨p, hp⟩ : ∃ p, L[m]? = some p := ⟨_, List.getElem?_eq_getElem hlt⟩
    have hne : L.flatMap i64s ≠ [] := fun e => by
      have := flat_len (f := i64s) (sz := 9) (l := L) fun x hx => by simp [i64s, h9 x hx]
      rw [e] at this; simp at this; omega
    obtain ⟨g, o, rfl, hc⟩ := ha.get hne
    have r : ∀ {bx : Bx} {hp : List Seg}, RdW ⟨w, kys [] []⟩ bx hp g (o + (m : Int).toNat * 9) [.int .i64 (pg p 0), .int .i64 (pg p 1), .int .i64 (pg p 2), .int .i64 (pg p 3), .int .i64 (pg p 4), .int .i64 (pg p 5), .int .i64 (pg p 6), .int .i64 (pg p 7), .int .i64 (pg p 8)] := fun {_ _} => RdW.pair9 hc (by simp [kys]) h9 hp
    by_cases h7 : pg p 7 = 0
    · by_cases h4 : pg p 0 = 4
      · have hs : symAt L m = none := symAt_no hp fun e => by have := e.1; omega
        rw [← smG_skip D hs]
        refine At.go [true] [hR [.int .i64 (pg p 0), .int .i64 (pg p 1), .int .i64 (pg p 2), .int .i64 (pg p 3), .int .i64 (pg p 4), .int .i64 (pg p 5), .int .i64 (pg p 6), .int .i64 (pg p 7), .int .i64 (pg p 8)]] rfl (by and_intros <;> first | exact r | (simp [h7]; done) | (simp [h4]; done) | exact oK) ?_
        refine At.al fun b6 hb6 => ?_
        refine At.go [] [hB 0, hB 0] rfl (by and_intros <;> first | exact r | (simp [h7]; done) | (simp [h4]; done) | exact oK) ?_
        refine At.al fun b7 hb7 => ?_
        refine At.go [false, true] [hB 0, hB 1, hB 0, hB 0, hB 0] rfl (by and_intros <;> first | exact r | (simp [h7]; done) | (simp [h4]; done) | exact oK) ?_
        cases hg : getO M (pg p 2) with
        | none =>
          refine At.step0 [] rfl rfl rfl rfl trivial (OpOk.mapPush 2 rfl rfl rfl rfl Tryd.ordT Tryd.i64T rfl rfl (ordE_no hg) ?_)
          rw [show M.map ordE ++ [(.int .i64 (pg p 2), .int .i64 (pg p 3))] = (M ++ [(pg p 2, pg p 3)]).map ordE by simp [ordE]]
          refine At.go [] [] rfl oK ?_
          refine At.keep [false, false] [true, true, true] rfl ?_
          exact At.weak (ih _ _ _ _ (by omega) ⟨m + 1, M ++ [(pg p 2, pg p 3)], D, rfl, by omega, hM.push hp ⟨h4, h7⟩ hg, hD.skip hs, rfl, rfl, rfl⟩) sB
        | some s0 =>
          obtain ⟨k, hk⟩ := getO_some hg
          refine At.step0 [] rfl rfl rfl rfl trivial (OpOk.mapPut (v := .int .i64 s0) 2 rfl rfl rfl rfl Tryd.ordT Tryd.i64T rfl rfl (i := k) (by rw [List.getElem?_map, hk]; rfl) ?_)
          rw [show (M.map ordE).set k (.int .i64 (pg p 2), .int .i64 (pg p 3)) = (M.set k (pg p 2, pg p 3)).map ordE by rw [List.map_set]; rfl]
          refine At.go [] [] rfl oK ?_
          refine At.keep [false, false] [true, true, true] rfl ?_
          exact At.weak (ih _ _ _ _ (by omega) ⟨m + 1, M.set k (pg p 2, pg p 3), D, rfl, by omega, hM.set hp ⟨h4, h7⟩ hk, hD.skip hs, rfl, rfl, rfl⟩) sB
      · by_cases h5 : pg p 0 = 5
        · have hsy := symAt_yes hp ⟨h5, h7⟩
          rw [← hM.val] at hsy
          cases hg : getO M (pg p 2) with
          | none =>
            rw [hg] at hsy
            have hO : ∀ {bx : Bx} {hp : List Seg}, nth hp 2 = some (Seg.map r1 (.int .i64) (M.map ordE)) → LookOb Tryd.prog ⟨w, kys [] []⟩ bx hp 76 (.map (some r1)) (.int .i64 (pg p 2)) true (.tuple #[.int .i64 0, .bool false]) := fun {_ _} h => LookOb.miss true Tryd.ordT Tryd.i64T Tryd.zeroI64 (fun w hw => hw.hp _ (nth_mem h)) rfl (ordE_no hg)
            rw [← smG_skip D hsy]
            refine At.go [true] [hR [.int .i64 (pg p 0), .int .i64 (pg p 1), .int .i64 (pg p 2), .int .i64 (pg p 3), .int .i64 (pg p 4), .int .i64 (pg p 5), .int .i64 (pg p 6), .int .i64 (pg p 7), .int .i64 (pg p 8)]] rfl (by and_intros <;> first | exact r | exact hO rfl | (simp [h7]; done) | (simp [h5]; done) | exact oK) ?_
            refine At.al fun b6 hb6 => ?_
            refine At.go [] [hB 0, hB 0] rfl (by and_intros <;> first | exact r | exact hO rfl | (simp [h7]; done) | (simp [h5]; done) | exact oK) ?_
            refine At.al fun b7 hb7 => ?_
            refine At.go [false, false, true, true] [hB 0, hB 1, hB 0, hB 0, hL (.tuple ⟨[.int .i64 0, .bool false]⟩)] rfl (by and_intros <;> first | exact r | exact hO rfl | (simp [h7]; done) | (simp [h5]; done) | exact oK) ?_
            refine At.keep [false, false] [true, true, true] rfl ?_
            exact At.weak (ih _ _ _ _ (by omega) ⟨m + 1, M, D, rfl, by omega, hM.skip hp (fun e => h4 e.1), hD.skip hsy, rfl, rfl, rfl⟩) sB
          | some s =>
            rw [hg] at hsy
            obtain ⟨k0, hk0⟩ := getO_some hg
            have hO : ∀ {bx : Bx} {hp : List Seg}, nth hp 2 = some (Seg.map r1 (.int .i64) (M.map ordE)) → LookOb Tryd.prog ⟨w, kys [] []⟩ bx hp 76 (.map (some r1)) (.int .i64 (pg p 2)) true (.tuple #[.int .i64 s, .bool true]) := fun {_ _} h => LookOb.hit true Tryd.ordT Tryd.i64T (fun w hw => hw.hp _ (nth_mem h)) rfl (i := k0) (by rw [List.getElem?_map, hk0]; rfl)
            have q5 : inK .i64 (pg p 5) := pg_in (hin p (List.mem_of_getElem? hp)) 5
            have q6 : inK .i64 (pg p 6) := pg_in (hin p (List.mem_of_getElem? hp)) 6
            have hQ : smC L (m + 1) s = w3 (sumM (sq (cn L m) s + pg p 5)) ++ w3 (sumM (sa (cn L m) s + pg p 5 * pg p 6)) := by
              obtain ⟨N1, N2⟩ := cn_this hp hsy
              unfold smC; rw [N1, N2]
            have hAdd : ∀ {bx : Bx} {hp : List Seg} {q : Nat} (k : Nat), nth bx k = some (q, 85, w3 (sumM (sq (cn L m) s)) ++ w3 (sumM (sa (cn L m) s))) → CallU Tryd.prog ⟨w, kys [] []⟩ bx hp 36 [.pointer (some ⟨q, 0, none⟩), .int .i64 (pg p 5)] (.tuple #[]) (q, 85, w3 (sumM (sq (cn L m) s + pg p 5)) ++ w3 (sumM (sa (cn L m) s))) := fun {_ _ q} k h w' hw' => Tryd.AddP_w q _ _ _ _ (sq (cn L m) s) (pg p 5) q5 w' (hw'.own1 k h)
            have hMul : ∀ {bx : Bx} {hp : List Seg} {q : Nat} (k : Nat), nth bx k = some (q, 85, w3 (sumM (sq (cn L m) s + pg p 5)) ++ w3 (sumM (sa (cn L m) s))) → CallU Tryd.prog ⟨w, kys [] []⟩ bx hp 37 [.pointer (some ⟨q, 3, none⟩), .int .i64 (pg p 5), .int .i64 (pg p 6)] (.tuple #[]) (q, 85, w3 (sumM (sq (cn L m) s + pg p 5)) ++ w3 (sumM (sa (cn L m) s + pg p 5 * pg p 6))) := fun {_ _ q} k h w' hw' => Tryd.addMulQ_w q _ _ _ _ (sa (cn L m) s) (pg p 5) (pg p 6) q5 q6 w' (hw'.own1 k h)
            by_cases hd : s ∈ D.map (·.1)
            · obtain ⟨⟨s', q⟩, hq1, hq2⟩ := List.mem_map.1 hd
              obtain rfl : s = s' := hq2.symm
              obtain ⟨i, hi⟩ := List.mem_iff_getElem?.1 hq1
              have hA : ∀ {bx : Bx} {hp : List Seg}, nth hp 1 = some (Seg.map r2 (.int .i64) (D.map symE)) → LookOb Tryd.prog ⟨w, kys [] []⟩ bx hp 77 (.map (some r2)) (.int .i64 s) false (.pointer (some ⟨q, 0, none⟩)) := fun {_ _} h => LookOb.hit false Tryd.sumsT Tryd.i64T (fun w hw => hw.hp _ (nth_mem h)) rfl (i := i) (by rw [List.getElem?_map, hi]; rfl)
              refine At.bxOut i (smG_get hi) ?_
              refine At.go [true] [hR [.int .i64 (pg p 0), .int .i64 (pg p 1), .int .i64 (pg p 2), .int .i64 (pg p 3), .int .i64 (pg p 4), .int .i64 (pg p 5), .int .i64 (pg p 6), .int .i64 (pg p 7), .int .i64 (pg p 8)]] rfl (by and_intros <;> first | exact r | exact hO rfl | exact hA rfl | (simp [h7]; done) | (simp [h5]; done) | exact oK) ?_
              refine At.al fun b6 hb6 => ?_
              refine At.go [] [hB 0, hB 0] rfl (by and_intros <;> first | exact r | exact hO rfl | exact hA rfl | (simp [h7]; done) | (simp [h5]; done) | exact oK) ?_
              refine At.al fun b7 hb7 => ?_
              refine At.go [false, false, true, false, false] [hB 0, hB 1, hB 0, hB 0, hL (.tuple ⟨[.int .i64 s, .bool true]⟩), hL (.pointer (some ⟨q, 0, none⟩))] rfl (by and_intros <;> first | exact r | exact hO rfl | exact hA rfl | (simp [h7]; done) | (simp [h5]; done) | exact oK) ?_
              refine At.qT 7 1 [] [hL (.pointer (some ⟨q, 0, none⟩)), hB 0] rfl rfl (by and_intros <;> first | exact r | exact hO rfl | exact hA rfl | (simp [h7]; done) | (simp [h5]; done) | exact oK) ?_
              refine AtD.f1 7 [] [] [hU (.tuple ⟨[]⟩) 2 (w3 (sumM (sq (cn L m) s + pg p 5)) ++ w3 (sumM (sa (cn L m) s)))] rfl rfl rfl (hAdd 2 rfl) trivial ?_
              refine AtD.dn ?_
              refine At.go [] [] rfl oK ?_
              refine At.qT 9 1 [] [hL (.pointer (some ⟨q, 0, none⟩)), hB 0, hB 0] rfl rfl (by and_intros <;> first | exact hA rfl | exact oK) ?_
              refine AtD.f1 9 [] [] [hU (.tuple ⟨[]⟩) 2 (w3 (sumM (sq (cn L m) s + pg p 5)) ++ w3 (sumM (sa (cn L m) s + pg p 5 * pg p 6)))] rfl rfl rfl (hMul 2 rfl) trivial ?_
              refine AtD.dn ?_
              refine At.go [] [] rfl oK ?_
              refine At.order [2] [] rfl rfl ?_
              rw [← hQ]
              refine At.bxBack i (smG_get hi) ?_
              rw [smG_set hsy hD.nd hi]
              refine At.keep [false, false] [true, true, true] rfl ?_
              exact At.weak (ih _ _ _ _ (by omega) ⟨m + 1, M, D, rfl, by omega, hM.skip hp (fun e => h4 e.1), hD.same hsy hd, rfl, rfl, rfl⟩) sB
            · have hA : ∀ {bx : Bx} {hp : List Seg}, nth hp 1 = some (Seg.map r2 (.int .i64) (D.map symE)) → LookOb Tryd.prog ⟨w, kys [] []⟩ bx hp 77 (.map (some r2)) (.int .i64 s) false (.pointer none) := fun {_ _} h => LookOb.miss false Tryd.sumsT Tryd.i64T Tryd.zeroSums (fun w hw => hw.hp _ (nth_mem h)) rfl (symE_no hd)
              refine At.go [true] [hR [.int .i64 (pg p 0), .int .i64 (pg p 1), .int .i64 (pg p 2), .int .i64 (pg p 3), .int .i64 (pg p 4), .int .i64 (pg p 5), .int .i64 (pg p 6), .int .i64 (pg p 7), .int .i64 (pg p 8)]] rfl (by and_intros <;> first | exact r | exact hO rfl | exact hA rfl | (simp [h7]; done) | (simp [h5]; done) | exact oK) ?_
              refine At.al fun b6 hb6 => ?_
              refine At.go [] [hB 0, hB 0] rfl (by and_intros <;> first | exact r | exact hO rfl | exact hA rfl | (simp [h7]; done) | (simp [h5]; done) | exact oK) ?_
              refine At.al fun b7 hb7 => ?_
              refine At.go [false, false, true, false, true] [hB 0, hB 1, hB 0, hB 0, hL (.tuple ⟨[.int .i64 s, .bool true]⟩), hL (.pointer none)] rfl (by and_intros <;> first | exact r | exact hO rfl | exact hA rfl | (simp [h7]; done) | (simp [h5]; done) | exact oK) ?_
              refine At.bo fun b59 hb59 => ?_
              refine At.step0 [] rfl rfl rfl rfl trivial (OpOk.mapPush 1 rfl rfl rfl rfl Tryd.sumsT Tryd.i64T rfl rfl (symE_no hd) ?_)
              rw [show [Value.int .u64 0, .int .u64 0, .int .u64 0, .int .u64 0, .int .u64 0, .int .u64 0] = w3 (sumM (sq (cn L m) s)) ++ w3 (sumM (sa (cn L m) s)) from (smC_none (fun h => hd ((hD.val s).2 h))).symm]
              rw [show D.map symE ++ [(.int .i64 s, .pointer (some ⟨b59, 0, none⟩))] = (D ++ [(s, b59)]).map symE by simp [symE]]
              have hA2 : ∀ {bx : Bx} {hp : List Seg}, nth hp 1 = some (Seg.map r2 (.int .i64) ((D ++ [(s, b59)]).map symE)) → LookOb Tryd.prog ⟨w, kys [] []⟩ bx hp 77 (.map (some r2)) (.int .i64 s) false (.pointer (some ⟨b59, 0, none⟩)) := fun {_ _} h => LookOb.hit false Tryd.sumsT Tryd.i64T (fun w hw => hw.hp _ (nth_mem h)) rfl (i := D.length) (by rw [List.getElem?_map]; simp [symE])
              refine At.go [] [] rfl oK ?_
              refine At.qT 7 1 [] [hL (.pointer (some ⟨b59, 0, none⟩)), hB 1] rfl rfl (by and_intros <;> first | exact hA2 rfl | exact oK) ?_
              refine AtD.f1 7 [] [] [hU (.tuple ⟨[]⟩) 0 (w3 (sumM (sq (cn L m) s + pg p 5)) ++ w3 (sumM (sa (cn L m) s)))] rfl rfl rfl (hAdd 0 rfl) trivial ?_
              refine AtD.dn ?_
              refine At.go [] [] rfl oK ?_
              refine At.qT 9 1 [] [hL (.pointer (some ⟨b59, 0, none⟩)), hB 1, hB 1] rfl rfl (by and_intros <;> first | exact hA2 rfl | exact oK) ?_
              refine AtD.f1 9 [] [] [hU (.tuple ⟨[]⟩) 0 (w3 (sumM (sq (cn L m) s + pg p 5)) ++ w3 (sumM (sa (cn L m) s + pg p 5 * pg p 6)))] rfl rfl rfl (hMul 0 rfl) trivial ?_
              refine AtD.dn ?_
              refine At.go [] [] rfl oK ?_
              rw [← hQ]
              refine At.bxIn ?_
              rw [← smG_more hsy hd]
              refine At.keep [false, false] [true, true, true] rfl ?_
              exact At.weak (ih _ _ _ _ (by omega) ⟨m + 1, M, D ++ [(s, b59)], rfl, by omega, hM.skip hp (fun e => h4 e.1), hD.push hsy hd, rfl, rfl, rfl⟩) sB
        · have hs : symAt L m = none := symAt_no hp fun e => h5 e.1
          rw [← smG_skip D hs]
          refine At.go [true] [hR [.int .i64 (pg p 0), .int .i64 (pg p 1), .int .i64 (pg p 2), .int .i64 (pg p 3), .int .i64 (pg p 4), .int .i64 (pg p 5), .int .i64 (pg p 6), .int .i64 (pg p 7), .int .i64 (pg p 8)]] rfl (by and_intros <;> first | exact r | (simp [h7]; done) | (simp [h4]; done) | (simp [h5]; done) | exact oK) ?_
          refine At.al fun b6 hb6 => ?_
          refine At.go [] [hB 0, hB 0] rfl (by and_intros <;> first | exact r | (simp [h7]; done) | (simp [h4]; done) | (simp [h5]; done) | exact oK) ?_
          refine At.al fun b7 hb7 => ?_
          refine At.go [false, false, false] [hB 0, hB 1, hB 0] rfl (by and_intros <;> first | exact r | (simp [h7]; done) | (simp [h4]; done) | (simp [h5]; done) | exact oK) ?_
          refine At.keep [false, false] [true, true, true] rfl ?_
          exact At.weak (ih _ _ _ _ (by omega) ⟨m + 1, M, D, rfl, by omega, hM.skip hp (fun e => h4 e.1), hD.skip hs, rfl, rfl, rfl⟩) sB
    · have hs : symAt L m = none := symAt_no hp fun e => h7 e.2
      rw [← smG_skip D hs]
      refine At.go [true] [hR [.int .i64 (pg p 0), .int .i64 (pg p 1), .int .i64 (pg p 2), .int .i64 (pg p 3), .int .i64 (pg p 4), .int .i64 (pg p 5), .int .i64 (pg p 6), .int .i64 (pg p 7), .int .i64 (pg p 8)]] rfl (by and_intros <;> first | exact r | (simp [h7]; done) | exact oK) ?_
      refine At.al fun b6 hb6 => ?_
      refine At.go [] [hB 0, hB 0] rfl (by and_intros <;> first | exact r | (simp [h7]; done) | exact oK) ?_
      refine At.al fun b7 hb7 => ?_
      refine At.go [true] [hB 0, hB 1] rfl (by and_intros <;> first | exact r | (simp [h7]; done) | exact oK) ?_
      refine At.keep [false, false] [true, true, true] rfl ?_
      exact At.weak (ih _ _ _ _ (by omega) ⟨m + 1, M, D, rfl, by omega, hM.skip hp (fun e => h7 e.2), hD.skip hs, rfl, rfl, rfl⟩) sB
  · have hme : m = L.length := by omega
    subst hme
    have hDl : D.length ≤ L.length := by
      have := nodup_sub_len hD.nd (fun x hx => (hD.val x).1 hx)
      rw [List.length_map] at this
      exact Nat.le_trans this (syms_len _ _)
    refine At.go [false] [] rfl oK ?_
    refine At.ca (fun w' hw' => Tryd.KeysI_w r2 w') ?_
    rintro _ _ _ ⟨b, rfl, rfl, rfl⟩
    skip
    refine At.st [] (OpOk.callO [true] [] rfl rfl (fun w' hw' ho => Tryd.sortedI_w b r2 D w' ho (hw'.hp (Seg.map r2 (.int .i64) (D.map symE)) (by simp)) (by omega)) ?_)
    rintro _ _ _ ⟨a8, c8, rfl, rfl, rfl⟩
    have hKp : (sortI (D.map Prod.fst)).Perm (D.map Prod.fst) := List.mergeSort_perm _ _
    have hKs := sortI_up (l := D.map Prod.fst) hD.nd
    obtain ⟨K, hK⟩ : ∃ K, K = sortI (D.map Prod.fst) := ⟨_, rfl⟩
    rw [← hK] at hKp hKs ⊢
    have hKl : K.length = D.length := by rw [hKp.length_eq, List.length_map]
    refine At.go [] [] rfl oK ?_
    refine At.nilRow 29 4 ?_
    refine At.loop (env0 := [(4, .map (some r2)), (10, .slice none 0 0), (81, .slice (svA a8) D.length c8), (82, .int .i64 ↑D.length), (83, .int .i64 0)]) (fun m_ env bx hp => ∃ (j : Nat) (a1 : Option Nat) (c1 : Nat), m_ = D.length - j ∧ (j ≤ D.length) ∧ env = [(4, .map (some r2)), (10, sv a1 j c1), (81, .slice (svA a8) D.length c8), (82, .int .i64 ↑D.length), (83, .int .i64 j)] ∧ bx = [] ∧ hp = [Seg.row a1 29 4 j c1 (volCs L (K.take j)), Seg.row a8 2 1 D.length c8 (i64s K), Seg.bxs 85 (smG L L.length D), Seg.map r2 (TypeDesc.int IntKind.i64) (List.map symE D), Seg.map r1 (TypeDesc.int IntKind.i64) (List.map ordE M)]) rfl
      ⟨0, none, 0, rfl, (by omega), rfl, rfl, rfl⟩ sB ?_
    rintro m_ env bx hp ⟨j, a1, c1, rfl, hj, rfl, rfl, rfl⟩ ihk
    by_cases hlt2 : j < D.length
    · obtain ⟨s, hs⟩ : ∃ s, K[j]? = some s := ⟨_, List.getElem?_eq_getElem (by omega)⟩
      obtain ⟨⟨s', q⟩, hq1, hq2⟩ := List.mem_map.1 (hKp.mem_iff.1 (List.mem_of_getElem? hs))
      obtain rfl : s = s' := hq2.symm
      obtain ⟨i, hi⟩ := List.mem_iff_getElem?.1 hq1
      refine At.rowSome 1 rfl (by omega) fun g8 hg8 => ?_
      subst hg8
      have rN : ∀ {bx : Bx} {hp : List Seg}, nth hp 1 = some (Seg.row (some g8) 2 1 D.length c8 (i64s K)) → RdW ⟨w, kys [] []⟩ bx hp g8 (0 + (j : Int).toNat * 1) [.int .i64 s] := fun {_ _} h => RdW.row1 h (i64s_get hs) (by omega)
      have hA : ∀ {bx : Bx} {hp : List Seg}, nth hp 3 = some (Seg.map r2 (.int .i64) (D.map symE)) → LookOb Tryd.prog ⟨w, kys [] []⟩ bx hp 77 (.map (some r2)) (.int .i64 s) false (.pointer (some ⟨q, 0, none⟩)) := fun {_ _} h => LookOb.hit false Tryd.sumsT Tryd.i64T (fun w hw => hw.hp _ (nth_mem h)) rfl (i := i) (by rw [List.getElem?_map, hi]; rfl)
      obtain ⟨B1, B2⟩ := sums_big hin (n := L.length) (by omega) s
      have hT1 : ∀ {bx : Bx} {hp : List Seg}, nth hp 2 = some (Seg.bxs 85 (smG L L.length D)) → CallOb Tryd.prog ⟨w, kys [] []⟩ bx hp 40 [.pointer (some ⟨q, 0, none⟩)] (.tuple #[.int .i64 (totS (sq (cn L L.length) s)).1, .bool (totS (sq (cn L L.length) s)).2]) := fun {_ _} h w' hw' => Tryd.TotalP_w q 85 _ _ _ _ B1 w' (hw'.hp _ (nth_mem h) (q, smC L L.length s) (List.mem_of_getElem? (smG_get hi)))
      have hT2 : ∀ {bx : Bx} {hp : List Seg}, nth hp 2 = some (Seg.bxs 85 (smG L L.length D)) → CallOb Tryd.prog ⟨w, kys [] []⟩ bx hp 40 [.pointer (some ⟨q, 3, none⟩)] (.tuple #[.int .i64 (totS (sa (cn L L.length) s)).1, .bool (totS (sa (cn L L.length) s)).2]) := fun {_ _} h w' hw' => Tryd.TotalQ_w q 85 _ _ _ _ B2 w' (hw'.hp _ (nth_mem h) (q, smC L L.length s) (List.mem_of_getElem? (smG_get hi)))
      have hst : volCs L (K.take (j + 1)) = volCs L (K.take j) ++ vC (volR (cn L L.length) s) := by rw [List.take_add_one, hs]; exact volCs_snoc _ _ _
      by_cases f1 : (totS (sq (cn L L.length) s)).2 = true
      · by_cases f2 : (totS (sa (cn L L.length) s)).2 = true
        · rw [show vC (volR (cn L L.length) s) = [.int .i64 s, .int .i64 (totS (sq (cn L L.length) s)).1, .int .i64 (totS (sa (cn L L.length) s)).1, .bool true] by unfold volR vC; rw [if_pos ⟨f1, f2⟩]] at hst
          refine At.go [true] [hR [.int .i64 s]] rfl (by and_intros <;> first | exact rN rfl | exact hA rfl | exact hT1 rfl | exact hT2 rfl | exact f1 | exact f2 | (simp [f1, f2]; done) | exact oK) ?_
          refine At.al fun b13 hb13 => ?_
          refine At.go [true, true] [hB 0, hL (.pointer (some ⟨q, 0, none⟩)), hC (.tuple ⟨[.int .i64 (totS (sq (cn L L.length) s)).fst, .bool (totS (sq (cn L L.length) s)).snd]⟩), hL (.pointer (some ⟨q, 0, none⟩)), hC (.tuple ⟨[.int .i64 (totS (sa (cn L L.length) s)).fst, .bool (totS (sa (cn L L.length) s)).snd]⟩), hB 0, hB 0] rfl (by and_intros <;> first | exact rN rfl | exact hA rfl | exact hT1 rfl | exact hT2 rfl | exact f1 | exact f2 | (simp [f1, f2]; done) | exact oK) ?_
          refine At.a1 0 4 32 fun b117 a118 c118 => ?_
          refine At.go [] [] rfl (by and_intros <;> first | exact rN rfl | exact hA rfl | exact hT1 rfl | exact hT2 rfl | exact f1 | exact f2 | (simp [f1, f2]; done) | exact oK) ?_
          rw [← hst]
          refine At.keep [false] [true, true, true, true, true] rfl ?_
          exact At.weak (ihk _ _ _ _ (by omega) ⟨j + 1, a118, c118, rfl, by omega, rfl, rfl, rfl⟩) sB
        · have f2' : (totS (sa (cn L L.length) s)).2 = false := by simpa using f2
          rw [show vC (volR (cn L L.length) s) = [.int .i64 s, .int .i64 0, .int .i64 0, .bool false] by unfold volR vC; rw [if_neg fun e => f2 e.2]] at hst
          refine At.go [true] [hR [.int .i64 s]] rfl (by and_intros <;> first | exact rN rfl | exact hA rfl | exact hT1 rfl | exact hT2 rfl | exact f1 | exact f2' | (simp [f1, f2']; done) | exact oK) ?_
          refine At.al fun b13 hb13 => ?_
          refine At.go [true, false] [hB 0, hL (.pointer (some ⟨q, 0, none⟩)), hC (.tuple ⟨[.int .i64 (totS (sq (cn L L.length) s)).fst, .bool (totS (sq (cn L L.length) s)).snd]⟩), hL (.pointer (some ⟨q, 0, none⟩)), hC (.tuple ⟨[.int .i64 (totS (sa (cn L L.length) s)).fst, .bool (totS (sa (cn L L.length) s)).snd]⟩), hB 0] rfl (by and_intros <;> first | exact rN rfl | exact hA rfl | exact hT1 rfl | exact hT2 rfl | exact f1 | exact f2' | (simp [f1, f2']; done) | exact oK) ?_
          refine At.a1 0 4 32 fun b117 a118 c118 => ?_
          refine At.go [] [] rfl (by and_intros <;> first | exact rN rfl | exact hA rfl | exact hT1 rfl | exact hT2 rfl | exact f1 | exact f2' | (simp [f1, f2']; done) | exact oK) ?_
          rw [← hst]
          refine At.keep [false] [true, true, true, true, true] rfl ?_
          exact At.weak (ihk _ _ _ _ (by omega) ⟨j + 1, a118, c118, rfl, by omega, rfl, rfl, rfl⟩) sB
      · have f1' : (totS (sq (cn L L.length) s)).2 = false := by simpa using f1
        rw [show vC (volR (cn L L.length) s) = [.int .i64 s, .int .i64 0, .int .i64 0, .bool false] by unfold volR vC; rw [if_neg fun e => f1 e.1]] at hst
        refine At.go [true] [hR [.int .i64 s]] rfl (by and_intros <;> first | exact rN rfl | exact hA rfl | exact hT1 rfl | exact hT2 rfl | exact f1' | (simp [f1']; done) | exact oK) ?_
        refine At.al fun b13 hb13 => ?_
        refine At.go [false, false] [hB 0, hL (.pointer (some ⟨q, 0, none⟩)), hC (.tuple ⟨[.int .i64 (totS (sq (cn L L.length) s)).fst, .bool (totS (sq (cn L L.length) s)).snd]⟩), hL (.pointer (some ⟨q, 0, none⟩)), hC (.tuple ⟨[.int .i64 (totS (sa (cn L L.length) s)).fst, .bool (totS (sa (cn L L.length) s)).snd]⟩), hB 0] rfl (by and_intros <;> first | exact rN rfl | exact hA rfl | exact hT1 rfl | exact hT2 rfl | exact f1' | (simp [f1']; done) | exact oK) ?_
        refine At.a1 0 4 32 fun b117 a118 c118 => ?_
        refine At.go [] [] rfl (by and_intros <;> first | exact rN rfl | exact hA rfl | exact hT1 rfl | exact hT2 rfl | exact f1' | (simp [f1']; done) | exact oK) ?_
        rw [← hst]
        refine At.keep [false] [true, true, true, true, true] rfl ?_
        exact At.weak (ihk _ _ _ _ (by omega) ⟨j + 1, a118, c118, rfl, by omega, rfl, rfl, rfl⟩) sB
    · have hje : j = D.length := by omega
      subst hje
      refine At.go [false] [] rfl oK ?_
      refine At.rt [] [true] [] Tryd.func11 ?_
      exact ⟨K, a1, c1, by rw [hKl]; rfl, rfl, by rw [List.take_of_length_le (by omega), hKl], hKs, fun s => (hKp.mem_iff.trans (hD.val s))⟩
end Go.Proofs

/-
  Walks of layer 28: the example of the statements.
-/
namespace Go.Proofs
open Go Go.Eng
set_option maxRecDepth 100000
set_option maxHeartbeats 4000000
attribute [local irreducible] Tri

theorem exL_in : ∀ p, p ∈ exL → ∀ x, x ∈ p → inK .i64 x := fun p hp x hx => by
  have := (show ∀ p, p ∈ exL → ∀ x, x ∈ p → 0 ≤ x ∧ x ≤ 10 by decide) p hp x hx
  simp only [inK]; omega
theorem exL_syms : syms exL 3 = [3] := by rfl
theorem exL_vol : volCs exL [3] = [.int .i64 3, .int .i64 2, .int .i64 10, .bool true] := by rfl
theorem Tryd.alive28_w (w : World) (hW : Tryd.Rsn w) : Fun Tryd.prog 10 [] w (.bool true) := by
  refine Tri.enter (bx := []) (hp := []) Tryd.func10 rfl (by kernel_rfl) rfl (Own.nil w) ?_
  refine At.go [] [] rfl oK ?_
  refine At.st [] (OpOk.buildSlice rfl rfl rfl rfl rfl rfl rfl (fun b hb => ?_))
  have hS : ∀ {bx : Bx} {hp : List Seg} {w' : World} (k : Nat), nth bx k = some (b, 74, exL.flatMap i64s) → WOk ⟨w, kys [] []⟩ bx hp w' → SlOk w' (some ⟨b, 0, none⟩) (exL.flatMap i64s) := fun {_ _ w'} k h hw' => .inr ⟨b, 0, rfl, fun j u hu => by
    rw [Nat.zero_add]
    have := hw'.bx _ (nth_mem h)
    simp [World.cell?, this, hu]⟩
  refine At.go [] [] rfl oK ?_
  refine At.st [] (OpOk.call rfl (fun w' hw' => Tryd.repVols_w exL (some ⟨b, 0, none⟩) 3 w' (by decide) exL_in (by decide) (hS 0 rfl hw')) ?_)
  rintro _ _ _ ⟨D, a1, c1, rfl, rfl, rfl, hup, hmem⟩
  obtain rfl : D = [3] := strictEq hup (by simp) (by intro x; rw [hmem, show exL.length = 3 from rfl, exL_syms])
  rw [exL_vol]
  refine At.rowSome 0 rfl (by decide) fun g hg => ?_
  subst hg
  refine At.go [] [] rfl oK ?_
  refine At.st [] (OpOk.call rfl (fun w' hw' => Tryd.repVols_w [] none 0 w' (by simp) (by simp) (by simp) (.inl rfl)) ?_)
  rintro _ _ _ ⟨D, a2, c2, rfl, rfl, rfl, hup2, hmem2⟩
  obtain rfl : D = [] := strictEq hup2 (by simp) (by intro x; rw [hmem2]; simp [syms, cn])
  have hT : ∀ {bx : Bx} {hp : List Seg}, nth bx 0 = some (b, 74, exL.flatMap i64s) → CallOb Tryd.prog ⟨w, kys [] []⟩ bx hp 35 [.slice (some ⟨b, 0, none⟩) 3 3] (str [97, 99, 99, 101, 112, 116, 32, 50, 10, 107, 105, 110, 100, 32, 49, 10]) := fun {_ _} h w' hw' => Tryd.textEx_w _ 3 w' (hS 0 h hw') (hW.ext hw'.ext (by simp [kys]))
  have rd : ∀ {bx : Bx} {hp : List Seg}, nth hp 1 = some (Seg.row (some g) 29 4 1 c1 [.int .i64 3, .int .i64 2, .int .i64 10, .bool true]) → RdW ⟨w, kys [] []⟩ bx hp g (0 + (0 : Int).toNat * 4) [.int .i64 3, .int .i64 2, .int .i64 10, .bool true] := fun {_ _} h => RdW.row h (by simp)
  refine At.go [true, true, true] [hR [.int .i64 3, .int .i64 2, .int .i64 10, .bool true], hC (.string { data := #[97, 99, 99, 101, 112, 116, 32, 50, 10, 107, 105, 110, 100, 32, 49, 10] })] rfl (by and_intros <;> first | exact hT rfl | exact rd rfl | exact oK) ?_
  refine At.rt [] [] [] Tryd.func10 ?_
  exact ⟨rfl, rfl, rfl⟩
end Go.Proofs

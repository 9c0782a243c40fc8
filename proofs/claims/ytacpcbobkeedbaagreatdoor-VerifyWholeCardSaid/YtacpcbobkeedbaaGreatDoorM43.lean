/-
  Walks of layers 7 and 19's document: frames, headers, a log's files.
-/
import Derived.Test.YtacpcbobkeedbaaGreatDoorM21
import Derived.Test.YtacpcbobkeedbaaGreatDoorM16
import Derived.Test.YtacpcbobkeedbaaGreatDoorM7
import Derived.Test.YtacpcbobkeedbaaGreatDoorM40
import Derived.Test.YtacpcbobkeedbaaGreatDoorM29
import Derived.Test.YtacpcbobkeedbaaGreatDoorM42
import Derived.Test.YtacpcbobkeedbaaGreatDoorM17
import Derived.Test.YtacpcbobkeedbaaGreatDoorM37
/-
  Walks of layers 7 and 19's document: frames, headers, a log's files.
-/
namespace Go.Proofs
open Go Go.Eng
set_option maxRecDepth 100000
set_option maxHeartbeats 4000000
attribute [local irreducible] Tri

theorem Tryz.rWrap_w (s : List UInt8) (w : World) (hs : s.length ≤ 1000000) : Fun Tryz.prog 51 [str s] w (str (wrapL s)) := by
  have fR : ∀ {S : Base} {bx : Bx} {hp : List Seg}, CallOb Tryz.prog S bx hp 88 [str s] (str (rowL s)) := fun {_ _ _} w' _ => Tryz.rrow_w s w' hs
  have h1 := numL_len10 s.length (by omega)
  have h2 : (rowL s).length ≤ 1000010 := by unfold rowL; rw [List.length_append]; omega
  refine Tri.enter (bx := []) (hp := []) Tryz.func51 rfl (by kernel_rfl) rfl (Own.nil w) ?_
  refine At.go [] [hC (.string { data := (rowL s).toArray })] rfl (by and_intros <;> first | exact fR | (simp; omega) | exact oK) ?_
  refine At.rt [] [] [] Tryz.func51 ?_
  exact ⟨rfl, rfl, rfl⟩
theorem hdC_one (x : HdB) : ∀ u, u ∈ hdC x → u.oneCell' = true := by simp [hdC, Value.oneCell', str]
theorem Tryz.rHeader_w (P n i f : Nat) (c3 c4 : Int) (p : List UInt8) (l : List (List UInt8)) (a : Option Addr) (cap : Nat) (w : World) (hn : n ≤ 32) (hl : l.length ≤ 64) (hcap : l.length ≤ cap) (hx : ∀ x, x ∈ l → x.length ≤ 100000) (hr : SlOk w a (l.map str)) :
    Fun Tryz.prog 20 [.agg ⟨keyC⟩, .agg ⟨[.int .i64 P, .int .i64 n, .int .i64 c3, .int .i64 c4]⟩, .int .i64 i, .int .i64 f, str p, .slice a l.length cap] w (.agg ⟨hdC ⟨i, f, l.length, sumL l, p, rootB n l⟩⟩) := by
  have fR : ∀ {bx : Bx} {hp : List Seg}, CallOb Tryz.prog ⟨w, kys [] []⟩ bx hp 58 [.agg ⟨keyC⟩, .slice a l.length cap, .int .i64 n] (str (rootB n l)) := fun {_ _} w' hw' => Tryz.rRoot_w n hn l.length l a cap w' (Nat.le_refl _) (by omega) hcap hx (hr.ext hw'.ext (by simp [kys]))
  have hsum : ∀ j, sumL (l.take j) ≤ 64 * 100000 := fun j => by
    have h1 := sumL_few (l := l.take j) fun x h => hx x (List.mem_of_mem_take h)
    have h2 : (l.take j).length * 100000 ≤ 64 * 100000 := Nat.mul_le_mul_right _ (by rw [List.length_take]; omega)
    exact Nat.le_trans h1 h2
  generalize rootB n l = r at fR ⊢
  refine Tri.enter (bx := []) (hp := []) Tryz.func20 rfl (by kernel_rfl) rfl (Own.nil w) ?_
  refine At.go [] [] rfl (by and_intros <;> first | exact fR | exact Tryz.key_ld (i := 1) rfl | exact Tryz.key_ld (i := 2) rfl | (simp; done) | exact oK) ?_
  refine At.bo fun b6 hb6 => ?_
  refine At.bo fun b7 hb7 => ?_
  refine At.al fun b12 hb12 => ?_
  refine At.go [] [hK (.agg { toList := keyC }), hB 1, hC (.string { data := r.toArray })] rfl (by and_intros <;> first | exact fR | exact Tryz.key_ld (i := 1) rfl | exact Tryz.key_ld (i := 2) rfl | (simp; done) | exact oK) ?_
  refine At.al fun b13 hb13 => ?_
  refine At.go [] [hB 0] rfl (by and_intros <;> first | exact fR | exact Tryz.key_ld (i := 1) rfl | exact Tryz.key_ld (i := 2) rfl | (simp [Value.oneCell', str]; done) | exact oK) ?_
  refine At.loop (env0 := [(5, .slice a l.length cap), (12, .pointer (some ⟨b12, 0, none⟩)), (13, .pointer (some ⟨b13, 0, none⟩)), (14, .int .i64 0)]) (fun m_ env bx hp => ∃ (j : Nat), m_ = l.length - j ∧ (j ≤ l.length) ∧ env = [(5, .slice a l.length cap), (12, .pointer (some ⟨b12, 0, none⟩)), (13, .pointer (some ⟨b13, 0, none⟩)), (14, .int .i64 (j : Int))] ∧ bx = [(b13, 46, [.int .i64 (i : Int), .int .i64 (f : Int), .int .i64 (l.length : Int), .int .i64 ((sumL (l.take j) : Nat) : Int), str p, str r]), (b12, 46, [.int .i64 0, .int .i64 0, .int .i64 0, .int .i64 0, .string { data := #[] }, .string { data := #[] }]), (b7, 24, [.int .i64 ↑P, .int .i64 ↑n, .int .i64 c3, .int .i64 c4]), (b6, 31, keyC)] ∧ hp = []) rfl
    ⟨0, rfl, (Nat.zero_le _), rfl, rfl, rfl⟩ sB ?_
  rintro m_ env bx hp ⟨j, rfl, hj, rfl, rfl, rfl⟩ ih
  by_cases hlt : j < l.length
  · obtain ⟨x, hx'⟩ : ∃ x, l[j]? = some x := ⟨_, List.getElem?_eq_getElem hlt⟩
    have hxl := hx x (List.mem_of_getElem? hx')
    have ex : (l.map str)[j]? = some (str x) := by rw [List.getElem?_map, hx']; rfl
    obtain ⟨g, o, rfl, hc⟩ := hr.get (by intro h; rw [h] at ex; simp at ex)
    have rA : ∀ {bx : Bx} {hp : List Seg}, RdW ⟨w, kys [] []⟩ bx hp g (o + (j : Int).toNat * 1) [str x] := fun {_ _} => RdW.base1 (by simp [kys]) (by rw [Int.toNat_natCast, Nat.mul_one]; exact hc _ _ ex)
    have hs1 := hsum j
    have hs2 := hsum (j + 1)
    have hst : sumL (l.take (j + 1)) = sumL (l.take j) + x.length := by rw [List.take_add_one, hx']; exact sumL_snoc _ x
    refine At.go [true] [] rfl (by and_intros <;> first | exact rA | exact decide_eq_true (by omega) | (simp only; omega) | (simp; done) | exact oK) ?_
    refine At.qT 9 1 [] [hB 0, hR [.string { data := x.toArray }]] rfl rfl (by and_intros <;> first | exact rA | exact decide_eq_true (by omega) | (simp only [bl_of]; omega) | (simp; done) | exact oK) ?_
    refine AtD.f1 9 [] [] [hB 0] rfl rfl rfl (by first | exact rA | exact decide_eq_true (by omega) | (simp only [bl_of]; omega) | (simp [Value.oneCell']; done) | exact oK) (by first | exact rA | exact decide_eq_true (by omega) | (simp only; omega) | (simp; done) | exact oK) ?_
    refine AtD.dn ?_
    refine At.go [] [] rfl (by and_intros <;> first | exact rA | exact decide_eq_true (by omega) | (simp only; omega) | (simp; done) | exact oK) ?_
    rw [show ((sumL (l.take j) : Nat) : Int) + ((bl ⟨x.toArray⟩).length : Int) = ((sumL (l.take (j + 1)) : Nat) : Int) by rw [bl_of, hst]; omega]
    exact At.weak (ih _ _ _ _ (by omega) ⟨j + 1, rfl, by omega, rfl, rfl, rfl⟩) sB
  · obtain rfl : j = l.length := by omega
    rw [List.take_length]
    refine At.go [false] [hB 0, hB 1] rfl (by and_intros <;> first | exact decide_eq_false (by omega) | (simp [Value.oneCell', str]; done) | exact oK) ?_
    refine At.rt [] [] [hB 1] Tryz.func20 ?_
    exact ⟨rfl, rfl, rfl⟩
theorem putH_124 {h : HdB} {n : Nat} (hm : mayH h n = true) (hn : n ≤ 32) : (putH h).length ≤ 124 := by
  have mx := mayH_in hm
  have n1 := numL_len10 h.i.toNat (by omega)
  have n2 := numL_len10 h.f.toNat (by omega)
  have n3 := numL_len10 h.c.toNat (by omega)
  have n4 := numL_len10 h.b.toNat (by omega)
  have n5 := numL_len10 h.p.length (by omega)
  have n6 := numL_len10 h.r.length (by omega)
  simp only [putH, rowL, List.length_append]
  omega
theorem wraps_len {n : Nat} (hn : n ≤ 32) : ∀ L : List HdB, (∀ x, x ∈ L → mayH x n = true) → ((L.map putH).flatMap wrapL).length ≤ L.length * 135
  | [], _ => by simp
  | x :: L, h => by
    have h1 := putH_124 (h x (by simp)) hn
    have h2 := numL_len10 (putH x).length (by omega)
    have h3 := wraps_len hn L fun y hy => h y (List.mem_cons_of_mem _ hy)
    rw [List.map_cons, List.flatMap_cons, List.length_append, wrapL_len, List.length_cons, Nat.add_mul]; omega
theorem Tryz.rheaders_w (L : List HdB) (n : Nat) (a : Option Addr) (cap : Nat) (w : World) (hn : n ≤ 32) (hm : ∀ x, x ∈ L → mayH x n = true) (hl : L.length ≤ 40) (hr : SlOk w a (L.flatMap hdC)) :
    Fun Tryz.prog 52 [.slice a L.length cap] w (str ((L.map putH).flatMap wrapL)) := by
  refine Tri.enter (bx := []) (hp := []) Tryz.func52 rfl (by kernel_rfl) rfl (Own.nil w) ?_
  refine At.go [] [] rfl (by and_intros <;> first | exact trivial | exact oK) ?_
  refine At.loop (env0 := [(0, .slice a L.length cap), (3, .string { data := #[] }), (4, .int .i64 0)]) (fun m_ env bx hp => ∃ (i : Nat) (acc : List UInt8), m_ = L.length - i ∧ (i ≤ L.length) ∧ (acc = ((L.take i).map putH).flatMap wrapL) ∧ env = [(0, .slice a L.length cap), (3, str acc), (4, .int .i64 (i : Int))] ∧ bx = [] ∧ hp = []) rfl
    ⟨0, [], rfl, (Nat.zero_le _), (by simp), rfl, rfl, rfl⟩ sB ?_
  rintro m_ env bx hp ⟨i, acc, rfl, hi, hacc, rfl, rfl, rfl⟩ ih
  by_cases hlt : i < L.length
  · obtain ⟨x, hx⟩ : ∃ x, L[i]? = some x := ⟨_, List.getElem?_eq_getElem hlt⟩
    have hmx := hm x (List.mem_of_getElem? hx)
    have hlen := wraps_len hn (L.take i) fun y hy => hm y (List.mem_of_mem_take hy)
    rw [List.length_take] at hlen
    have hpl := putH_124 hmx hn
    have hnl := numL_len10 (putH x).length (by omega)
    have hwl := wrapL_len (putH x)
    have hne : L.flatMap hdC ≠ [] := by intro e; have := flat_get (f := hdC) (sz := 6) (fun _ _ => rfl) hx 0 _ rfl; rw [e] at this; simp at this
    obtain ⟨g, o, rfl, hc⟩ := hr.get hne
    have rX : ∀ {bx : Bx} {hp : List Seg}, RdW ⟨w, kys [] []⟩ bx hp g (o + (i : Int).toNat * 6) (hdC x) := fun {_ _} => RdW.base (by simp [kys]) fun j u hu => by
      rw [show o + (i : Int).toNat * 6 + j = o + (i * 6 + j) by omega]
      exact hc _ u (flat_get (f := hdC) (sz := 6) (fun _ _ => rfl) hx j u hu)
    have fP : ∀ {S : Base} {bx : Bx} {hp : List Seg}, CallOb Tryz.prog S bx hp 89 [.agg ⟨hdC x⟩] (str (putH x)) := fun {_ _ _} w2 _ => Tryz.rhPut_w x n w2 hmx hn
    have fW : ∀ {S : Base} {bx : Bx} {hp : List Seg}, CallOb Tryz.prog S bx hp 51 [str (putH x)] (str (wrapL (putH x))) := fun {_ _ _} w2 _ => Tryz.rWrap_w (putH x) w2 (by omega)
    have hst : ((L.take (i + 1)).map putH).flatMap wrapL = ((L.take i).map putH).flatMap wrapL ++ wrapL (putH x) := by rw [List.take_add_one, hx, List.map_append, List.flatMap_append]; simp
    rw [← hacc] at hlen
    have hm40 : min i L.length * 135 ≤ 40 * 135 := Nat.mul_le_mul_right _ (by omega)
    refine At.go [true] [hR [.int .i64 x.i, .int .i64 x.f, .int .i64 x.c, .int .i64 x.b, .string { data := x.p.toArray }, .string { data := x.r.toArray }], hC (.string { data := (putH x).toArray }), hC (.string { data := (wrapL (putH x)).toArray })] rfl (by and_intros <;> first | exact rX | exact fP | exact fW | exact decide_eq_true (by omega) | (rw [bl_of, bl_of]; omega) | exact oK) ?_
    exact At.weak (ih _ _ _ _ (by omega) ⟨i + 1, acc ++ wrapL (putH x), rfl, by omega, by rw [hst, hacc], rfl, rfl, rfl⟩) sB
  · obtain rfl : i = L.length := by omega
    rw [List.take_length] at hacc
    refine At.go [false] [] rfl (by and_intros <;> first | exact decide_eq_false (by omega) | exact oK) ?_
    refine At.rt [] [] [] Tryz.func52 ?_
    exact ⟨by rw [hacc]; rfl, rfl, rfl⟩
theorem Tryz.rHash19_w (P n K : Nat) (R : List (List UInt8)) (c3 c4 : Int) (a : Option Addr) (cap : Nat) (w : World) (hn : n ≤ 32) (gK : K ≤ 40) (hm : ∀ k, k < K → mayH (hdK P n R k) n = true) (hr : SlOk w a ((hdsB P n R K).flatMap hdC)) :
    Fun Tryz.prog 13 [.agg ⟨keyC⟩, .agg ⟨[.int .i64 P, .int .i64 n, .int .i64 c3, .int .i64 c4]⟩, .slice a K cap] w (str (prevB P n R K)) := by
  cases K with
  | zero =>
    have fC : ∀ {S : Base} {bx : Bx} {hp : List Seg}, CallOb Tryz.prog S bx hp 53 [.agg ⟨keyC⟩, str [], .int .i64 n] (str (cutH n [])) := fun {_ _ _} w' _ => Tryz.rCut_w [] n w' (by decide) hn
    refine Tri.enter (bx := []) (hp := []) Tryz.func13 rfl (by kernel_rfl) rfl (Own.nil w) ?_
    refine At.go [] [] rfl (by and_intros <;> first | exact fC | exact Tryz.key_ld (i := 1) rfl | (simp; done) | exact oK) ?_
    refine At.bo fun b3 hb3 => ?_
    refine At.bo fun b4 hb4 => ?_
    refine At.go [true] [hK (.agg { toList := keyC }), hB 0, hC (.string { data := (cutH n []).toArray })] rfl (by and_intros <;> first | exact fC | exact Tryz.key_ld (i := 1) rfl | (simp; done) | exact oK) ?_
    refine At.rt [] [] [] Tryz.func13 ?_
    exact ⟨rfl, rfl, rfl⟩
  | succ k =>
    have hx : (hdsB P n R (k + 1))[k]? = some (hdK P n R k) := by unfold hdsB; rw [List.getElem?_map, List.getElem?_range (by omega)]; rfl
    have hmx := hm k (by omega)
    show Fun _ _ _ _ (str (hashH n (hdK P n R k)))
    generalize hdK P n R k = x at hx hmx
    have hne : (hdsB P n R (k + 1)).flatMap hdC ≠ [] := by intro e; have := flat_get (f := hdC) (sz := 6) (fun _ _ => rfl) hx 0 _ rfl; rw [e] at this; simp at this
    obtain ⟨g, o, rfl, hc⟩ := hr.get hne
    have rX : ∀ {bx : Bx} {hp : List Seg}, RdW ⟨w, kys [] []⟩ bx hp g (o + ((((k + 1 : Nat) : Int) - 1).toNat) * 6) (hdC x) := fun {_ _} => RdW.base (by simp [kys]) fun j u hu => by
      rw [show o + ((((k + 1 : Nat) : Int) - 1).toNat) * 6 + j = o + (k * 6 + j) by omega]
      exact hc _ u (flat_get (f := hdC) (sz := 6) (fun _ _ => rfl) hx j u hu)
    have fC : ∀ {S : Base} {bx : Bx} {hp : List Seg}, CallOb Tryz.prog S bx hp 54 [.agg ⟨keyC⟩, .agg ⟨hdC x⟩, .int .i64 n] (str (hashH n x)) := fun {_ _ _} w' _ => Tryz.rhHash_w x n w' hmx hn
    refine Tri.enter (bx := []) (hp := []) Tryz.func13 rfl (by kernel_rfl) rfl (Own.nil w) ?_
    refine At.go [] [] rfl (by and_intros <;> first | exact decide_eq_false (by omega) | exact Tryz.key_ld (i := 1) rfl | exact rX | exact fC | omega | exact oK) ?_
    refine At.bo fun b3 hb3 => ?_
    refine At.bo fun b4 hb4 => ?_
    refine At.go [false] [] rfl (by and_intros <;> first | exact decide_eq_false (by omega) | exact Tryz.key_ld (i := 1) rfl | exact rX | exact fC | omega | exact oK) ?_
    refine At.qt [] [hK (.agg { toList := keyC }), hR [.int .i64 x.i, .int .i64 x.f, .int .i64 x.c, .int .i64 x.b, .string { data := x.p.toArray }, .string { data := x.r.toArray }], hB 0, hC (.string { data := (hashH n x).toArray })] rfl rfl (by and_intros <;> first | exact decide_eq_false (by omega) | exact Tryz.key_ld (i := 1) rfl | exact rX | exact fC | omega | exact oK) ?_
    refine At.go [] [] rfl (by and_intros <;> first | exact decide_eq_false (by omega) | exact Tryz.key_ld (i := 1) rfl | exact rX | exact fC | omega | exact oK) ?_
    refine At.rt [] [] [] Tryz.func13 ?_
    exact ⟨rfl, rfl, rfl⟩
theorem hdsB_snoc (P n : Nat) (R : List (List UInt8)) (k : Nat) : hdsB P n R (k + 1) = hdsB P n R k ++ [hdK P n R k] := by unfold hdsB; rw [List.range_succ, List.map_append]; rfl
theorem Tryz.rHeads_w (P n : Nat) (R : List (List UInt8)) (c3 c4 : Int) (a : Option Addr) (cap : Nat) (w : World) (hP : 1 ≤ P ∧ P ≤ 64) (hn : n ≤ 32) (hR : R.length ≤ 40) (hcap : R.length ≤ cap) (hx : ∀ x, x ∈ R → x.length ≤ 300) (hr : SlOk w a (R.map str)) :
    Tri Tryz.prog 12 [.agg ⟨keyC⟩, .agg ⟨[.int .i64 P, .int .i64 n, .int .i64 c3, .int .i64 c4]⟩, .slice a R.length cap] w [] (fun v bx hp => ∃ (g : Option Nat) (c : Nat), v = sv g (R.length / P) c ∧ bx = [] ∧ hp = [Seg.row g 46 6 (R.length / P) c ((hdsB P n R (R.length / P)).flatMap hdC)]) := by
  have gK : ∀ k, (k + 1) * P ≤ R.length → k < R.length / P := fun k h => (Nat.le_div_iff_mul_le (by omega)).2 h
  have hK2 : ∀ k, k < R.length / P → (k + 1) * P ≤ R.length := fun k h => (Nat.le_div_iff_mul_le (by omega)).1 h
  obtain ⟨K, hKe⟩ : ∃ K, R.length / P = K := ⟨_, rfl⟩
  have hK40 : K ≤ 40 := by rw [← hKe]; have := Nat.div_le_self R.length P; omega
  rw [hKe] at gK hK2 ⊢
  have hmay : ∀ k, k < K → mayH (hdK P n R k) n = true := fun k hk => hdK_may hP hn (by omega) (fun x h => by have := hx x h; omega) (hK2 k hk)
  have fC : ∀ {S : Base} {bx : Bx} {hp : List Seg}, CallOb Tryz.prog S bx hp 53 [.agg ⟨keyC⟩, str [], .int .i64 n] (str (cutH n [])) := fun {_ _ _} w' _ => Tryz.rCut_w [] n w' (by decide) hn
  refine Tri.enter (bx := []) (hp := []) Tryz.func12 rfl (by kernel_rfl) rfl (Own.nil w) ?_
  refine At.go [] [] rfl (by and_intros <;> first | exact fC | exact Tryz.key_ld (i := 1) rfl | exact oK) ?_
  refine At.bo fun b3 hb3 => ?_
  refine At.bo fun b4 hb4 => ?_
  refine At.go [] [hK (.agg { toList := keyC }), hB 0, hC (.string { data := (cutH n []).toArray })] rfl (by and_intros <;> first | exact fC | exact Tryz.key_ld (i := 1) rfl | exact oK) ?_
  refine At.nilRow 46 6 ?_
  refine At.loop (env0 := [(2, .slice a R.length cap), (3, .pointer (some ⟨b3, 0, none⟩)), (4, .pointer (some ⟨b4, 0, none⟩)), (7, .slice none 0 0), (8, .string { data := (cutH n []).toArray }), (9, .int .i64 0)]) (fun m_ env bx hp => ∃ (k : Nat) (prev : List UInt8) (cs : List Value) (g : Option Nat) (c : Nat), m_ = K - k ∧ (k ≤ K) ∧ (prev = prevB P n R k) ∧ (cs = (hdsB P n R k).flatMap hdC) ∧ env = [(2, .slice a R.length cap), (3, .pointer (some ⟨b3, 0, none⟩)), (4, .pointer (some ⟨b4, 0, none⟩)), (7, sv g k c), (8, str prev), (9, .int .i64 (k : Int))] ∧ bx = [(b4, 24, [.int .i64 ↑P, .int .i64 ↑n, .int .i64 c3, .int .i64 c4]), (b3, 31, keyC)] ∧ hp = [Seg.row g 46 6 k c cs]) rfl
    ⟨0, cutH n [], [], none, 0, rfl, (Nat.zero_le _), (rfl), (by simp [hdsB]), rfl, rfl, rfl⟩ sB ?_
  rintro m_ env bx hp ⟨k, prev, cs, g, c, rfl, hk, hprev, hcs, rfl, rfl, rfl⟩ ih
  by_cases hlt : k < K
  · have hf := hK2 k hlt
    have hmk := hmay k hlt
    obtain ⟨A, hA⟩ : ∃ A, k * P = A := ⟨_, rfl⟩
    have hA1 : (k : Int) * (P : Int) = (A : Int) := by rw [← hA]; simp
    have hA2 : ((k : Int) + 1) * (P : Int) = ((A + P : Nat) : Int) := by rw [Int.add_mul, hA1]; simp
    rw [Nat.add_mul, hA] at hf
    obtain ⟨g0, o, rfl, -⟩ := hr.get (by intro e; have := congrArg List.length e; rw [List.length_map] at this; simp only [List.length_nil] at this; omega)
    have hl : (segK P R k).length = P := by unfold segK; rw [List.length_take, List.length_drop]; omega
    have hA4 : ((((k : Int) + 1) * (P : Int)).toNat - ((k : Int) * (P : Int)).toNat) = P := by rw [hA1, hA2]; omega
    have hA5 : (((k : Int) * (P : Int)).toNat) = A := by rw [hA1]; omega
    have fH : ∀ {bx : Bx} {hp : List Seg}, CallOb Tryz.prog ⟨w, kys [] []⟩ bx hp 20 [.agg ⟨keyC⟩, .agg ⟨[.int .i64 P, .int .i64 n, .int .i64 c3, .int .i64 c4]⟩, .int .i64 k, .int .i64 ((k : Int) * (P : Int)), str prev, .slice (some ⟨g0, o + ((k : Int) * (P : Int)).toNat * 1, none⟩) ((((k : Int) + 1) * (P : Int)).toNat - ((k : Int) * (P : Int)).toNat) (cap - ((k : Int) * (P : Int)).toNat)] (.agg ⟨hdC (hdK P n R k)⟩) := fun {_ _} w' hw' => by
      have s1 := SlOk.rowsT P (SlOk.rowsD (k * P) (hr.ext hw'.ext (by simp [kys])))
      have := Tryz.rHeader_w P n k A c3 c4 prev (segK P R k) _ (cap - A) w' hn (by omega) (by omega) (fun x h => by have := hx x (segK_mem0 h); omega) s1
      rw [hA4, hA5, Nat.mul_one, hA1]
      rw [hl, hA] at this
      have e : hdK P n R k = ⟨k, A, P, sumL (segK P R k), prev, rootB n (segK P R k)⟩ := by rw [hprev]; unfold hdK mkH; rw [hA]
      rw [e]; exact this
    have fX : ∀ {S : Base} {bx : Bx} {hp : List Seg}, CallOb Tryz.prog S bx hp 54 [.agg ⟨keyC⟩, .agg ⟨hdC (hdK P n R k)⟩, .int .i64 n] (str (hashH n (hdK P n R k))) := fun {_ _ _} w' _ => Tryz.rhHash_w (hdK P n R k) n w' hmk hn
    have hst := hdsB_snoc P n R k
    have hpv : prevB P n R (k + 1) = hashH n (hdK P n R k) := rfl
    generalize hdK P n R k = x at fH fX hst hpv hmk
    refine At.gn 13 [true] [hB 0] rfl (by and_intros <;> first | exact decide_eq_true (by omega) | omega | exact oK) ?_
    refine At.cutS (ι := Nat) ⟨1, [0, 0, 0, 1, 0, 0, 1, 0, 1, 1, 1], []⟩ (fun b => [(2, .slice (some ⟨g0, o, none⟩) R.length cap), (3, .pointer (some ⟨b3, 0, none⟩)), (4, .pointer (some ⟨b4, 0, none⟩)), (7, sv g k c), (8, str prev), (9, .int .i64 (k : Int)), (10, .pointer (some ⟨b, 0, none⟩))])
      (fun b => [(b, 46, hdC x), (b4, 24, [.int .i64 P, .int .i64 n, .int .i64 c3, .int .i64 c4]), (b3, 31, keyC)]) (fun _ => [Seg.row g 46 6 k c cs]) ?_ fun hk0 => ?_
    rotate_left
    · refine At.dr 22 ?_
      refine AtH.readsK [true, true] [true] [1, 2, 3, 4, 5, 6, 7, 8, 9, 10, 11, 12, 13, 14, 15, 16, 17, 18] [hB 0, hB 0, hB 0, hB 0] rfl rfl (by and_intros <;> first | omega | (simp; done) | exact oK) rfl rfl (fuel := 4) ?_
      refine AtH.ld 0 (.agg ⟨keyC⟩) (Tryz.key_ld (i := 1) rfl) ?_
      refine AtH.fork2 19 20 (by kernel_rfl) rfl rfl rfl rfl rfl rfl (OpOk.one true [] [hC (.agg ⟨hdC x⟩)] rfl fH ⟨fun w hw => hw.selK [true, true] [true], ?_⟩) (OpOk.alloc rfl rfl fun b10 hb10 => ⟨fun w hw => hw.selK [false, true, true] [true], ?_⟩)
      · refine AtH.f1 20 rfl (OpOk.alloc rfl rfl fun b10 hb10 => ⟨fun w hw => hw.selK [false, true, true] [true], ?_⟩)
        refine AtH.f1 21 rfl (OpOk.one true [] [hB 0] rfl ⟨rfl, hdC_one _⟩ ⟨fun w hw => hw.selK [false, true, true] [true], ?_⟩)
        refine AtH.dn ?_
        exact At.weak (hk0 b10) sB
      · refine AtH.f1 19 rfl (OpOk.one true [] [hC (.agg ⟨hdC x⟩)] rfl fH ⟨fun w hw => hw.selK [false, true, true] [true], ?_⟩)
        refine AtH.f1 21 rfl (OpOk.one true [] [hB 0] rfl ⟨rfl, hdC_one _⟩ ⟨fun w hw => hw.selK [false, true, true] [true], ?_⟩)
        refine AtH.dn ?_
        exact At.weak (hk0 b10) sB
    rintro b10
    refine At.go [] [hB 0] rfl (by and_intros <;> first | exact fX | exact Tryz.key_ld (i := 2) rfl | omega | (simp; done) | exact oK) ?_
    refine At.a1 0 6 64 fun b47 a48 c48 => ?_
    refine At.go [] [hK (.agg { toList := keyC }), hB 0, hB 1, hC (.string { data := (hashH n x).toArray })] rfl (by and_intros <;> first | exact fX | exact Tryz.key_ld (i := 2) rfl | omega | (simp; done) | exact oK) ?_
    have ecs : cs ++ hdC x = (hdsB P n R (k + 1)).flatMap hdC := by rw [hst, List.flatMap_append, hcs]; simp
    refine At.keep [false, true, true] [true] rfl ?_
    exact At.weak (ih _ _ _ _ (by omega) ⟨k + 1, hashH n x, cs ++ hdC x, a48, c48, rfl, by omega, hpv.symm, ecs, rfl, rfl, rfl⟩) sB
  · obtain rfl : k = K := by omega
    have hno : ¬ (k + 1) * P ≤ R.length := fun h => by have := gK k h; omega
    rw [Nat.add_mul] at hno
    have hkP : k * P ≤ R.length := by
      have := Nat.div_mul_le_self R.length P
      rw [hKe] at this; exact this
    obtain ⟨A, hA⟩ : ∃ A, k * P = A := ⟨_, rfl⟩
    rw [hA] at hno hkP
    have hA1 : ((k : Int) + 1) * (P : Int) = ((A + P : Nat) : Int) := by rw [Int.add_mul, ← hA]; simp
    subst hcs
    refine At.go [false] [hB 0] rfl (by and_intros <;> first | exact decide_eq_false (by rw [hA1]; omega) | (simp only; rw [hA1]; omega) | (rw [hA1]; omega) | exact oK) ?_
    refine At.rt [] [true] [] Tryz.func12 ?_
    exact ⟨g, c, rfl, rfl, rfl⟩
end Go.Proofs

/-
  Walk of layer 19's document: a log's files.
-/
namespace Go.Proofs
open Go Go.Eng
set_option maxRecDepth 100000
set_option maxHeartbeats 4000000
attribute [local irreducible] Tri

theorem Tryz.rFiles_w (P n : Nat) (R : List (List UInt8)) (c3 c4 : Int) (a : Option Addr) (cap : Nat) (w : World) (hP : 1 ≤ P ∧ P ≤ 64) (hn : n ≤ 32) (eR : R.length ≤ 40) (hcap : R.length ≤ cap) (hx : ∀ x, x ∈ R → x.length ≤ 300) (hr : SlOk w a (R.map str)) :
    Tri Tryz.prog 11 [.agg ⟨keyC⟩, .agg ⟨[.int .i64 P, .int .i64 n, .int .i64 c3, .int .i64 c4]⟩, .slice a R.length cap] w [] (fun v bx hp => ∃ (g : Option Nat) (c : Nat), v = sv g (filesB P n R).length c ∧ bx = [] ∧ hp = [Seg.row g 65 2 (filesB P n R).length c (fl (filesB P n R))]) := by
  have hpos : (0 : Int) < P := by omega
  have hmay : ∀ x, x ∈ hdsB P n R (R.length / P) → mayH x n = true := fun x h => by
    unfold hdsB at h
    obtain ⟨k, hk, rfl⟩ := List.mem_map.1 h
    exact hdK_may hP hn (by omega) (fun x h => by have := hx x h; omega) ((Nat.le_div_iff_mul_le (by omega)).1 (List.mem_range.1 hk))
  refine Tri.enter (bx := []) (hp := []) Tryz.func11 rfl (by kernel_rfl) rfl (Own.nil w) ?_
  refine At.go [] [] rfl (by and_intros <;> first | exact trivial | exact oK) ?_
  refine At.bo fun b3 hb3 => ?_
  refine At.bo fun b4 hb4 => ?_
  refine At.go [] [] rfl (by and_intros <;> first | exact trivial | exact oK) ?_
  refine At.nilRow 65 2 ?_
  refine At.loop (env0 := [(2, .slice a R.length cap), (3, .pointer (some ⟨b3, 0, none⟩)), (4, .pointer (some ⟨b4, 0, none⟩)), (7, .slice none 0 0), (8, .int .i64 0)]) (fun m_ env bx hp => ∃ (i : Nat) (S : FL) (g : Option Nat) (c : Nat), m_ = R.length - i ∧ (i ≤ R.length) ∧ (S = logF P R i) ∧ env = [(2, .slice a R.length cap), (3, .pointer (some ⟨b3, 0, none⟩)), (4, .pointer (some ⟨b4, 0, none⟩)), (7, sv g S.length c), (8, .int .i64 (i : Int))] ∧ bx = [(b4, 24, [.int .i64 ↑P, .int .i64 ↑n, .int .i64 c3, .int .i64 c4]), (b3, 31, keyC)] ∧ hp = [Seg.row g 65 2 S.length c (fl S)]) rfl
    ⟨0, [], none, 0, rfl, (Nat.zero_le _), (rfl), rfl, rfl, rfl⟩ sB ?_
  rintro m_ env bx hp ⟨i, S, g, c, rfl, hi, hS, rfl, rfl, rfl⟩ ih
  by_cases hlt : i < R.length
  · obtain ⟨x, hx'⟩ : ∃ x, R[i]? = some x := ⟨_, List.getElem?_eq_getElem hlt⟩
    have hxl := hx x (List.mem_of_getElem? hx')
    have ex : (R.map str)[i]? = some (str x) := by rw [List.getElem?_map, hx']; rfl
    obtain ⟨g0, o, rfl, hc⟩ := hr.get (by intro h; rw [h] at ex; simp at ex)
    have rA : ∀ {bx : Bx} {hp : List Seg}, RdW ⟨w, kys [] []⟩ bx hp g0 (o + (i : Int).toNat * 1) [str x] := fun {_ _} => RdW.base1 (by simp [kys]) (by rw [Int.toNat_natCast, Nat.mul_one]; exact hc _ _ ex)
    have hq : Int.tdiv (i : Int) (P : Int) = ((i / P : Nat) : Int) := (Int.ofNat_tdiv i P).symm
    have hd := Nat.div_le_self i P
    have fN : ∀ {S : Base} {bx : Bx} {hp : List Seg}, CallOb Tryz.prog S bx hp 48 [.int .i64 (Int.tdiv (i : Int) (P : Int))] (str (nmB 115 ((i / P : Nat) : Int))) := fun {_ _ _} w' _ => by rw [hq]; exact Tryz.rSegment_w _ w'
    have hfew := logF_few P R i
    have hSl : S.length ≤ 40 := by rw [hS]; omega
    have hmem := logF_mem (P := P) hx (by omega) i hi
    have hrl : (readN S (nmB 115 ((i / P : Nat) : Int))).length ≤ i * (300 + 3) := by rw [hS]; exact readF_len fun q hq => (hmem q hq).2
    have hi40 : i * (300 + 3) ≤ 40 * (300 + 3) := Nat.mul_le_mul_right _ (by omega)
    have hnl := numL_len 1 x.length (by omega)
    have hwl := wrapL_len x
    have fR : ∀ {bx : Bx} {hp : List Seg}, nth hp 0 = some (Seg.row g 65 2 S.length c (fl S)) → CallOb Tryz.prog ⟨w, kys [] []⟩ bx hp 50 [.slice (svA g) S.length c, str (nmB 115 ((i / P : Nat) : Int))] (str (readN S (nmB 115 ((i / P : Nat) : Int)))) := fun {_ _} h w' hw' => Tryz.r9Read_w S _ (svA g) c w' (by omega) (SlOk.row (hw'.hp _ (nth_mem h)))
    have fW : ∀ {S : Base} {bx : Bx} {hp : List Seg}, CallOb Tryz.prog S bx hp 51 [str x] (str (wrapL x)) := fun {_ _ _} w2 _ => Tryz.rWrap_w x w2 (by omega)
    have hst : logF P R (i + 1) = setN (nmB 115 ((i / P : Nat) : Int)) (readN S (nmB 115 ((i / P : Nat) : Int)) ++ wrapL x) S := by rw [logF, hx', hS]; rfl
    refine At.gn 16 [true] [hB 0, hC (.string { data := (nmB 115 ↑(i / P)).toArray })] rfl (by and_intros <;> first | exact decide_eq_true (by omega) | exact fN | (simp only; rw [hq]; omega) | exact oK) ?_
    refine At.dr 13 ?_
    refine AtD.lx [0, 1, 2, 3, 4, 5, 6, 7, 8, 9, 10] 2 [] [hC (str (readN S (nmB 115 ((i / P : Nat) : Int)))), hR [str x], hC (str (wrapL x))] rfl (by and_intros <;> first | exact rA | exact fR rfl | exact fW | (rw [bl_of, bl_of]; omega) | exact oK) ?_
    simp only [bl_of]
    refine AtD.fork1 11 (by kernel_rfl) (StepD.by [] rfl rfl rfl rfl trivial (OpOk.call rfl (fun w' hw' => Tryz.rSet_w S (nmB 115 ((i / P : Nat) : Int)) (readN S (nmB 115 ((i / P : Nat) : Int)) ++ wrapL x) (svA g) c w' (by omega) (SlOk.row (hw'.hp _ (nth_mem (i := 0) rfl)))) ?_))
    rintro _ _ _ ⟨a1, c1, rfl, rfl, rfl⟩
    refine AtD.pu [12] 0 rfl (by and_intros <;> first | exact trivial | exact oK) ?_
    refine AtD.dn ?_
    refine At.go [] [] rfl (by and_intros <;> first | exact trivial | exact oK) ?_
    rw [← hst]
    refine At.keep [true, true] [true, false] rfl ?_
    exact At.weak (ih _ _ _ _ (by omega) ⟨i + 1, logF P R (i + 1), a1, c1, rfl, by omega, rfl, rfl, rfl, rfl⟩) sB
  · obtain rfl : i = R.length := by omega
    refine At.go [false] [hK (.agg { toList := keyC }), hB 0] rfl (by and_intros <;> first | exact decide_eq_false (by omega) | exact Tryz.key_ld (i := 1) rfl | exact oK) ?_
    refine At.step [] rfl rfl rfl rfl rfl trivial (OpOk.call rfl (fun w' hw' => Tryz.rHeads_w P n R c3 c4 a cap w' hP hn eR hcap hx (hr.ext hw'.ext (by simp [kys]))) ?_)
    rintro _ _ _ ⟨gh, hc, rfl, rfl, rfl⟩
    have fH : ∀ {bx : Bx} {hp : List Seg}, nth hp 0 = some (Seg.row gh 46 6 (R.length / P) hc ((hdsB P n R (R.length / P)).flatMap hdC)) → CallOb Tryz.prog ⟨w, kys [] []⟩ bx hp 52 [.slice (svA gh) (R.length / P) hc] (str (((hdsB P n R (R.length / P)).map putH).flatMap wrapL)) := fun {_ _} h w' hw' => by
      have := Tryz.rheaders_w (hdsB P n R (R.length / P)) n (svA gh) hc w' hn hmay (by rw [hdsB_len]; have := Nat.div_le_self R.length P; omega) (SlOk.row (hw'.hp _ (nth_mem h)))
      rwa [hdsB_len] at this
    refine At.go [] [hC (.string { data := (List.flatMap wrapL (List.map putH (hdsB P n R (R.length / P)))).toArray })] rfl (by and_intros <;> first | exact fH rfl | exact oK) ?_
    have hSl : S.length ≤ 40 := by have := logF_few P R R.length; rw [hS]; omega
    refine At.step [] rfl rfl rfl rfl rfl trivial (OpOk.call rfl (fun w' hw' => Tryz.rSet_w S headsB (((hdsB P n R (R.length / P)).map putH).flatMap wrapL) (svA g) c w' (by omega) (SlOk.row (hw'.hp _ (nth_mem (i := 1) rfl)))) ?_)
    rintro _ _ _ ⟨a1, c1, rfl, rfl, rfl⟩
    refine At.go [] [] rfl (by and_intros <;> first | exact trivial | exact oK) ?_
    subst hS
    refine At.rt [] [true, false, false] [] Tryz.func11 ?_
    exact ⟨a1, c1, rfl, rfl, rfl⟩
end Go.Proofs

/-
  Walk of the statement VerifyWhole.
-/
namespace Go.Proofs
open Go Go.Eng
set_option maxRecDepth 100000
set_option maxHeartbeats 4000000
attribute [local irreducible] Tri

theorem nmB_len9 {c : UInt8} {k : Nat} (hk : k ≤ 1099511627776) : (nmB c (k : Int)).length ≤ 100 := by
  rw [nmB_of (by omega)]
  have := dd_len 18 k (by rw [show (10 : Nat) ^ (18 + 1) = 10000000000000000000 by decide]; omega)
  simp only [List.length_cons]; omega
theorem filesB_ok {P n : Nat} {R : List (List UInt8)} (hP : 1 ≤ P ∧ P ≤ 64) (hn : n ≤ 32) (eR : R.length ≤ 40) (hx : ∀ x, x ∈ R → x.length ≤ 200) : (filesB P n R).length ≤ 60 ∧ (∀ p, p ∈ filesB P n R → p.2.length ≤ 9000) ∧ (∀ p, p ∈ filesB P n R → p.1.length ≤ 9223372036854775807) := by
  have h1 := logF_few P R R.length
  have h2 := setN_few headsB (((hdsB P n R (R.length / P)).map putH).flatMap wrapL) (logF P R R.length)
  have hm := logF_mem (P := P) hx (by omega) R.length (Nat.le_refl _)
  have hKl := Nat.div_le_self R.length P
  have hw := wraps_len hn (hdsB P n R (R.length / P)) fun x h => by
    unfold hdsB at h
    obtain ⟨k, hk, rfl⟩ := List.mem_map.1 h
    exact hdK_may hP hn (by omega) (fun x h => by have := hx x h; omega) ((Nat.le_div_iff_mul_le (by omega)).1 (List.mem_range.1 hk))
  rw [hdsB_len] at hw
  have hk2 : R.length / P * 135 ≤ 40 * 135 := Nat.mul_le_mul_right _ (by omega)
  have hl2 : R.length * (200 + 3) ≤ 40 * (200 + 3) := Nat.mul_le_mul_right _ eR
  refine ⟨by unfold filesB; omega, fun p hp => ?_, fun p hp => ?_⟩ <;> rcases (setN_mem _ _ _ _).1 hp with ⟨-, rfl⟩ | ⟨h3, -⟩
  · show (((hdsB P n R (R.length / P)).map putH).flatMap wrapL).length ≤ 9000
    omega
  · have := (hm p h3).2; omega
  · show headsB.length ≤ _
    decide
  · obtain ⟨⟨k, -, h4, h5⟩, -⟩ := hm p h3
    rw [h5]
    have := nmB_len9 (c := 115) (k := k) (by omega)
    omega
theorem Tryz.verifyWhole_w (R : List (List UInt8)) (c1 n c3 c4 : Int) (a : Option Addr) (cap : Nat) (w : World) (hl : R.length ≤ 9223372036854775807) (hcap : R.length ≤ cap) (hr : SlOk w a (R.map str)) (hT : Tryz.Tabs w) (hxl : ∀ x, x ∈ R → x.length ≤ 9223372036854775807) :
    Fun Tryz.prog 3 [.slice a R.length cap, .agg ⟨[.int .i64 c1, .int .i64 n, .int .i64 c3, .int .i64 c4]⟩] w (.bool true) := by
  have fA : ∀ {bx : Bx} {hp : List Seg}, CallOb Tryz.prog ⟨w, kys [] []⟩ bx hp 8 [] (.bool true) := fun {_ _} w' hw' => Tryz.alive22_w w' (Tryz.tabs_ext0 hT hw'.ext)
  have fY : ∀ {S : Base} {bx : Bx} {hp : List Seg}, CallOb Tryz.prog S bx hp 9 [.agg ⟨[.int .i64 c1, .int .i64 n, .int .i64 c3, .int .i64 c4]⟩] (.bool (mayCf c1 n c3 c4)) := fun {_ _ _} w' _ => Tryz.r19May_w c1 n c3 c4 w'
  by_cases h40 : 40 < R.length
  · refine Tri.enter (bx := []) (hp := []) Tryz.func3 rfl (by kernel_rfl) rfl (Own.nil w) ?_
    refine At.go [] [] rfl (by and_intros <;> first | exact fA | exact decide_eq_true (by omega) | exact oK) ?_
    refine At.bo fun b3 hb3 => ?_
    refine At.go [false, true, true] [hC (.bool true)] rfl (by and_intros <;> first | exact fA | exact decide_eq_true (by omega) | exact oK) ?_
    refine At.rt [] [] [] Tryz.func3 ?_
    exact ⟨rfl, rfl, rfl⟩
  cases hmay : mayCf c1 n c3 c4 with
  | false =>
    rw [hmay] at fY
    refine Tri.enter (bx := []) (hp := []) Tryz.func3 rfl (by kernel_rfl) rfl (Own.nil w) ?_
    refine At.go [] [] rfl (by and_intros <;> first | exact decide_eq_false (by omega) | exact fA | exact fY | (simp; done) | exact oK) ?_
    refine At.bo fun b3 hb3 => ?_
    refine At.go [false, false, true] [hC (.bool true), hB 0, hC (.bool false)] rfl (by and_intros <;> first | exact decide_eq_false (by omega) | exact fA | exact fY | (simp; done) | exact oK) ?_
    refine At.rt [] [] [] Tryz.func3 ?_
    exact ⟨rfl, rfl, rfl⟩
  | true =>
    rw [hmay] at fY
    have hin := mayCf_in hmay
    obtain ⟨n, rfl⟩ : ∃ N : Nat, n = N := ⟨n.toNat, by omega⟩
    obtain ⟨P, rfl⟩ : ∃ P : Nat, c1 = P := ⟨c1.toNat, by omega⟩
    refine Tri.enter (bx := []) (hp := []) Tryz.func3 rfl (by kernel_rfl) rfl (Own.nil w) ?_
    refine At.go [] [] rfl (by and_intros <;> first | exact decide_eq_false (by omega) | exact fA | exact fY | (simp; done) | exact oK) ?_
    refine At.bo fun b3 hb3 => ?_
    refine At.go [false, false, false] [hC (.bool true), hB 0, hC (.bool true)] rfl (by and_intros <;> first | exact decide_eq_false (by omega) | exact fA | exact fY | (simp; done) | exact oK) ?_
    refine At.loop (env0 := [(0, .slice a R.length cap), (3, .pointer (some ⟨b3, 0, none⟩)), (5, .int .i64 0)]) (fun m_ env bx hp => ∃ (i : Nat), m_ = R.length - i ∧ (i ≤ R.length) ∧ ((∀ x, x ∈ R.take i → 1 ≤ x.length ∧ x.length ≤ 200)) ∧ env = [(0, .slice a R.length cap), (3, .pointer (some ⟨b3, 0, none⟩)), (5, .int .i64 (i : Int))] ∧ bx = [(b3, 24, [.int .i64 ↑P, .int .i64 ↑n, .int .i64 c3, .int .i64 c4])] ∧ hp = []) rfl
      ⟨0, rfl, (Nat.zero_le _), (fun x h => by cases h), rfl, rfl, rfl⟩ sB ?_
    rintro m_ env bx hp ⟨i, rfl, hi, hA, rfl, rfl, rfl⟩ ih
    by_cases hlt : i < R.length
    · obtain ⟨x, hx'⟩ : ∃ x, R[i]? = some x := ⟨_, List.getElem?_eq_getElem hlt⟩
      have ex : (R.map str)[i]? = some (str x) := by rw [List.getElem?_map, hx']; rfl
      obtain ⟨g0, o, rfl, hc⟩ := hr.get (by intro h; rw [h] at ex; simp at ex)
      have rA : ∀ {bx : Bx} {hp : List Seg}, RdW ⟨w, kys [] []⟩ bx hp g0 (o + (i : Int).toNat * 1) [str x] := fun {_ _} => RdW.base1 (by simp [kys]) (by rw [Int.toNat_natCast, Nat.mul_one]; exact hc _ _ ex)
      have ht : R.take (i + 1) = R.take i ++ [x] := by rw [List.take_add_one, hx']; rfl
      by_cases h0 : x.length = 0
      · refine At.go [true, true, true] [hR [.string { data := x.toArray }]] rfl (by and_intros <;> first | exact decide_eq_true (by omega) | exact rA | (rw [bl_of]; exact decide_eq_true (by omega)) | (rw [bl_of]; omega) | exact oK) ?_
        refine At.rt [] [] [] Tryz.func3 ?_
        exact ⟨rfl, rfl, rfl⟩
      · by_cases h2 : 200 < x.length
        · have := hxl x (List.mem_of_getElem? hx')
          refine At.go [true, false, true] [hR [.string { data := x.toArray }], hR [.string { data := x.toArray }]] rfl (by and_intros <;> first | exact decide_eq_true (by omega) | exact rA | (rw [bl_of]; exact decide_eq_false (by omega)) | (rw [bl_of]; exact decide_eq_true (by omega)) | (rw [bl_of]; omega) | exact oK) ?_
          refine At.rt [] [] [] Tryz.func3 ?_
          exact ⟨rfl, rfl, rfl⟩
        · refine At.go [true, false, false] [hR [.string { data := x.toArray }], hR [.string { data := x.toArray }]] rfl (by and_intros <;> first | exact decide_eq_true (by omega) | exact rA | (rw [bl_of]; exact decide_eq_false (by omega)) | (rw [bl_of]; omega) | exact oK) ?_
          have hA2 : ∀ y, y ∈ R.take (i + 1) → 1 ≤ y.length ∧ y.length ≤ 200 := fun y hy => by
            rw [ht] at hy
            rcases List.mem_append.1 hy with h | h
            · exact hA y h
            · simp only [List.mem_singleton] at h
              subst h; omega
          exact At.weak (ih _ _ _ _ (by omega) ⟨i + 1, rfl, by omega, hA2, rfl, rfl, rfl⟩) sB
    · obtain rfl : i = R.length := by omega
      rw [List.take_length] at hA
      have hx3 : ∀ x, x ∈ R → x.length ≤ 300 := fun x h => by have := hA x h; omega
      have fK : ∀ {S : Base} {bx : Bx} {hp : List Seg}, CallOb Tryz.prog S bx hp 10 [] (.agg ⟨keyC⟩) := fun {_ _ _} w' _ => Tryz.makeKeyC_w w'
      obtain ⟨q1, q2, q3⟩ := filesB_ok (R := R) (n := n) (P := P) (by omega) (by omega) (by omega) fun x h => (hA x h).2
      have hver := ver_log (P := P) (n := n) (R := R) (by omega) (by omega) (by omega) hA
      have hKl := Nat.div_le_self R.length P
      have hmK : ∀ k, k < R.length / P → mayH (hdK P n R k) n = true := fun k hk => hdK_may (by omega) (by omega) (by omega) (fun x h => by have := hx3 x h; omega) ((Nat.le_div_iff_mul_le (by omega)).1 hk)
      have hch := chain_hds (P := P) (n := n) (R := R) (m := R.length / P) hmK
      have hsd : sealD n (verF (filesB P n R) P n) = (prevB P n R (R.length / P), R.length / P, (R.take (R.length / P * P)).length) := by
        rw [hver]; unfold sealD; simp only [hch, hdsB_len]; rfl
      have hve : (verF (filesB P n R) P n).e = 0 := by rw [hver]
      refine At.gn 10 [false] [hC (.agg { toList := keyC })] rfl (by and_intros <;> first | exact decide_eq_false (by omega) | exact oK) ?_
      refine At.go [] [hC (.agg ⟨keyC⟩)] rfl (by and_intros <;> first | exact fK | exact oK) ?_
      refine At.al fun b6 hb6 => ?_
      refine At.step0 [] rfl rfl rfl rfl trivial (OpOk.storeBlk 0 rfl rfl rfl Tryz.key_cells key_ones rfl (by rw [keyC_len]; decide) ?_)
      rw [key_put rfl]
      refine At.go [] [hK (.agg { toList := keyC }), hB 1] rfl (by and_intros <;> first | exact Tryz.key_ld (i := 0) rfl | exact oK) ?_
      refine At.step [] rfl rfl rfl rfl rfl trivial (OpOk.call rfl (fun w' hw' => Tryz.rFiles_w P n R c3 c4 a cap w' (by omega) (by omega) (by omega) hcap hx3 (hr.ext hw'.ext (by simp [kys]))) ?_)
      rintro _ _ _ ⟨gf, cf, rfl, rfl, rfl⟩
      have hV := fun (w' : World) (h : SlOk w' (svA gf) (fl (filesB P n R))) (h2 : Tryz.Tabs w') => Tryz.Verify_w (filesB P n R) n P c3 c4 (svA gf) cf w' q1 q2 q3 hmay h h2
      have hR2 := fun (w' : World) (h : SlOk w' (svA gf) (fl (filesB P n R))) (h2 : Tryz.Tabs w') => Tryz.vRows_w (filesB P n R) n P c3 c4 (svA gf) cf w' q1 q2 q3 hmay h h2
      rw [hsd, hver] at hV
      rw [hver] at hR2
      have hHs := fun (w' : World) (a' : Option Addr) (c' : Nat) => Tryz.rHash19_w P n (R.length / P) R c3 c4 a' c' w' (by omega) (by omega) hmK
      have hHd := fun (w' : World) (h : SlOk w' a (R.map str)) => Tryz.rHeads_w P n R c3 c4 a cap w' (by omega) (by omega) (by omega) hcap hx3 h
      have hpl := prevB_len (P := P) (n := n) (by omega) R (R.length / P)
      have hTk := List.take_append_drop (R.length / P * P) R
      have htl : (R.take (R.length / P * P)).length ≤ R.length := List.length_take_le' _ _
      have htd : (R.drop (R.length / P * P)).length ≤ R.length := by rw [List.length_drop]; omega
      clear hch hsd
      generalize prevB P n R (R.length / P) = hs at hV hHs hpl
      generalize (hdsB P n R (R.length / P)).flatMap hdC = HC at hHs hHd
      generalize R.length / P = K at *
      generalize R.take (K * P) = R1 at *
      generalize R.drop (K * P) = R2 at *
      generalize filesB P n R = F at *
      refine At.go [] [hK (.agg { toList := keyC }), hB 1] rfl (by and_intros <;> first | exact Tryz.key_ld (i := 0) rfl | exact oK) ?_
      refine At.step [] rfl rfl rfl rfl rfl trivial (OpOk.call rfl (fun w' hw' => hHd w' (hr.ext hw'.ext (by simp [kys]))) ?_)
      rintro _ _ _ ⟨gh, ch, rfl, rfl, rfl⟩
      have fX : ∀ {bx : Bx} {hp : List Seg}, nth hp 0 = some (Seg.row gh 46 6 K ch HC) → CallOb Tryz.prog ⟨w, kys [] []⟩ bx hp 13 [.agg ⟨keyC⟩, .agg ⟨[.int .i64 P, .int .i64 n, .int .i64 c3, .int .i64 c4]⟩, .slice (svA gh) K ch] (str hs) := fun {_ _} h w' hw' =>
        hHs w' (svA gh) ch (SlOk.row (hw'.hp _ (nth_mem h)))
      have fAc : ∀ (x : List UInt8) (s : Int) {bx : Bx} {hp : List Seg}, nth hp 1 = some (Seg.row gf 65 2 F.length cf (fl F)) → CallOb Tryz.prog ⟨w, kys [] []⟩ bx hp 14 [.slice (svA gf) F.length cf, .agg ⟨[.int .i64 P, .int .i64 n, .int .i64 c3, .int .i64 c4]⟩, str x, .int .i64 s] (.bool (decide (hs = x ∧ (K : Int) = s))) := fun x s {_ _} h w' hw' => by
        have := Tryz.Accepts_w F n P c3 c4 x s (hs, K, R1.length) (-1) 0 (svA gf) cf w' fun w2 he => hV w2 ((SlOk.row (hw'.hp _ (nth_mem h))).ext he (by simp)) (Tryz.tabs_ext0 hT (hw'.ext.trans he))
        rwa [show decide ((0 : Int) = 0 ∧ hs = x ∧ (K : Int) = s) = decide (hs = x ∧ (K : Int) = s) by simp] at this
      have fA1 : ∀ {bx : Bx} {hp : List Seg}, nth hp 1 = some (Seg.row gf 65 2 F.length cf (fl F)) → CallOb Tryz.prog ⟨w, kys [] []⟩ bx hp 14 [.slice (svA gf) F.length cf, .agg ⟨[.int .i64 P, .int .i64 n, .int .i64 c3, .int .i64 c4]⟩, str hs, .int .i64 K] (.bool true) := fun {bx hp} h => by
        have := fAc hs K (bx := bx) (hp := hp) h; rwa [decide_eq_true ⟨rfl, rfl⟩] at this
      have fA2 : ∀ {bx : Bx} {hp : List Seg}, nth hp 1 = some (Seg.row gf 65 2 F.length cf (fl F)) → CallOb Tryz.prog ⟨w, kys [] []⟩ bx hp 14 [.slice (svA gf) F.length cf, .agg ⟨[.int .i64 P, .int .i64 n, .int .i64 c3, .int .i64 c4]⟩, str hs, .int .i64 ((K : Int) + 1)] (.bool false) := fun {bx hp} h => by
        have := fAc hs ((K : Int) + 1) (bx := bx) (hp := hp) h; rwa [decide_eq_false (by omega)] at this
      have fA3 : ∀ {bx : Bx} {hp : List Seg}, nth hp 1 = some (Seg.row gf 65 2 F.length cf (fl F)) → CallOb Tryz.prog ⟨w, kys [] []⟩ bx hp 14 [.slice (svA gf) F.length cf, .agg ⟨[.int .i64 P, .int .i64 n, .int .i64 c3, .int .i64 c4]⟩, .string ⟨(bl ⟨hs.toArray⟩ ++ bl ⟨#[120]⟩).toArray⟩, .int .i64 K] (.bool false) := fun {bx hp} h => by
        have := fAc (bl ⟨hs.toArray⟩ ++ bl ⟨#[120]⟩) K (bx := bx) (hp := hp) h; rwa [decide_eq_false (by rw [bl_of]; intro e; have := congrArg List.length e.1; simp [bl] at this)] at this
      refine At.go [false, false, false] [hK (.agg { toList := keyC }), hB 1, hC (.string { data := hs.toArray }), hB 1, hC (.bool true), hB 1, hC (.bool false), hB 1, hC (.bool false), hB 1] rfl (by and_intros <;> first | exact Tryz.key_ld (i := 0) rfl | (rw [bl_of]; simp only [bl]; simp; omega) | exact fX rfl | exact fA1 rfl | exact fA2 rfl | exact fA3 rfl | exact oK) ?_
      refine At.step [] rfl rfl rfl rfl rfl trivial (OpOk.call rfl (fun w' hw' => hR2 w' (SlOk.row (hw'.hp _ (nth_mem (i := 1) rfl))) (Tryz.tabs_ext0 hT hw'.ext)) ?_)
      rintro _ _ _ ⟨g1, k1, g2, k2, rfl, rfl, rfl⟩
      refine At.go [true] [] rfl (by and_intros <;> first | (simp; done) | exact oK) ?_
      refine At.step [true] rfl rfl rfl rfl rfl (by simp) (OpOk.buildNil rfl rfl rfl fun g3 hg3 => ?_)
      refine At.go [true] [] rfl (by and_intros <;> first | (simp; done) | exact oK) ?_
      refine At.step [true] rfl rfl rfl rfl rfl (by simp) (OpOk.appendS (m := R1.length) 0 1 16 (R1.map str) rfl rfl rfl rfl rfl rfl rfl rfl (fun w' hw' => SlOk.row (hw'.hp _ (nth_mem (i := 2) rfl))) (by simp) (fun v hv => by obtain ⟨y, -, rfl⟩ := List.mem_map.1 hv; rfl) (by omega) (by omega) fun a2 c2 => ?_)
      refine At.go [true] [] rfl (by and_intros <;> first | (simp; done) | exact oK) ?_
      refine At.step [true] rfl rfl rfl rfl rfl (by simp) (OpOk.appendS (m := R2.length) 0 1 16 (R2.map str) rfl rfl rfl rfl rfl rfl rfl rfl (fun w' hw' => SlOk.row (hw'.hp _ (nth_mem (i := 1) rfl))) (by simp) (fun v hv => by obtain ⟨y, -, rfl⟩ := List.mem_map.1 hv; rfl) (by omega) (by omega) fun a4 c4 => ?_)
      have e1 : [] ++ R1.map str ++ R2.map str = R.map str := by rw [List.nil_append, ← List.map_append, hTk]
      have e2 : 0 + R1.length + R2.length = R.length := by rw [Nat.zero_add, ← List.length_append, hTk]
      rw [e1, e2]
      have fS : ∀ {bx : Bx} {hp : List Seg}, nth hp 0 = some (Seg.row a4 9 1 R.length c4 (R.map str)) → CallOb Tryz.prog ⟨w, kys [] []⟩ bx hp 16 [.slice (svA a4) R.length c4, .slice a R.length cap] (.bool true) := fun {_ _} h w' hw' => by
        have := Tryz.same03_w R R (svA a4) a c4 cap w' (by omega) (by omega) (SlOk.row (hw'.hp _ (nth_mem h))) (hr.ext hw'.ext (by simp [kys]))
        rwa [decide_eq_true rfl] at this
      refine At.go [true] [hC (.bool true)] rfl (by and_intros <;> first | exact fS rfl | (simp; done) | exact oK) ?_
      refine At.rt [] [] [] Tryz.func3 ?_
      exact ⟨rfl, rfl, rfl⟩
end Go.Proofs

/-
  Walks: lists of strings alike; the statement's example of layer 21.
-/
import Derived.Test.YtkmlfggemhachaaGreatDoorM16
import Derived.Test.YtkmlfggemhachaaGreatDoorM7
import Derived.Test.YtkmlfggemhachaaGreatDoorM32
import Derived.Test.YtkmlfggemhachaaGreatDoorM38
import Derived.Test.YtkmlfggemhachaaGreatDoorM40
import Derived.Test.YtkmlfggemhachaaGreatDoorM37
import Derived.Test.YtkmlfggemhachaaGreatDoorM19
import Derived.Test.YtkmlfggemhachaaGreatDoorM21
import Derived.Test.YtkmlfggemhachaaGreatDoorM17
import Derived.Test.YtkmlfggemhachaaGreatDoorM22
import Derived.Test.YtkmlfggemhachaaGreatDoorM29
import Derived.Test.YtkmlfggemhachaaGreatDoorM11
import Derived.Test.YtkmlfggemhachaaGreatDoorM30
/-
  Walks: lists of strings alike; the statement's example of layer 21.
-/
namespace Go.Proofs
open Go Go.Eng
set_option maxRecDepth 100000
set_option maxHeartbeats 4000000
attribute [local irreducible] Tri

theorem same_no {A B : List (List UInt8)} (hl : A.length = B.length) (h : ∀ j, j < A.length → A[j]? = B[j]?) : A = B := by
  apply List.ext_getElem?
  intro j
  by_cases hj : j < A.length
  · exact h j hj
  · rw [List.getElem?_eq_none (by omega), List.getElem?_eq_none (by omega)]
end Go.Proofs

/-
  Walks of layer 22: the least number of a segment's file above one.
-/
namespace Go.Proofs
open Go Go.Eng
set_option maxRecDepth 100000
set_option maxHeartbeats 4000000
attribute [local irreducible] Tri

def encN (x : Int) : List Value := [.int .i64 x]
def segY (s : List UInt8) : List Int := if (kindB s).1 = 1 then [(kindB s).2.1] else []
theorem Tryz.segments_w (s : List UInt8) (w : World) : Tri Tryz.prog 110 [str s] w [] (fun v bx hp => ∃ b, v = .func (.func 143) #[] #[.pointer (some ⟨b, 0, none⟩)] ∧ bx = [(b, 9, [str s])] ∧ hp = []) := by
  refine Tri.enter (bx := []) (hp := []) Tryz.func110 rfl (by kernel_rfl) rfl (Own.nil w) ?_
  refine At.go [] [] rfl oK ?_
  refine At.bo fun b1 hb1 => ?_
  refine At.go [] [] rfl oK ?_
  refine At.rt [true] [] [] Tryz.func110 ?_
  exact ⟨_, rfl, rfl, rfl⟩
theorem Tryz.segs1_w (s : List UInt8) (b : Nat) (w : World) (hl : s.length ≤ 9223372036854775807) :
    Iter Tryz.prog 143 [.pointer (some ⟨b, 0, none⟩)] [(b, 9, [str s])] [] encN (segY s) w := by
  intro y s0 J hJ hown hfree hyield
  obtain ⟨kd, n, ok, hK⟩ : ∃ kd n ok, kindB s = (kd, n, ok) := ⟨_, _, _, rfl⟩
  have fC : ∀ {S : Base} {bx : Bx} {hp : List Seg}, CallOb Tryz.prog S bx hp 144 [str s] (.tuple #[.int .i64 kd, .int .i64 n, .bool ok]) := fun {_ _ _} w' _ => by
    have := Tryz.shKind_w s w' hl; rwa [hK] at this
  have hY : segY s = if kd = 1 then [n] else [] := by unfold segY; rw [hK]
  rw [hY] at hyield ⊢
  clear hY hK
  refine Tri.enter Tryz.func143 rfl (by kernel_rfl) rfl hown ?_
  by_cases hk : kd = 1
  · rw [if_pos hk] at hyield ⊢
    refine At.go [true] [hB 0, hC (.tuple ⟨[.int .i64 kd, .int .i64 n, .bool ok]⟩)] rfl (by and_intros <;> first | exact fC | exact decide_eq_true hk | exact oK) ?_
    refine At.yield [] rfl rfl rfl rfl rfl trivial (lp := y) (args := encN n) rfl [] [true] (bm := []) (hm := [s0]) (br := [(b, 9, [str s])]) (hr := []) (Q := fun bx hp => bx = [] ∧ ∃ s', hp = [s'] ∧ J ([] ++ [n]) s') rfl
      (fun w' hw' => hyield [] n s0 w' (List.prefix_rfl) hJ (Own.tailF hw'.toOwn) hw'.ext) ?_
    rintro _ _ ⟨rfl, s', rfl, hJ'⟩
    refine At.go [] [] rfl oK ?_
    refine At.rt [true] [true] [] Tryz.func143 ?_
    exact ⟨rfl, s', rfl, hJ'⟩
  · rw [if_neg hk]
    refine At.go [false] [hB 0, hC (.tuple ⟨[.int .i64 kd, .int .i64 n, .bool ok]⟩)] rfl (by and_intros <;> first | exact fC | exact decide_eq_false hk | exact oK) ?_
    refine At.rt [true] [true] [] Tryz.func143 ?_
    exact ⟨rfl, s0, rfl, hJ⟩
theorem Tryz.further_w (S : FL) (k : Int) (fa : Option Addr) (fc bv : Nat) (rv : List Value) (w : World) (hlen : S.length ≤ 60) (hns : ∀ p, p ∈ S → p.1.length ≤ 9223372036854775807) (hk0 : 0 ≤ k) (hfr : SlOk w fa (fl S)) (hv : SlOk w (some ⟨bv, 0, none⟩) (.slice fa S.length fc :: rv)) :
    Fun Tryz.prog 68 [.pointer (some ⟨bv, 0, none⟩), .int .i64 k] w (.int .i64 (nxtL k (kindsF 1 S))) := by
  have fL : ∀ {bx : Bx} {hp : List Seg}, CallOb Tryz.prog ⟨w, kys [] []⟩ bx hp 109 [.slice fa S.length fc] (.int .i64 (lastF S)) := fun {_ _} w' hw' => Tryz.imLast_w S fa fc w' hlen (hfr.ext hw'.ext (by simp [kys])) hns
  have h0 : ∀ x, x ∈ kindsF 1 S → 0 ≤ x := fun x hx => (kindsF_in hx).1
  refine Tri.enter (bx := []) (hp := []) Tryz.func68 rfl (by kernel_rfl) rfl (Own.nil w) ?_
  by_cases hle : lastF S ≤ k
  · have e := nxt_none h0 (by rw [← lastF_max]; exact hle)
    refine At.go [] [] rfl (by and_intros <;> first | exact rdS hv 0 rfl | exact fL | exact decide_eq_true hle | exact oK) ?_
    refine At.bo fun b3 hb3 => ?_
    refine At.go [true] [hR [.slice fa (List.length S) fc], hC (.int .i64 (lastF S)), hB 0] rfl (by and_intros <;> first | exact rdS hv 0 rfl | exact fL | exact decide_eq_true hle | exact oK) ?_
    rw [e]
    refine At.rt [false] [] [] Tryz.func68 ?_
    exact ⟨rfl, rfl, rfl⟩
  have hm := minK_nxt h0 (by rw [← lastF_max]; omega) hk0
  rw [← lastF_max] at hm
  refine At.go [] [] rfl (by and_intros <;> first | exact rdS hv 0 rfl | exact fL | exact decide_eq_false hle | exact oK) ?_
  refine At.bo fun b3 hb3 => ?_
  refine At.go [false] [hR [.slice fa (List.length S) fc], hC (.int .i64 (lastF S)), hB 0] rfl (by and_intros <;> first | exact rdS hv 0 rfl | exact fL | exact decide_eq_false hle | exact oK) ?_
  refine At.al fun b6 hb6 => ?_
  refine At.go [] [hB 0, hR [.slice fa (List.length S) fc]] rfl (by and_intros <;> first | exact rdS hv 0 rfl | exact fL | exact decide_eq_false hle | exact oK) ?_
  refine At.noMarks ?_
  refine At.loopC (n := S.length) (env0 := [(3, .pointer (some ⟨b3, 0, none⟩)), (6, .pointer (some ⟨b6, 0, none⟩)), (22, .slice fa S.length fc), (23, .int .i64 (S.length : Int)), (24, .int .i64 0)]) (fun m_ Ds env bx hp => ∃ i : Nat, m_ = S.length - i ∧ i ≤ S.length ∧ env = [(3, .pointer (some ⟨b3, 0, none⟩)), (6, .pointer (some ⟨b6, 0, none⟩)), (22, .slice fa S.length fc), (23, .int .i64 (S.length : Int)), (24, .int .i64 (i : Int))] ∧ bx = [(b6, 3, [.int .i64 (minK k (lastF S) (kindsF 1 (S.take i)))]), (b3, 3, [.int .i64 k])] ∧ hp = [Seg.marks Ds]) rfl
    ⟨0, by omega, by omega, rfl, rfl, rfl⟩ sB ?_
  rintro m_ Ds env bx hp ⟨i, rfl, hi, rfl, rfl, rfl⟩ ih
  by_cases hlt : i < S.length
  · obtain ⟨p, hp⟩ : ∃ p, S[i]? = some p := ⟨_, List.getElem?_eq_getElem hlt⟩
    obtain ⟨g, o, rfl, hc⟩ := hfr.get (fl_ne (by intro h; rw [h] at hlt; simp at hlt))
    have rE : ∀ {bx : Bx} {hp : List Seg}, RdW ⟨w, kys [] []⟩ bx hp g (o + (i : Int).toNat * 2) [str p.1, str p.2] := fun {_ _} => RdW.fileE hc (by simp [kys]) hp (by omega)
    have hsn : kindsF 1 (S.take (i + 1)) = kindsF 1 (S.take i) ++ segY p.1 := by rw [List.take_add_one, hp]; exact kindsF_snoc 1 _ p
    refine At.go [true] [hR [.string { data := p.fst.toArray }, .string { data := p.snd.toArray }]] rfl (by and_intros <;> first | exact rE | exact decide_eq_true (by omega) | exact oK) ?_
    refine At.al fun b8 hb8 => ?_
    refine At.go [] [hB 0, hB 0] rfl (by and_intros <;> first | exact rE | exact decide_eq_true (by omega) | exact oK) ?_
    refine At.step [] rfl rfl rfl rfl rfl trivial (OpOk.call rfl (fun w' _ => Tryz.segments_w p.1 w') ?_)
    rintro _ _ _ ⟨b, rfl, rfl, rfl⟩
    refine At.go [] [] rfl oK ?_
    refine At.rangeI (bi := [(b, 9, [str p.1])]) (bc := [(b8, 71, [str p.1, str p.2]), (b6, 3, [.int .i64 (minK k (lastF S) (kindsF 1 (S.take i)))]), (b3, 3, [.int .i64 k])]) (hp := [Seg.marks Ds]) rfl rfl rfl (rd := []) (by simp) (enc := encN) (xs := segY p.1) (fun _ => rfl) rfl
      (fun pre bx hp => bx = [(b8, 71, [str p.1, str p.2]), (b6, 3, [.int .i64 (minK k (lastF S) (kindsF 1 (S.take i) ++ pre))]), (b3, 3, [.int .i64 k])] ∧ hp = [Seg.marks Ds]) ⟨by rw [List.append_nil], rfl⟩ (fun w' _ => Tryz.segs1_w p.1 b w' (hns p (List.mem_of_getElem? hp))) ?_ ?_
    · rintro lp D tm pre x bx hp w' hpre ⟨rfl, rfl⟩ hext
      have hmk := minK_snoc k (lastF S) (kindsF 1 (S.take i) ++ pre) x
      rw [List.append_assoc] at hmk
      refine At.run 100 true [] [] rfl trivial ?_
      refine At.begin ?_
      by_cases hx : k < x
      · rw [if_pos hx] at hmk
        refine At.go [true] [hB 2, hB 1, hB 1] rfl (by and_intros <;> first | exact decide_eq_true hx | exact oK) ?_

        exact At.roundEnd ⟨_, rfl, by rw [hmk], rfl⟩
      · rw [if_neg hx] at hmk
        refine At.go [false] [hB 2] rfl (by and_intros <;> first | exact decide_eq_false hx | exact oK) ?_
        exact At.roundEnd ⟨_, rfl, by rw [hmk], rfl⟩
    · rintro D bx' hp' ⟨rfl, rfl⟩
      refine At.markIn (hp := []) ?_
      refine At.go [] [] rfl oK ?_
      refine At.keep [false, false, true, true] [true] rfl ?_
      rw [← hsn]
      exact At.weak (ih (S.length - (i + 1)) _ _ _ _ (by omega) ⟨i + 1, rfl, by omega, rfl, rfl, rfl⟩) sB
  · obtain rfl : i = S.length := by omega
    rw [List.take_length, hm.1]
    refine At.go [false] [hB 0] rfl (by and_intros <;> first | exact decide_eq_false (by omega) | exact oK) ?_
    exact At.retCs [false, false] [] [] Tryz.func68 rfl trivial rfl ⟨rfl, rfl, rfl⟩
end Go.Proofs

/-
  Walks of layer 22: all that a verifier looks at.
-/
namespace Go.Proofs
open Go Go.Eng
set_option maxRecDepth 100000
set_option maxHeartbeats 4000000
attribute [local irreducible] Tri

theorem hdG_may {r : List UInt8} {n : Int} (h : (hdG r n).2 = 0) : mayH (hdG r n).1 n = true := by
  unfold hdG at h ⊢
  split
  · rename_i h1; rw [if_pos h1] at h; exact absurd h h1
  · rename_i h1
    rw [if_neg h1] at h
    split
    · rename_i h2; rw [if_pos h2] at h; exact absurd h (by decide)
    · rename_i h2
      cases hm : mayH (hdR r n).h n with
      | true => rfl
      | false => exact absurd (Or.inr hm) h2
theorem hsB_may {n : Int} : ∀ {l : List (List UInt8)} {x : HdB}, x ∈ (hsB n l).1 → mayH x n = true
  | [], x, h => by simp [hsB] at h
  | r :: l, x, h => by
    by_cases he : (hdG r n).2 = 0
    · rw [hsB_ok he] at h
      rcases List.mem_cons.1 h with rfl | h
      · exact hdG_may he
      · exact hsB_may h
    · rw [hsB_bad he] at h; simp at h
theorem headsF_may {S : FL} {n : Int} {x : HdB} (h : x ∈ (headsF S n).1) : mayH x n = true := by
  unfold headsF at h
  split at h
  · exact hsB_may h
  · simp at h
theorem headsF_few {S : FL} {n : Int} (h : ∀ p, p ∈ S → p.2.length ≤ 6000) : (headsF S n).1.length ≤ 6000 := by
  unfold headsF
  split
  · have h1 := hsB_len n (frowsB (readN S headsB))
    have h2 := (scan_len (readN S headsB)).1
    have h3 := readF_len (n := headsB) h
    have h4 : (frowsB (readN S headsB)).length = (scan (readN S headsB)).length := by unfold frowsB; rw [List.length_map]
    simp only; omega
  · exact Nat.zero_le _
theorem rowsK_len {S : FL} (h : ∀ p, p ∈ S → p.2.length ≤ 6000) : ∀ k, (rowsK S k).length ≤ 6000 * k
  | 0 => by simp [rowsK]
  | k + 1 => by
    rw [rowsK_succ, List.length_append]
    have := rowsK_len h k
    have := segF_few (k := k) h
    omega
theorem Tryz.run12_w (b : Bool) (b6 : Nat) (w : World) (h6 : SlOk w (some ⟨b6, 0, none⟩) [.bool b]) : Fun Tryz.prog 65 [.pointer (some ⟨b6, 0, none⟩)] w (.bool b) ∧ Fun Tryz.prog 66 [.pointer (some ⟨b6, 0, none⟩)] w (.bool b) := by
  constructor
  · refine Tri.enter (bx := []) (hp := []) Tryz.func65 rfl (by kernel_rfl) rfl (Own.nil w) ?_
    refine At.go [] [hR [.bool b]] rfl (by and_intros <;> first | exact rdS h6 0 rfl | exact oK) ?_
    refine At.rt [] [] [] Tryz.func65 ?_
    exact ⟨rfl, rfl, rfl⟩
  · refine Tri.enter (bx := []) (hp := []) Tryz.func66 rfl (by kernel_rfl) rfl (Own.nil w) ?_
    refine At.go [] [hR [.bool b]] rfl (by and_intros <;> first | exact rdS h6 0 rfl | exact oK) ?_
    refine At.rt [] [] [] Tryz.func66 ?_
    exact ⟨rfl, rfl, rfl⟩
theorem Tryz.run3_w (ra : Option Addr) (m rc : Nat) (fv : Value) (rv : List Value) (c1 : Int) (b10 b1 bv : Nat) (w : World) (h10 : SlOk w (some ⟨b10, 0, none⟩) [.slice ra m rc]) (h1 : SlOk w (some ⟨b1, 0, none⟩) [.pointer (some ⟨bv, 0, none⟩)]) (hv : SlOk w (some ⟨bv, 0, none⟩) (fv :: .int .i64 c1 :: rv)) :
    Fun Tryz.prog 67 [.pointer (some ⟨b10, 0, none⟩), .pointer (some ⟨b1, 0, none⟩)] w (.bool (decide ((m : Int) < c1))) := by
  refine Tri.enter (bx := []) (hp := []) Tryz.func67 rfl (by kernel_rfl) rfl (Own.nil w) ?_
  refine At.go [] [] rfl (by and_intros <;> first | exact rdS h10 0 rfl | exact rdS h1 0 rfl | exact rdS hv 1 rfl | exact oK) ?_
  refine At.qt [] [hR [.slice ra m rc], hR [.pointer (some ⟨bv, 0, none⟩)], hR [.int .i64 c1]] rfl rfl (by and_intros <;> first | exact rdS h10 0 rfl | exact rdS h1 0 rfl | exact rdS hv 1 rfl | exact oK) ?_
  refine At.go [] [] rfl (by and_intros <;> first | exact rdS h10 0 rfl | exact rdS h1 0 rfl | exact rdS hv 1 rfl | exact oK) ?_
  refine At.rt [] [] [] Tryz.func67 ?_
  exact ⟨rfl, rfl, rfl⟩
theorem not_sub {q : Nat} {bx bm : Bx} {hp hm : List Seg} (h : q ∉ kys bx hp) (hs : ∀ k, k ∈ kys bm hm → k ∈ kys bx hp) : q ∉ kys bm hm := fun hc => h (hs q hc)
theorem mem_slR_sv {q : Nat} {a : Option Nat} {xs : List Value} (h : q ∈ slR (svA a) xs) : a = some q := by
  cases xs with
  | nil => simp [slR] at h
  | cons x l =>
    cases a with
    | none => simp [slR, slB, svA] at h
    | some g => simp [slR, slB, svA] at h; rw [h]
theorem kys_in {b6 b1 bv t6 t1 tv tm : Nat} {c6 c1 cv cm : List Value} (g gh : Option Nat) {tr th sz n c nh ch : Nat} {xs ys : List Value} : ∀ z, z ∈ kys [(bv, tm, cm)] [Seg.row g tr sz n c xs] → z ∈ kys [(b6, t6, c6), (b1, t1, c1), (bv, tv, cv)] [Seg.row g tr sz n c xs, Seg.row gh th 6 nh ch ys] := by
  intro z hz
  simp only [kys, Seg.row, List.map_cons, List.map_nil, List.flatMap_cons, List.flatMap_nil, List.append_nil, List.mem_append, List.mem_cons, List.not_mem_nil, or_false] at hz ⊢
  rcases hz with h | h
  · exact .inl (.inr (.inr h))
  · exact .inr (.inl h)
theorem kys_out {q b6 b1 bv t6 t1 tv tm : Nat} {c6 c1 cv cm : List Value} {g gh : Option Nat} {tr th sz n c nh ch : Nat} {xs ys : List Value} (h : (kys [(b6, t6, c6), (b1, t1, c1), (bv, tv, cv)] [Seg.row g tr sz n c xs, Seg.row gh th 6 nh ch ys]).Nodup) (hq : gh = some q) : q ∉ kys [(bv, tm, cm)] [Seg.row g tr sz n c xs] := by
  subst hq
  intro hz
  simp only [kys, Seg.row, List.map_cons, List.map_nil, List.flatMap_cons, List.flatMap_nil, List.append_nil, List.mem_append, List.mem_cons, List.not_mem_nil, or_false] at hz
  simp only [kys, Seg.row, List.map_cons, List.map_nil, List.flatMap_cons, List.flatMap_nil, List.append_nil, Option.toList_some] at h
  rw [← List.append_assoc] at h
  exact (List.nodup_append.1 h).2.2 q (by rcases hz with rfl | hz; · simp
                                          · simp [hz]) q (by simp) rfl
def Tryz.looks3 (c1 : Int) (just wh : Bool) (m b6 b11 b10 b1 : Nat) : List LookE :=
  [(65, [.pointer (some ⟨b6, 0, none⟩)], just, 3), (66, [.pointer (some ⟨b11, 0, none⟩)], wh, 3), (67, [.pointer (some ⟨b10, 0, none⟩), .pointer (some ⟨b1, 0, none⟩)], decide ((m : Int) < c1), 11)]
/-- What a run tells. -/
def Tryz.RunQ (S : FL) (c1 c3 c4 : Int) (n : Nat) (fa : Option Addr) (fc bv : Nat) (v : Value) (bx : Bx) (hp : List Seg) : Prop :=
  ((verF S c1 n).e ≠ 0 ∧ v = .tuple #[.slice none 0 0, .int .i64 (verF S c1 n).at_, .int .i64 (verF S c1 n).e] ∧ (∃ cs, bx = [(bv, 74, cs)]) ∧ hp = []) ∨
  ((verF S c1 n).e = 0 ∧ ∃ (gh : Option Nat) (hc : Nat) (g : Option Nat) (c : Nat) (gt : Option Nat) (tc : Nat), v = .tuple #[sv gt (verF S c1 n).T.length tc, .int .i64 (verF S c1 n).at_, .int .i64 0] ∧ bx = [(bv, 74, [.slice fa S.length fc, .int .i64 c1, .int .i64 n, .int .i64 c3, .int .i64 c4, sv gh (verF S c1 n).H.length hc, sv g (verF S c1 n).R.length c])] ∧
    hp = [Seg.row gt 9 1 (verF S c1 n).T.length tc ((verF S c1 n).T.map str), Seg.row g 9 1 (verF S c1 n).R.length c ((verF S c1 n).R.map str), Seg.row gh 55 6 (verF S c1 n).H.length hc ((verF S c1 n).H.flatMap hdC)])
theorem verF_hit {S : FL} {per : Int} {n k : Nat} (h : fstE (segE S per n (headsF S n).1) (headsF S n).1.length 0 = some k) : verF S per n = ⟨[], [], [], k, segE S per n (headsF S n).1 k⟩ := by unfold verF; rw [h]
theorem verF_end {S : FL} {per : Int} {n : Nat} (h : fstE (segE S per n (headsF S n).1) (headsF S n).1.length 0 = none) : verF S per n =
    if (headsF S n).2 = false ∨ (segF S (headsF S n).1.length).2 = false then ⟨[], [], [], (headsF S n).1.length, 3⟩ else
    if per ≤ (segF S (headsF S n).1.length).1.length then ⟨[], [], [], (headsF S n).1.length, 11⟩ else
    if 0 ≤ nxtL (headsF S n).1.length (kindsF 1 S) then ⟨[], [], [], nxtL (headsF S n).1.length (kindsF 1 S), 4⟩ else
    ⟨(headsF S n).1, rowsK S (headsF S n).1.length, (segF S (headsF S n).1.length).1, -1, 0⟩ := by unfold verF; rw [h]
theorem Tryz.run_w (S : FL) (n : Nat) (c1 c3 c4 : Int) (fa : Option Addr) (fc bv : Nat) (w : World) (hlen : S.length ≤ 60) (hSb : ∀ p, p ∈ S → p.2.length ≤ 6000) (hns : ∀ p, p ∈ S → p.1.length ≤ 9223372036854775807) (hn : 1 ≤ n ∧ n ≤ 32) (hfr : SlOk w fa (fl S)) (hT : Tryz.Tabs w)
    (hown : Own [(bv, 74, [.slice fa S.length fc, .int .i64 c1, .int .i64 n, .int .i64 c3, .int .i64 c4, .slice none 0 0, .slice none 0 0])] [] w) (hd1 : ∀ q, q ∈ slR fa (fl S) → q ≠ bv) (hd3 : ∀ q, q ∈ Tryz.tabG → q ≠ bv) :
    Tri Tryz.prog 34 [.pointer (some ⟨bv, 0, none⟩)] w [bv] (Tryz.RunQ S c1 c3 c4 n fa fc bv) := by
  have hHf := headsF_few (n := (n : Int)) hSb
  have hHm : ∀ x, x ∈ (headsF S n).1 → x.p.length ≤ 9223372036854775807 ∧ x.r.length ≤ 9223372036854775807 := fun x hx => by have := mayH_in (headsF_may hx); omega
  have hfB : ∀ q, q ∈ slR fa (fl S) → q ∉ kys [(bv, 74, [.slice fa S.length fc, .int .i64 c1, .int .i64 n, .int .i64 c3, .int .i64 c4, .slice none 0 0, .slice none 0 0])] [] := fun q hq => by simpa [kys] using hd1 q hq
  have htB : ∀ q, q ∈ Tryz.tabG → q ∉ kys [(bv, 74, [.slice fa S.length fc, .int .i64 c1, .int .i64 n, .int .i64 c3, .int .i64 c4, .slice none 0 0, .slice none 0 0])] [] := fun q hq => by simpa [kys] using hd3 q hq
  have hflt := hfr.ltR
  have htlt := Tryz.tabs_lt hT
  unfold Tryz.RunQ
  obtain ⟨X, hX⟩ : ∃ X, verF S c1 n = X := ⟨_, rfl⟩
  rw [hX]
  obtain ⟨H, hH⟩ : ∃ H, (headsF S n).1 = H := ⟨_, rfl⟩
  obtain ⟨just, hj⟩ : ∃ j, (headsF S n).2 = j := ⟨_, rfl⟩
  rw [hH] at hHf hHm
  have fHd := fun (w' : World) (hr : SlOk w' fa (fl S)) => Tryz.imHeaders_w S c1 n c3 c4 fa fc w' hlen hSb hr
  rw [hH, hj] at fHd
  have hX1 := fun k => verF_hit (S := S) (per := c1) (n := n) (k := k)
  have hX2 := verF_end (S := S) (per := c1) (n := n)
  simp only [hH, hX] at hX1
  rw [hH, hX, hj] at hX2
  refine Tri.enter Tryz.func34 rfl (by kernel_rfl) rfl hown ?_
  refine At.go [] [] rfl oK ?_
  refine At.bo fun b1 hb1 => ?_
  refine At.gn 3 [] [] rfl oK ?_
  refine At.cutS (ι := Nat × Option Nat × Nat) ⟨0, [0, 1, 1], []⟩ (fun e => [(1, .pointer (some ⟨b1, 0, none⟩)), (5, sv e.2.1 H.length e.2.2), (6, .pointer (some ⟨e.1, 0, none⟩))])
    (fun e => [(e.1, 4, [.bool just]), (b1, 72, [.pointer (some ⟨bv, 0, none⟩)]), (bv, 74, [.slice fa S.length fc, .int .i64 c1, .int .i64 n, .int .i64 c3, .int .i64 c4, .slice none 0 0, .slice none 0 0])])
    (fun e => [Seg.row e.2.1 55 6 H.length e.2.2 (H.flatMap hdC)]) ?_ fun hk0 => ?_
  rotate_left
  · refine At.dr 15 ?_
    refine AtH.readsK [true, true] [] [0, 1, 2, 3, 4, 5, 6, 7] [hB 0, hB 1, hB 0, hB 1] rfl rfl (by and_intros <;> first | exact trivial | exact oK) rfl rfl (fuel := 7) ?_
    refine AtH.fork2 8 12 (by kernel_rfl) rfl rfl rfl rfl rfl rfl (OpOk.call rfl (fun w' hw' => fHd w' (SlOk.extR hfr hw'.ext hfB)) ?_) (OpOk.alloc rfl rfl fun b12 hb12 => ⟨fun w hw => hw.selK [false, true, true] [], ?_⟩)
    · rintro _ _ _ ⟨gh, hc, rfl, rfl, rfl⟩
      refine ⟨fun w hw => hw.selK [true, true] [false], ?_⟩
      refine AtH.reK [9, 10, 11] [] rfl oK rfl rfl (fuel := 3) ?_
      refine AtH.f1 12 rfl (OpOk.alloc rfl rfl fun b12 hb12 => ⟨fun w hw => hw.selK [false, true, true] [false], ?_⟩)
      refine AtH.reK [13] [] rfl oK rfl rfl (fuel := 1) ?_
      refine AtH.f1 14 rfl (OpOk.one true [] [hB 0] rfl ⟨rfl, rfl⟩ ⟨fun w hw => hw.selK [false, true, true] [false], ?_⟩)
      refine AtH.dn ?_
      refine At.gn 2 [] [hB 1, hB 2] rfl (by and_intros <;> first | exact trivial | exact oK) ?_
      exact At.weak (hk0 (b12, gh, hc)) sB
    · refine AtH.f1 8 rfl (OpOk.call rfl (fun w' hw' => fHd w' (SlOk.extR hfr hw'.ext hfB)) ?_)
      rintro _ _ _ ⟨gh, hc, rfl, rfl, rfl⟩
      refine ⟨fun w hw => hw.selK [false, true, true] [false], ?_⟩
      refine AtH.reK [9, 10, 11, 13] [] rfl oK rfl rfl (fuel := 1) ?_
      refine AtH.f1 14 rfl (OpOk.one true [] [hB 0] rfl ⟨rfl, rfl⟩ ⟨fun w hw => hw.selK [false, true, true] [false], ?_⟩)
      refine AtH.dn ?_
      refine At.gn 2 [] [hB 1, hB 2] rfl (by and_intros <;> first | exact trivial | exact oK) ?_
      exact At.weak (hk0 (b12, gh, hc)) sB
  rintro ⟨b6, gh, hc⟩
  dsimp only
  refine At.rowCap 0 rfl fun hcap => ?_
  refine At.go [] [hB 1, hB 2] rfl (by and_intros <;> first | exact trivial | exact oK) ?_
  refine At.nilRow 9 1 ?_
  refine At.loop (env0 := [(1, .pointer (some ⟨b1, 0, none⟩)), (5, .slice (svA gh) H.length hc), (6, .pointer (some ⟨b6, 0, none⟩)), (31, .int .i64 ↑H.length), (32, .int .i64 0)]) (fun m_ env bx hp => ∃ (k : Nat) (R : List (List UInt8)) (g : Option Nat) (c : Nat), m_ = H.length - k ∧ (k ≤ H.length) ∧ (R = rowsK S k) ∧ (fstE (segE S c1 n H) H.length 0 = fstE (segE S c1 n H) (H.length - k) k) ∧ env = [(1, .pointer (some ⟨b1, 0, none⟩)), (5, .slice (svA gh) H.length hc), (6, .pointer (some ⟨b6, 0, none⟩)), (31, .int .i64 ↑H.length), (32, .int .i64 k)] ∧ bx = [(b6, 4, [.bool just]), (b1, 72, [.pointer (some ⟨bv, 0, none⟩)]), (bv, 74, [.slice fa S.length fc, .int .i64 c1, .int .i64 n, .int .i64 c3, .int .i64 c4, sv gh H.length hc, sv g R.length c])] ∧ hp = [Seg.row g 9 1 R.length c (R.map str), Seg.row gh 55 6 H.length hc (List.flatMap hdC H)]) rfl
    ⟨0, [], none, 0, rfl, (by omega), (rfl), (rfl), rfl, rfl, rfl⟩ sB ?_
  rintro m_ env bx hp ⟨k, R, g, c, rfl, hk, hR, hf, rfl, rfl, rfl⟩ ih
  have hRl : R.length ≤ 36000000 := by have := rowsK_len hSb k; rw [← hR] at this; omega
  by_cases hlt : k < H.length
  · refine At.go [true] [hB 1] rfl (by and_intros <;> first | exact decide_eq_true (by omega) | exact oK) ?_
    refine At.step [] rfl rfl rfl rfl rfl trivial (OpOk.callO [false, false, true] [true, false] rfl rfl (fun w' hw' ho => Tryz.sealed_w S H R k n c1 c3 c4 fa (svA gh) fc hc g c bv w' hlen hSb hlt hcap hHf hHm hn (by omega) (SlOk.extR hfr hw'.ext hfB) (SlOk.row (hw'.hp _ (nth_mem (i := 1) rfl))) (Tryz.tabs_ext hT hw'.ext htB) ho ?_ ?_ ?_) ?_)
    · exact fun q hq => not_sub (WOk.free hw' (hflt q hq) (hfB q hq)) (kys_in g gh)
    · exact fun q hq => kys_out hw'.nd (mem_slR_sv hq)
    · exact fun q hq => not_sub (WOk.free hw' (htlt q hq) (htB q hq)) (kys_in g gh)
    rintro _ _ _ ⟨g2, c2, rfl, rfl, rfl⟩
    by_cases he : segE S c1 n H k = 0
    · refine At.go [false] [] rfl (by and_intros <;> first | exact decide_eq_false (by omega) | (simp [he]; done) | exact oK) ?_
      refine At.order [2, 2] [] rfl rfl ?_
      exact At.weak (ih _ _ _ _ (by omega) ⟨k + 1, R ++ (segF S k).1, g2, c2, rfl, by omega, by rw [hR, rowsK_succ], by rw [hf, fstE_step hlt he], rfl, rfl, rfl⟩) sB
    · refine At.go [true] [] rfl (by and_intros <;> first | exact decide_eq_true (by omega) | (simp [he]; done) | exact oK) ?_
      rw [hX1 k (by rw [hf]; exact fstE_hit hlt he)]
      refine At.rt [true, false, false] [false, false] [] Tryz.func34 ?_
      exact .inl ⟨he, rfl, ⟨_, rfl⟩, rfl⟩
  · obtain rfl : k = H.length := by omega
    have hXe := hX2 (by rw [hf]; exact fstE_end _ _)
    refine At.go [false] [hB 1, hB 2] rfl (by and_intros <;> first | exact decide_eq_false (by omega) | exact oK) ?_
    refine At.step [] rfl rfl rfl rfl rfl trivial (OpOk.call rfl (fun w' hw' => Tryz.imSegment_w S H.length fa fc w' hlen hSb (SlOk.extR hfr hw'.ext hfB) (by simp only [inK]; omega) (Tryz.tabs_ext hT hw'.ext htB).2) ?_)
    rintro _ _ _ ⟨gt, tc, rfl, rfl, rfl⟩
    obtain ⟨tl, htl⟩ : ∃ tl, (segF S H.length).1 = tl := ⟨_, rfl⟩
    obtain ⟨wh, hwh⟩ : ∃ wh, (segF S H.length).2 = wh := ⟨_, rfl⟩
    rw [htl, hwh] at hXe ⊢
    have htf := segF_few (k := (H.length : Int)) hSb
    rw [htl] at htf
    refine At.go [] [] rfl (by and_intros <;> first | exact trivial | exact oK) ?_
    refine At.al fun b10 hb10 => ?_
    refine At.al fun b11 hb11 => ?_
    refine At.go [] [hB 1, hB 0] rfl (by and_intros <;> first | exact trivial | exact oK) ?_
    refine At.step [] rfl rfl rfl rfl rfl trivial (OpOk.buildSlice rfl rfl rfl rfl rfl rfl rfl (fun bs hbs => ?_))
    have fF : ∀ {bx : Bx} {hp : List Seg}, nth bx 0 = some (bs, 113, (Tryz.looks3 c1 just wh tl.length b6 b11 b10 b1).flatMap lookC) → nth bx 1 = some (b11, 4, [.bool wh]) → nth bx 2 = some (b10, 41, [sv gt tl.length tc]) → nth bx 3 = some (b6, 4, [.bool just]) → nth bx 4 = some (b1, 72, [.pointer (some ⟨bv, 0, none⟩)]) → nth bx 5 = some (bv, 74, [.slice fa S.length fc, .int .i64 c1, .int .i64 n, .int .i64 c3, .int .i64 c4, sv gh H.length hc, sv g R.length c]) →
        CallOb Tryz.prog ⟨w, kys [(bv, 74, [.slice fa S.length fc, .int .i64 c1, .int .i64 n, .int .i64 c3, .int .i64 c4, .slice none 0 0, .slice none 0 0])] []⟩ bx hp 64 [.slice (some ⟨bs, 0, none⟩) 3 3] (.int .i64 (fstL (Tryz.looks3 c1 just wh tl.length b6 b11 b10 b1))) := fun {_ _} q0 q1 q2 q3 q4 q5 w' hw' => by
      refine Tryz.first_w (Tryz.looks3 c1 just wh tl.length b6 b11 b10 b1) (some ⟨bs, 0, none⟩) 3 w' (by show 3 ≤ 1000; decide) (SlOk.blk (hw'.bx _ (nth_mem q0))) ?_
      intro i y hy hok w2 he
      rcases i with _ | _ | _ | i
      · cases hy
        exact (Tryz.run12_w just b6 w2 ((SlOk.blk (hw'.bx _ (nth_mem q3))).ext he (by simp))).1
      · cases hy
        exact (Tryz.run12_w wh b11 w2 ((SlOk.blk (hw'.bx _ (nth_mem q1))).ext he (by simp))).2
      · cases hy
        exact Tryz.run3_w _ _ tc _ _ c1 b10 b1 bv w2 ((SlOk.blk (hw'.bx _ (nth_mem q2))).ext he (by simp)) ((SlOk.blk (hw'.bx _ (nth_mem q4))).ext he (by simp)) ((SlOk.blk (hw'.bx _ (nth_mem q5))).ext he (by simp))
      · exact absurd (List.getElem?_eq_some_iff.1 hy).1 (by simp [Tryz.looks3])
    have fU : ∀ {bx : Bx} {hp : List Seg}, nth bx 5 = some (bv, 74, [.slice fa S.length fc, .int .i64 c1, .int .i64 n, .int .i64 c3, .int .i64 c4, sv gh H.length hc, sv g R.length c]) → CallOb Tryz.prog ⟨w, kys [(bv, 74, [.slice fa S.length fc, .int .i64 c1, .int .i64 n, .int .i64 c3, .int .i64 c4, .slice none 0 0, .slice none 0 0])] []⟩ bx hp 68 [.pointer (some ⟨bv, 0, none⟩), .int .i64 H.length] (.int .i64 (nxtL H.length (kindsF 1 S))) := fun {_ _} h w' hw' =>
      Tryz.further_w S H.length fa fc bv _ w' hlen hns (by omega) (SlOk.extR hfr hw'.ext hfB) (SlOk.blk (hw'.bx _ (nth_mem h)))
    by_cases h1 : just = false ∨ wh = false
    · rw [if_pos h1] at hXe
      have e : fstL (Tryz.looks3 c1 just wh tl.length b6 b11 b10 b1) = 3 := by cases just <;> cases wh <;> first | rfl | (simp at h1; done)
      rw [e] at fF
      refine At.go [true] [hC (.int .i64 3)] rfl (by and_intros <;> first | exact fF rfl rfl rfl rfl rfl rfl | (simp; done) | exact oK) ?_
      rw [hXe]
      refine At.rt [false, false, false, false, false, true] [false, false, false] [] Tryz.func34 ?_
      exact .inl ⟨by simp, rfl, ⟨_, rfl⟩, rfl⟩
    rw [if_neg h1] at hXe
    obtain ⟨rfl, rfl⟩ : just = true ∧ wh = true := by cases just <;> cases wh <;> simp at h1 ⊢
    by_cases h2 : c1 ≤ tl.length
    · rw [if_pos h2] at hXe
      have e : fstL (Tryz.looks3 c1 true true tl.length b6 b11 b10 b1) = 11 := by simp only [Tryz.looks3, fstL, if_true]; rw [if_neg (by rw [decide_eq_true_eq]; omega)]
      rw [e] at fF
      refine At.go [true] [hC (.int .i64 11)] rfl (by and_intros <;> first | exact fF rfl rfl rfl rfl rfl rfl | (simp; done) | exact oK) ?_
      rw [hXe]
      refine At.rt [false, false, false, false, false, true] [false, false, false] [] Tryz.func34 ?_
      exact .inl ⟨by simp, rfl, ⟨_, rfl⟩, rfl⟩
    rw [if_neg h2] at hXe
    have e : fstL (Tryz.looks3 c1 true true tl.length b6 b11 b10 b1) = 0 := by simp only [Tryz.looks3, fstL, if_true]; rw [if_pos (by rw [decide_eq_true_eq]; omega)]
    rw [e] at fF
    by_cases h3 : 0 ≤ nxtL H.length (kindsF 1 S)
    · rw [if_pos h3] at hXe
      refine At.go [false, true] [hC (.int .i64 0), hB 4, hC (.int .i64 (nxtL (↑H.length) (kindsF 1 S)))] rfl (by and_intros <;> first | exact fF rfl rfl rfl rfl rfl rfl | exact fU rfl | exact decide_eq_true h3 | (simp; done) | exact oK) ?_
      rw [hXe]
      refine At.rt [false, false, false, false, false, true] [false, false, false] [] Tryz.func34 ?_
      exact .inl ⟨by simp, rfl, ⟨_, rfl⟩, rfl⟩
    · rw [if_neg h3] at hXe
      refine At.go [false, false] [hC (.int .i64 0), hB 4, hC (.int .i64 (nxtL (↑H.length) (kindsF 1 S))), hB 2] rfl (by and_intros <;> first | exact fF rfl rfl rfl rfl rfl rfl | exact fU rfl | exact decide_eq_false h3 | (simp; done) | exact oK) ?_
      rw [hXe, ← hR]
      refine At.rt [false, false, false, false, false, true] [true, true, true] [] Tryz.func34 ?_
      exact .inr ⟨rfl, gh, hc, g, c, gt, tc, rfl, rfl, rfl⟩
end Go.Proofs

/-
  Walks of layer 22: Verify, Accepts, Rows.
-/
namespace Go.Proofs
open Go Go.Eng
set_option maxRecDepth 100000
set_option maxHeartbeats 4000000
attribute [local irreducible] Tri

/-- The answer, as three values. -/
def sealD (n : Nat) (x : FndB) : List UInt8 × Nat × Nat := if x.e ≠ 0 then ([], 0, 0) else ((chainB n x.H).1, x.H.length, x.R.length)
def sdC (x : List UInt8 × Nat × Nat) : List Value := [str x.1, .int .i64 x.2.1, .int .i64 x.2.2]
theorem verF_ok {S : FL} {per : Int} {n : Nat} (h : (verF S per n).e = 0) : (verF S per n).H = (headsF S n).1 ∧ (verF S per n).at_ = -1 ∧ fstE (segE S per n (headsF S n).1) (headsF S n).1.length 0 = none ∧ (verF S per n).R = rowsK S (headsF S n).1.length ∧ (verF S per n).T = (segF S (headsF S n).1.length).1 := by
  cases hf : fstE (segE S per n (headsF S n).1) (headsF S n).1.length 0 with
  | some k =>
    rw [verF_hit hf] at h
    exact absurd h (fstE_some hf).2.2
  | none =>
    have hX := verF_end hf
    rw [hX] at h ⊢
    split at h
    · simp at h
    · rename_i h1
      split at h
      · simp at h
      · rename_i h2
        split at h
        · simp at h
        · rename_i h3
          rw [if_neg h1, if_neg h2, if_neg h3]
          exact ⟨rfl, rfl, rfl, rfl, rfl⟩
theorem verF_bad {S : FL} {per : Int} {n : Nat} (h : (verF S per n).e ≠ 0) : (verF S per n).H = [] ∧ (verF S per n).R = [] ∧ (verF S per n).T = [] := by
  cases hf : fstE (segE S per n (headsF S n).1) (headsF S n).1.length 0 with
  | some k => rw [verF_hit hf]; exact ⟨rfl, rfl, rfl⟩
  | none =>
    have hX := verF_end hf
    rw [hX] at h ⊢
    split
    · exact ⟨rfl, rfl, rfl⟩
    · rename_i h1
      rw [if_neg h1] at h
      split
      · exact ⟨rfl, rfl, rfl⟩
      · rename_i h2
        rw [if_neg h2] at h
        split
        · exact ⟨rfl, rfl, rfl⟩
        · rename_i h3
          rw [if_neg h3] at h; exact absurd rfl h
theorem Tryz.Verify_w (S : FL) (n : Nat) (c1 c3 c4 : Int) (fa : Option Addr) (fc : Nat) (w : World) (hlen : S.length ≤ 60) (hSb : ∀ p, p ∈ S → p.2.length ≤ 6000) (hns : ∀ p, p ∈ S → p.1.length ≤ 9223372036854775807) (hmay : mayCf c1 n c3 c4 = true) (hfr : SlOk w fa (fl S)) (hT : Tryz.Tabs w) :
    Fun Tryz.prog 12 [.slice fa S.length fc, .agg ⟨[.int .i64 c1, .int .i64 n, .int .i64 c3, .int .i64 c4]⟩] w (.tuple #[.agg ⟨sdC (sealD n (verF S c1 n))⟩, .int .i64 (verF S c1 n).at_, .int .i64 (verF S c1 n).e]) := by
  have hin := mayCf_in hmay
  have hn : 1 ≤ n ∧ n ≤ 32 := by omega
  have fM : ∀ {S : Base} {bx : Bx} {hp : List Seg}, CallOb Tryz.prog S bx hp 33 [.agg ⟨[.int .i64 c1, .int .i64 n, .int .i64 c3, .int .i64 c4]⟩] (.bool true) := fun {_ _ _} w' _ => by
    have := Tryz.logMay_w c1 n c3 c4 w'; rwa [hmay] at this
  have hflt := hfr.ltR
  have htlt := Tryz.tabs_lt hT
  refine Tri.enter (bx := []) (hp := []) Tryz.func12 rfl (by kernel_rfl) rfl (Own.nil w) ?_
  refine At.go [] [] rfl (by and_intros <;> first | exact fM | exact oK) ?_
  refine At.bo fun b3 hb3 => ?_
  refine At.al fun b4 hb4 => ?_
  refine At.go [false] [hB 1, hC (.bool true), hB 1] rfl (by and_intros <;> first | exact fM | exact oK) ?_
  refine At.bo fun b20 hb20 => ?_
  refine At.go [] [] rfl (by and_intros <;> first | exact fM | exact oK) ?_
  have h20 : w.heap.size ≤ b20 := hb20
  refine At.step [] rfl rfl rfl rfl rfl trivial (OpOk.callO [true, false, false] [] rfl rfl (fun w' hw' ho => Tryz.run_w S n c1 c3 c4 fa fc b20 w' hlen hSb hns hn (hfr.ext hw'.ext (by simp [kys])) (Tryz.tabs_ext0 hT hw'.ext) ho (fun q hq => by have := hflt q hq; omega) (fun q hq => by have := htlt q hq; omega)) ?_)
  have hok := verF_ok (S := S) (per := c1) (n := n)
  have hmy := fun x (h : x ∈ (headsF S n).1) => mayH_in (headsF_may h)
  have hHf := headsF_few (n := (n : Int)) hSb
  rintro v bx hp h
  rcases h with ⟨he, rfl, ⟨cs, rfl⟩, rfl⟩ | ⟨he, gh, hc, g, c, gt, tc, rfl, rfl, rfl⟩
  · rw [show sealD n (verF S c1 n) = ([], 0, 0) from if_pos he]
    generalize verF S c1 n = X at he
    refine At.go [true] [hB 1] rfl (by and_intros <;> first | (simp [he]; done) | exact oK) ?_
    refine At.rt [] [] [hB 1] Tryz.func12 ?_
    exact ⟨rfl, rfl, rfl⟩
  · rw [show sealD n (verF S c1 n) = ((chainB n (verF S c1 n).H).1, (verF S c1 n).H.length, (verF S c1 n).R.length) from if_neg (by simpa using he)]
    have hH := (hok he).1
    rw [← hH] at hmy hHf
    rw [he]
    generalize verF S c1 n = X at he hmy hHf
    clear hok hH
    have fC : ∀ {bx : Bx} {hp : List Seg}, nth hp 2 = some (Seg.row gh 55 6 X.H.length hc (X.H.flatMap hdC)) → CallOb Tryz.prog ⟨w, kys [] []⟩ bx hp 35 [.slice (svA gh) X.H.length hc, .int .i64 n] (.tuple #[str (chainB n X.H).1, .int .i64 (if (chainB n X.H).2 = true then 0 else 10)]) := fun {_ _} h w' hw' =>
      Tryz.hChain_w X.H n (svA gh) hc w' (by omega) (fun x hx => by have := hmy x hx; omega) hn (SlOk.row (hw'.hp _ (nth_mem h))) (Tryz.tabs_ext0 hT hw'.ext).1
    refine At.go [false] [] rfl (by and_intros <;> first | exact fC rfl | (simp; done) | exact oK) ?_
    refine At.qt [] [hB 0, hB 2, hC (.tuple { toList := [.string { data := (chainB n X.H).fst.toArray }, .int .i64 (if (chainB n X.H).snd = true then 0 else 10)] })] rfl rfl (by and_intros <;> first | exact fC rfl | (simp; done) | exact oK) ?_
    refine At.go [] [] rfl (by and_intros <;> first | exact fC rfl | (simp; done) | exact oK) ?_
    refine At.dr 16 ?_
    refine AtD.pu [0, 1, 6, 12] 12 rfl (by and_intros <;> first | exact fC rfl | (simp; done) | exact oK) ?_
    refine AtD.pu [2, 7] 10 rfl (by and_intros <;> first | exact fC rfl | (simp; done) | exact oK) ?_
    refine AtD.pu [3, 8] 8 rfl (by and_intros <;> first | exact fC rfl | (simp; done) | exact oK) ?_
    refine AtD.lx [4, 5, 9, 10, 11] 3 [] [hB 0, hB 0] rfl (by and_intros <;> first | exact fC rfl | (simp; done) | exact oK) ?_
    refine AtD.f1 13 [] [] [hB 1] rfl rfl rfl (by first | exact fC rfl | (simp; done) | exact oK) (by first | exact fC rfl | (simp; done) | exact oK) ?_
    refine AtD.pu [14] 1 rfl (by and_intros <;> first | exact fC rfl | (simp; done) | exact oK) ?_
    refine AtD.pu [15] 0 rfl (by and_intros <;> first | exact fC rfl | (simp; done) | exact oK) ?_
    refine AtD.dn ?_
    refine At.go [] [] rfl (by and_intros <;> first | exact fC rfl | (simp; done) | exact oK) ?_
    refine At.rt [] [] [hB 1] Tryz.func12 ?_
    exact ⟨rfl, rfl, rfl⟩
end Go.Proofs

/-
  Plain laws: the rows of sealed segments, each as many; a row's place.
-/
namespace Go.Proofs
open Go Go.Eng
set_option maxRecDepth 100000
set_option maxHeartbeats 4000000
attribute [local irreducible] Tri

theorem rowsK_per {S : FL} {P n : Nat} {H : List HdB} (h : fstE (segE S P n H) H.length 0 = none) : ∀ k, k ≤ H.length → (rowsK S k).length = P * k
  | 0, _ => by simp [rowsK]
  | k + 1, hk => by
    have h0 := segE_zero (fstE_none h k (Nat.zero_le _) (by omega))
    have ih := rowsK_per h k (by omega)
    have h1 : (segF S k).1.length = P := by have h2 := h0.2.1; have h3 := h0.2.2.2.1; omega
    rw [rowsK_succ, List.length_append, ih, h1, Nat.mul_succ]
theorem rowsK_more (S : FL) (k : Nat) : ∀ j, ∃ r, rowsK S (k + j) = rowsK S k ++ r
  | 0 => ⟨[], by simp⟩
  | j + 1 => by
    obtain ⟨r, hr⟩ := rowsK_more S k j
    exact ⟨r ++ (segF S ((k + j : Nat) : Int)).1, by rw [← Nat.add_assoc, rowsK_succ, hr, List.append_assoc]⟩
/-- Where a row of sealed segments lies. -/
structure PlaceOk (S : FL) (P n i : Nat) (R : List (List UInt8)) (H : List HdB) : Prop where
  kH : i / P < H.length
  seg : (R.drop (i / P * P)).take P = (segF S ((i / P : Nat) : Int)).1
  len : (segF S ((i / P : Nat) : Int)).1.length = P
  fit : (i / P + 1) * P ≤ R.length
  row : R[i]? = (segF S ((i / P : Nat) : Int)).1[i % P]?
  root : rootB n (segF S ((i / P : Nat) : Int)).1 = (hdAt H (i / P)).r
  can : mayH (hdAt H (i / P)) n = true
theorem placeOk {S : FL} {P n i : Nat} (hP : 1 ≤ P) (he : (verF S P n).e = 0) (hi : i < (verF S P n).R.length) : PlaceOk S P n i (verF S P n).R (verF S P n).H := by
  obtain ⟨h1, -, h2, h3, -⟩ := verF_ok he
  have hl := rowsK_per h2 _ (Nat.le_refl _)
  rw [h3] at hi ⊢
  rw [h1]
  generalize (headsF S n).1 = H at *
  have hk : i / P < H.length := Nat.div_lt_of_lt_mul (by rw [← hl]; exact hi)
  have h0 := segE_zero (fstE_none h2 (i / P) (Nat.zero_le _) (by omega))
  have hs : (segF S ((i / P : Nat) : Int)).1.length = P := by have h4 := h0.2.1; have h5 := h0.2.2.2.1; omega
  have hm : i % P < P := Nat.mod_lt _ (by omega)
  have hd : i = P * (i / P) + i % P := (Nat.div_add_mod i P).symm
  have hc := chB_may h0.1 (hdAt H (i / P)) (List.mem_of_getElem? (i := i / P) (by rw [List.getElem?_take_of_lt (by omega), hdAt_get hk]))
  obtain ⟨r, hr⟩ := rowsK_more S (i / P + 1) (H.length - (i / P + 1))
  rw [show i / P + 1 + (H.length - (i / P + 1)) = H.length by omega, rowsK_succ] at hr
  obtain ⟨k, hk'⟩ : ∃ k, i / P = k := ⟨_, rfl⟩
  obtain ⟨j, hj'⟩ : ∃ j, i % P = j := ⟨_, rfl⟩
  have hkl : (rowsK S k).length = P * k := by
    subst hk'
    have e : rowsK S H.length = (rowsK S (i / P) ++ (segF S ((i / P : Nat) : Int)).1) ++ r := hr
    exact rowsK_per h2 _ (by omega)
  rw [hk'] at hk h0 hs hd hc hr
  rw [hj'] at hm hd
  have hR : rowsK S H.length = rowsK S k ++ ((segF S (k : Int)).1 ++ r) := by rw [hr, List.append_assoc]
  refine ⟨by rw [hk']; exact hk, ?_, by rw [hk']; exact hs, ?_, ?_, by rw [hk']; exact h0.2.2.2.2.2, by rw [hk']; exact hc⟩
  · rw [hk', hR, show k * P = (rowsK S k).length by rw [hkl, Nat.mul_comm], List.drop_left, ← hs, List.take_left]
  · rw [hk', hR, List.length_append, List.length_append, hs, hkl, Nat.add_mul, Nat.mul_comm]; omega
  · rw [hk', hj', hR, List.getElem?_append_right (by rw [hkl]; omega), List.getElem?_append_left (by rw [hkl]; omega), hkl]
    congr 1; omega
end Go.Proofs

/-
  Plain laws of layers 4 and 25: a clash of two lists with one root, and of two images.
-/
namespace Go.Proofs
open Go Go.Eng
set_option maxRecDepth 100000
set_option maxHeartbeats 4000000
attribute [local irreducible] Tri

/-- What is hashed for a root. -/
def hshB (n : Nat) : List (List UInt8) → List UInt8
  | [] => []
  | [x] => 0 :: x
  | x :: y :: l => 1 :: (rootB n ((x :: y :: l).take (splN (l.length + 2))) ++ rootB n ((x :: y :: l).drop (splN (l.length + 2))))
theorem hshB_two (n : Nat) {l : List (List UInt8)} (h : 2 ≤ l.length) : hshB n l = 1 :: (rootB n (l.take (splN l.length)) ++ rootB n (l.drop (splN l.length))) := by
  match l, h with
  | x :: y :: l, _ => rfl
/-- Where two lists that hash alike part. -/
theorem hsh_step {n : Nat} (hn : n ≤ 32) {a b : List (List UInt8)} (hl : a.length = b.length) (hne : a ≠ b) (hh : hshB n a = hshB n b) :
    2 ≤ a.length ∧ rootB n (a.take (splN a.length)) = rootB n (b.take (splN a.length)) ∧ rootB n (a.drop (splN a.length)) = rootB n (b.drop (splN a.length)) ∧ (a.take (splN a.length) = b.take (splN a.length) → a.drop (splN a.length) ≠ b.drop (splN a.length)) := by
  have h2 : 2 ≤ a.length := by
    match a, b, hl with
    | [], [], _ => exact absurd rfl hne
    | [x], [y], _ =>
      have : x = y := by simpa [hshB] using hh
      exact absurd (by rw [this]) hne
    | x :: y :: l, b, _ => simp
  rw [hshB_two n h2, hshB_two n (by omega), ← hl] at hh
  have h3 := List.append_inj (List.cons.inj hh).2 (by rw [rootB_len hn, rootB_len hn])
  refine ⟨h2, h3.1, h3.2, fun e1 e2 => hne ?_⟩
  rw [← List.take_append_drop (splN a.length) a, ← List.take_append_drop (splN a.length) b, e1, e2]
/-- The clash of two lists that have one root. -/
def downB (n : Nat) : Nat → List (List UInt8) → List (List UInt8) → List UInt8 × List UInt8
  | 0, a, b => (hshB n a, hshB n b)
  | f + 1, a, b => if hshB n a ≠ hshB n b then (hshB n a, hshB n b) else
    if a.take (splN a.length) ≠ b.take (splN a.length) then downB n f (a.take (splN a.length)) (b.take (splN a.length)) else downB n f (a.drop (splN a.length)) (b.drop (splN a.length))
instance : DecidableEq HdB := fun x y => decidable_of_iff (x.i = y.i ∧ x.f = y.f ∧ x.c = y.c ∧ x.b = y.b ∧ x.p = y.p ∧ x.r = y.r) (by cases x; cases y; simp)
/-- The last place where two rows of headers differ. -/
def lastD (H G : List HdB) : Nat → Option Nat
  | 0 => none
  | m + 1 => if hdAt H m ≠ hdAt G m then some m else lastD H G m
theorem lastD_some {H G : List HdB} : ∀ {m k : Nat}, lastD H G m = some k → k < m ∧ hdAt H k ≠ hdAt G k ∧ ∀ j, k < j → j < m → hdAt H j = hdAt G j
  | 0, _, h => by cases h
  | m + 1, k, h => by
    unfold lastD at h
    split at h
    · rename_i hd
      have : m = k := Option.some.inj h
      subst this
      exact ⟨by omega, hd, fun j h1 h2 => by omega⟩
    · rename_i hd
      obtain ⟨h1, h2, h3⟩ := lastD_some h
      refine ⟨by omega, h2, fun j h4 h5 => ?_⟩
      by_cases e : j = m
      · subst e; exact Classical.not_not.1 hd
      · exact h3 j h4 (by omega)
theorem lastD_none {H G : List HdB} : ∀ {m : Nat}, lastD H G m = none → ∀ j, j < m → hdAt H j = hdAt G j
  | 0, _, j, h => by omega
  | m + 1, h, j, hj => by
    unfold lastD at h
    split at h
    · cases h
    · rename_i hd
      by_cases e : j = m
      · subst e; exact Classical.not_not.1 hd
      · exact lastD_none h j (by omega)
/-- Rows of one segment. -/
def segK (P : Nat) (R : List (List UInt8)) (k : Nat) : List (List UInt8) := (R.drop (k * P)).take P
/-- The answer: the clash of what was found of two images. -/
def twC (P n : Nat) (X Y : FndB) : List UInt8 × List UInt8 × Int :=
  match lastD X.H Y.H X.H.length with
  | some k => (putH (hdAt X.H k), putH (hdAt Y.H k), 0)
  | none => match fstE (fun k => if segK P X.R k = segK P Y.R k then 0 else 1) X.H.length 0 with
    | some k => ((downB n P (segK P X.R k) (segK P Y.R k)).1, (downB n P (segK P X.R k) (segK P Y.R k)).2, 0)
    | none => ([], [], 7)
theorem twC_head {P n k : Nat} {X Y : FndB} (h : lastD X.H Y.H X.H.length = some k) : twC P n X Y = (putH (hdAt X.H k), putH (hdAt Y.H k), 0) := by unfold twC; rw [h]
theorem twC_seg {P n k : Nat} {X Y : FndB} (h : lastD X.H Y.H X.H.length = none) (h2 : fstE (fun k => if segK P X.R k = segK P Y.R k then 0 else 1) X.H.length 0 = some k) : twC P n X Y = ((downB n P (segK P X.R k) (segK P Y.R k)).1, (downB n P (segK P X.R k) (segK P Y.R k)).2, 0) := by unfold twC; rw [h, h2]
def twB (P n : Nat) (X Y : FndB) : List UInt8 × List UInt8 × Int :=
  if X.e ≠ 0 then ([], [], X.e) else if Y.e ≠ 0 then ([], [], Y.e) else
  if (chainB n X.H).1 ≠ (chainB n Y.H).1 ∨ X.H.length ≠ Y.H.length then ([], [], 12) else
  if X.R = Y.R then ([], [], 7) else twC P n X Y
/-- Rows of as many segments, each alike, are alike. -/
theorem segK_ext {P m : Nat} {R T : List (List UInt8)} (h1 : R.length = P * m) (h2 : T.length = P * m) (h : ∀ k, k < m → segK P R k = segK P T k) : R = T := by
  refine List.ext_getElem? fun j => ?_
  by_cases hj : j < P * m
  · have hP : 0 < P := Nat.pos_of_ne_zero fun e => by rw [e, Nat.zero_mul] at hj; omega
    have hd : j = P * (j / P) + j % P := (Nat.div_add_mod j P).symm
    have hm := Nat.mod_lt j hP
    have h3 := congrArg (fun l => l[j % P]?) (h (j / P) (Nat.div_lt_of_lt_mul hj))
    simp only [segK, List.getElem?_take_of_lt hm, List.getElem?_drop] at h3
    rw [show j / P * P + j % P = j by rw [Nat.mul_comm]; omega] at h3
    exact h3
  · rw [List.getElem?_eq_none (by omega), List.getElem?_eq_none (by omega)]
/-- What the found rows of two images obey. -/
structure FndOk (P n : Nat) (X : FndB) : Prop where
  len : X.R.length = P * X.H.length
  ch : (chainB n X.H).2 = true
  can : ∀ k, k < X.H.length → mayH (hdAt X.H k) n = true
  root : ∀ k, k < X.H.length → rootB n (segK P X.R k) = (hdAt X.H k).r
  sl : ∀ k, k < X.H.length → (segK P X.R k).length = P
  fit : ∀ k, k < X.H.length → (k + 1) * P ≤ X.R.length
theorem fndOk {S : FL} {P n : Nat} (hP : 1 ≤ P) (he : (verF S P n).e = 0) : FndOk P n (verF S P n) := by
  obtain ⟨h1, -, h2, h3, -⟩ := verF_ok he
  have hl := rowsK_per h2 _ (Nat.le_refl _)
  have pl : ∀ k, k < (verF S P n).H.length → PlaceOk S P n (k * P) (verF S P n).R (verF S P n).H ∧ k * P / P = k := fun k hk => by
    refine ⟨placeOk hP he ?_, Nat.mul_div_cancel _ (by omega)⟩
    rw [h1] at hk
    rw [h3, hl, Nat.mul_comm P]
    exact Nat.mul_lt_mul_of_pos_right hk (by omega)
  refine ⟨by rw [h3, hl, h1], ?_, fun k hk => ?_, fun k hk => ?_, fun k hk => ?_, fun k hk => ?_⟩
  · rw [h1]
    generalize (headsF S n).1 = H at h2
    cases hH : H.length with
    | zero => rw [List.length_eq_zero_iff.1 hH]; rfl
    | succ m =>
      have := (segE_zero (fstE_none h2 m (Nat.zero_le _) (by omega))).1
      rwa [List.take_of_length_le (by omega)] at this
  · obtain ⟨p, e⟩ := pl k hk; have := p.can; rwa [e] at this
  · obtain ⟨p, e⟩ := pl k hk
    have h4 := p.root; have h5 := p.seg
    rw [e] at h4 h5
    unfold segK; rw [h5]; exact h4
  · obtain ⟨p, e⟩ := pl k hk
    have h4 := p.len; have h5 := p.seg
    rw [e] at h4 h5
    unfold segK; rw [h5]; exact h4
  · obtain ⟨p, e⟩ := pl k hk; have := p.fit; rwa [e] at this
theorem fstE_first {g : Nat → Int} : ∀ {m k j : Nat}, fstE g m k = some j → ∀ i, k ≤ i → i < j → g i = 0
  | 0, _, _, h => by simp [fstE] at h
  | m + 1, k, j, h => by
    unfold fstE at h
    split at h
    · rename_i hk
      have : k = j := Option.some.inj h
      subst this
      exact fun i h1 h2 => by omega
    · rename_i hk
      intro i h1 h2
      by_cases e : i = k
      · subst e; exact Classical.not_not.1 hk
      · exact fstE_first h i (by omega) h2
/-- A clash in one segment. -/
theorem seg_clash {P n : Nat} {X Y : FndB} (hX : FndOk P n X) (hY : FndOk P n Y) (hl : X.H.length = Y.H.length) (hne : X.R ≠ Y.R) (hD : lastD X.H Y.H X.H.length = none) : ∃ k, fstE (fun k => if segK P X.R k = segK P Y.R k then 0 else 1) X.H.length 0 = some k ∧ k < X.H.length ∧ segK P X.R k ≠ segK P Y.R k ∧ rootB n (segK P X.R k) = rootB n (segK P Y.R k) ∧ ∀ j, j < k → segK P X.R j = segK P Y.R j := by
  cases hf : fstE (fun k => if segK P X.R k = segK P Y.R k then (0 : Int) else 1) X.H.length 0 with
  | none =>
    refine absurd (segK_ext hX.len (by rw [hl]; exact hY.len) fun k hk => ?_) hne
    have := fstE_none hf k (Nat.zero_le _) (by omega)
    split at this
    · assumption
    · cases this
  | some k =>
    obtain ⟨-, h2, h3⟩ := fstE_some hf
    refine ⟨k, rfl, by omega, fun e => h3 (if_pos e), ?_, fun j hj => ?_⟩
    · rw [hX.root k (by omega), hY.root k (by omega), lastD_none hD k (by omega)]
    · have := fstE_first hf j (Nat.zero_le _) hj
      split at this
      · assumption
      · cases this
end Go.Proofs

/-
  Walks of layers 4 and 25: lists alike; two byte strings that clash; the clash of two lists, and the document's.
-/
namespace Go.Proofs
open Go Go.Eng
set_option maxRecDepth 100000
set_option maxHeartbeats 4000000
attribute [local irreducible] Tri

theorem Tryz.slEqual_w (A B : List (List UInt8)) (a b : Option Addr) (ca cb : Nat) (w : World) (hla : A.length ≤ 1000000) (ha : SlOk w a (A.map str)) (hb : SlOk w b (B.map str)) :
    Fun Tryz.prog 54 [.slice a A.length ca, .slice b B.length cb] w (.bool (decide (A = B))) := by
  refine Tri.enter (bx := []) (hp := []) Tryz.func54 rfl (by kernel_rfl) rfl (Own.nil w) ?_
  by_cases hl : A.length = B.length
  · refine At.go [false] [] rfl (by and_intros <;> first | (simp [hl]; done) | exact oK) ?_
    refine At.loop (env0 := [(0, .slice a A.length ca), (1, .slice b B.length cb), (12, .int .i64 ↑A.length), (13, .int .i64 0)]) (fun m_ env bx hp => ∃ (i : Nat), m_ = A.length - i ∧ (i ≤ A.length) ∧ (∀ j, j < i → A[j]? = B[j]?) ∧ env = [(0, .slice a A.length ca), (1, .slice b B.length cb), (12, .int .i64 ↑A.length), (13, .int .i64 (i : Int))] ∧ bx = [] ∧ hp = []) rfl
      ⟨0, rfl, (by omega), (fun j h => absurd h (Nat.not_lt_zero j)), rfl, rfl, rfl⟩ sB ?_
    rintro m_ env bx hp ⟨i, rfl, hi, hno, rfl, rfl, rfl⟩ ih
    by_cases hlt : i < A.length
    · obtain ⟨x, hx⟩ : ∃ x, A[i]? = some x := ⟨_, List.getElem?_eq_getElem hlt⟩
      obtain ⟨y, hy⟩ : ∃ y, B[i]? = some y := ⟨_, List.getElem?_eq_getElem (by omega)⟩
      have ex : (A.map str)[i]? = some (str x) := by rw [List.getElem?_map, hx]; rfl
      have ey : (B.map str)[i]? = some (str y) := by rw [List.getElem?_map, hy]; rfl
      obtain ⟨g, o, rfl, hc⟩ := ha.get (by intro h; rw [h] at ex; simp at ex)
      obtain ⟨g', o', rfl, hc'⟩ := hb.get (by intro h; rw [h] at ey; simp at ey)
      have rA : ∀ {bx : Bx} {hp : List Seg}, RdW ⟨w, kys [] []⟩ bx hp g (o + (i : Int).toNat * 1) [str x] := fun {_ _} => RdW.base1 (by simp [kys]) (by rw [Int.toNat_natCast, Nat.mul_one]; exact hc _ _ ex)
      have rB : ∀ {bx : Bx} {hp : List Seg}, RdW ⟨w, kys [] []⟩ bx hp g' (o' + (i : Int).toNat * 1) [str y] := fun {_ _} => RdW.base1 (by simp [kys]) (by rw [Int.toNat_natCast, Nat.mul_one]; exact hc' _ _ ey)
      by_cases hxy : x = y
      · have q1 : (!decide (bl ⟨x.toArray⟩ = bl ⟨y.toArray⟩)) = false := by rw [bl_of, bl_of, decide_eq_true hxy]; rfl
        refine At.go [true] [] rfl (by and_intros <;> first | exact rA | exact rB | exact q1 | exact decide_eq_true (by omega) | exact oK) ?_
        refine At.qt [] [hR [.string { data := x.toArray }], hR [.string { data := y.toArray }]] rfl rfl (by and_intros <;> first | exact rA | exact rB | exact q1 | exact decide_eq_true (by omega) | exact oK) ?_
        refine At.go [false] [] rfl (by and_intros <;> first | exact rA | exact rB | exact q1 | exact decide_eq_true (by omega) | exact oK) ?_
        exact At.weak (ih _ _ _ _ (by omega) ⟨i + 1, rfl, by omega, fun j hj => by by_cases hji : j = i; subst hji; rw [hx, hy, hxy]; exact hno j (by omega), rfl, rfl, rfl⟩) sB
      · have q1 : (!decide (bl ⟨x.toArray⟩ = bl ⟨y.toArray⟩)) = true := by rw [bl_of, bl_of, decide_eq_false hxy]; rfl
        have hne : decide (A = B) = false := decide_eq_false fun h => by rw [h, hy] at hx; exact hxy (Option.some.inj hx).symm
        rw [hne]
        refine At.go [true] [] rfl (by and_intros <;> first | exact rA | exact rB | exact q1 | exact decide_eq_true (by omega) | exact oK) ?_
        refine At.qt [] [hR [.string { data := x.toArray }], hR [.string { data := y.toArray }]] rfl rfl (by and_intros <;> first | exact rA | exact rB | exact q1 | exact decide_eq_true (by omega) | exact oK) ?_
        refine At.go [true] [] rfl (by and_intros <;> first | exact rA | exact rB | exact q1 | exact decide_eq_true (by omega) | exact oK) ?_
        refine At.rt [] [] [] Tryz.func54 ?_
        exact ⟨rfl, rfl, rfl⟩
    · obtain rfl : i = A.length := by omega
      rw [decide_eq_true (same_no hl hno)]
      refine At.go [false] [] rfl (by and_intros <;> first | exact decide_eq_false (by omega) | exact oK) ?_
      refine At.rt [] [] [] Tryz.func54 ?_
      exact ⟨rfl, rfl, rfl⟩
  · rw [decide_eq_false (fun h => hl (by rw [h]) : ¬ A = B)]
    refine At.go [true] [] rfl (by and_intros <;> first | (simp; omega) | exact oK) ?_
    refine At.rt [] [] [] Tryz.func54 ?_
    exact ⟨rfl, rfl, rfl⟩
theorem Tryz.CutBad_w (s : List UInt8) (n : Int) (w : World) (hn : n < 1 ∨ 32 < n) : Fun Tryz.prog 59 [str s, .int .i64 n] w (.tuple #[str [], .int .i64 1]) := by
  by_cases h1 : n < 1
  · refine Tri.enter (bx := []) (hp := []) Tryz.func59 rfl (by kernel_rfl) rfl (Own.nil w) ?_
    refine At.go [true, true] [] rfl (by and_intros <;> first | exact decide_eq_true h1 | exact oK) ?_
    refine At.rt [] [] [] Tryz.func59 ?_
    exact ⟨rfl, rfl, rfl⟩
  · have h2 : 32 < n := by omega
    refine Tri.enter (bx := []) (hp := []) Tryz.func59 rfl (by kernel_rfl) rfl (Own.nil w) ?_
    refine At.go [false, true] [] rfl (by and_intros <;> first | exact decide_eq_false h1 | exact decide_eq_true h2 | exact oK) ?_
    refine At.rt [] [] [] Tryz.func59 ?_
    exact ⟨rfl, rfl, rfl⟩
theorem Tryz.twClash_w (x y : List UInt8) (n : Nat) (w : World) (hx : x.length ≤ 1000000) (hy : y.length ≤ 1000000) (hn : 1 ≤ n ∧ n ≤ 32) (hS : Tryz.Sha w) :
    Fun Tryz.prog 31 [str x, str y, .int .i64 n] w (.bool (decide (x ≠ y ∧ cutH n x = cutH n y))) := by
  have fC : ∀ {bx : Bx} {hp : List Seg}, CallOb Tryz.prog ⟨w, kys [] []⟩ bx hp 59 [str x, .int .i64 n] (.tuple #[str (cutH n x), .int .i64 0]) := fun {_ _} w' hw' => Tryz.Cut_w x n w' hx hn.1 hn.2 (Tryz.sha_ext hS hw'.ext)
  have fD : ∀ {bx : Bx} {hp : List Seg}, CallOb Tryz.prog ⟨w, kys [] []⟩ bx hp 59 [str y, .int .i64 n] (.tuple #[str (cutH n y), .int .i64 0]) := fun {_ _} w' hw' => Tryz.Cut_w y n w' hy hn.1 hn.2 (Tryz.sha_ext hS hw'.ext)
  by_cases hxy : x = y
  · rw [decide_eq_false (fun h => h.1 hxy)]
    refine Tri.enter (bx := []) (hp := []) Tryz.func31 rfl (by kernel_rfl) rfl (Own.nil w) ?_
    refine At.go [true, false] [hC (.tuple { toList := [.string { data := (cutH n x).toArray }, .int .i64 0] }), hC (.tuple { toList := [.string { data := (cutH n y).toArray }, .int .i64 0] })] rfl (by and_intros <;> first | exact fC | exact fD | (simp [hxy]; done) | exact oK) ?_
    refine At.rt [] [] [] Tryz.func31 ?_
    exact ⟨rfl, rfl, rfl⟩
  · refine Tri.enter (bx := []) (hp := []) Tryz.func31 rfl (by kernel_rfl) rfl (Own.nil w) ?_
    refine At.go [true, true] [hC (.tuple { toList := [.string { data := (cutH n x).toArray }, .int .i64 0] }), hC (.tuple { toList := [.string { data := (cutH n y).toArray }, .int .i64 0] })] rfl (by and_intros <;> first | exact fC | exact fD | (simp [hxy]; done) | exact oK) ?_
    refine At.rt [] [] [] Tryz.func31 ?_
    exact ⟨by by_cases h : cutH n x = cutH n y <;> simp [tupV, hxy, h], rfl, rfl⟩
theorem Tryz.twClashNo_w (x y : List UInt8) (n : Int) (w : World) (hn : n < 1 ∨ 32 < n) :
    Fun Tryz.prog 31 [str x, str y, .int .i64 n] w (.bool false) := by
  have fC : ∀ {S : Base} {bx : Bx} {hp : List Seg}, CallOb Tryz.prog S bx hp 59 [str x, .int .i64 n] (.tuple #[str [], .int .i64 1]) := fun {_ _ _} w' _ => Tryz.CutBad_w x n w' hn
  have fD : ∀ {S : Base} {bx : Bx} {hp : List Seg}, CallOb Tryz.prog S bx hp 59 [str y, .int .i64 n] (.tuple #[str [], .int .i64 1]) := fun {_ _ _} w' _ => Tryz.CutBad_w y n w' hn
  refine Tri.enter (bx := []) (hp := []) Tryz.func31 rfl (by kernel_rfl) rfl (Own.nil w) ?_
  refine At.go [false, false] [hC (.tuple { toList := [.string { data := #[] }, .int .i64 1] }), hC (.tuple { toList := [.string { data := #[] }, .int .i64 1] })] rfl (by and_intros <;> first | exact fC | exact fD | (simp; done) | exact oK) ?_
  refine At.rt [] [] [] Tryz.func31 ?_
  exact ⟨rfl, rfl, rfl⟩
theorem Tryz.hashed_w (n : Nat) (hn : 1 ≤ n ∧ n ≤ 32) (l : List (List UInt8)) (a : Option Addr) (cap : Nat) (w : World) (hl : l.length ≤ 4096) (hcap : l.length ≤ cap) (hx : ∀ x, x ∈ l → x.length ≤ 100000) (hr : SlOk w a (l.map str)) (hS : Tryz.Sha w) :
    Fun Tryz.prog 137 [.slice a l.length cap, .int .i64 n] w (str (hshB n l)) := by
  by_cases h0 : l.length = 0
  · obtain rfl := List.length_eq_zero_iff.1 h0
    refine Tri.enter (bx := []) (hp := []) Tryz.func137 rfl (by kernel_rfl) rfl (Own.nil w) ?_
    refine At.go [true] [] rfl (by and_intros <;> first | (simp; done) | exact oK) ?_
    refine At.rt [] [] [] Tryz.func137 ?_
    exact ⟨rfl, rfl, rfl⟩
  obtain ⟨g, o, rfl, hc⟩ := hr.get (by intro e; have := congrArg List.length e; rw [List.length_map] at this; exact h0 this)
  by_cases h1 : l.length = 1
  · obtain ⟨x, rfl⟩ := List.length_eq_one_iff.1 h1
    have r : ∀ {bx : Bx} {hp : List Seg}, RdW ⟨w, kys [] []⟩ bx hp g (o + Int.toNat 0 * 1) [str x] := fun {_ _} => RdW.rowS hc rfl (by simp [kys]) (i := 0) rfl rfl
    have hxl := hx x (by simp)
    refine Tri.enter (bx := []) (hp := []) Tryz.func137 rfl (by kernel_rfl) rfl (Own.nil w) ?_
    refine At.go [false, true] [hR [.string { data := x.toArray }]] rfl (by and_intros <;> first | exact r | (simp; done) | (simp; omega) | exact oK) ?_
    refine At.rt [] [] [] Tryz.func137 ?_
    exact ⟨rfl, rfl, rfl⟩
  have h2 : 2 ≤ l.length := by omega
  have hs := splN_in h2
  rw [hshB_two n h2]
  have eT : (l.take (splN l.length)).length = splN l.length := by rw [List.length_take]; omega
  have eD : (l.drop (splN l.length)).length = l.length - splN l.length := List.length_drop
  obtain ⟨k, hk⟩ : ∃ k, splN l.length = k := ⟨_, rfl⟩
  rw [hk] at hs eT eD ⊢
  have fS : ∀ {S : Base} {bx : Bx} {hp : List Seg}, CallOb Tryz.prog S bx hp 128 [.int .i64 l.length] (.int .i64 (k : Int)) := fun {_ _ _} w' _ => by rw [← hk]; exact Tryz.tSplit_w l.length w' (by omega)
  have fA : ∀ {bx : Bx} {hp : List Seg}, CallOb Tryz.prog ⟨w, kys [] []⟩ bx hp 92 [.slice (some ⟨g, o, none⟩) ((k : Int).toNat) cap, .int .i64 n] (.tuple #[str (rootB n (l.take k)), .int .i64 0]) := fun {_ _} w' hw' => by
    have := Tryz.tRoot_w n hn (l.take k) (some ⟨g, o, none⟩) cap w' (by omega) (by omega) (fun x h => hx x (List.mem_of_mem_take h)) (SlOk.rowsT _ (hr.ext hw'.ext (by simp [kys]))) (Tryz.sha_ext hS hw'.ext)
    rwa [eT] at this
  have fB : ∀ {bx : Bx} {hp : List Seg}, CallOb Tryz.prog ⟨w, kys [] []⟩ bx hp 92 [.slice (some ⟨g, o + (k : Int).toNat * 1, none⟩) (l.length - (k : Int).toNat) (cap - (k : Int).toNat), .int .i64 n] (.tuple #[str (rootB n (l.drop k)), .int .i64 0]) := fun {_ _} w' hw' => by
    have := Tryz.tRoot_w n hn (l.drop k) (some ⟨g, o + k, none⟩) (cap - k) w' (by omega) (by omega) (fun x h => hx x (List.mem_of_mem_drop h)) (SlOk.rowsD _ (hr.ext hw'.ext (by simp [kys]))) (Tryz.sha_ext hS hw'.ext)
    rw [eD] at this
    simpa using this
  have l1 := rootB_len (n := n) hn.2 (l.take k)
  have l2 := rootB_len (n := n) hn.2 (l.drop k)
  refine Tri.enter (bx := []) (hp := []) Tryz.func137 rfl (by kernel_rfl) rfl (Own.nil w) ?_
  refine At.go [false, false] [hC (.int .i64 ↑k), hC (.tuple { toList := [.string { data := (rootB n (List.take k l)).toArray }, .int .i64 0] }), hC (.tuple { toList := [.string { data := (rootB n (List.drop k l)).toArray }, .int .i64 0] })] rfl (by and_intros <;> first | exact fS | exact fA | exact fB | exact decide_eq_false (by omega) | (simp; omega) | exact oK) ?_
  refine At.rt [] [] [] Tryz.func137 ?_
  exact ⟨rfl, rfl, rfl⟩
end Go.Proofs

/-
  Walks of layers 4: the clash of two lists that have one root, and the document's.
-/
namespace Go.Proofs
open Go Go.Eng
set_option maxRecDepth 100000
set_option maxHeartbeats 4000000
attribute [local irreducible] Tri

theorem downB_ne {n f : Nat} {a b : List (List UInt8)} (h : hshB n a ≠ hshB n b) : downB n f a b = (hshB n a, hshB n b) := by
  cases f with
  | zero => rfl
  | succ f => unfold downB; rw [if_pos h]
theorem downB_left {n f : Nat} {a b : List (List UInt8)} (h : hshB n a = hshB n b) (ht : a.take (splN a.length) ≠ b.take (splN a.length)) : downB n (f + 1) a b = downB n f (a.take (splN a.length)) (b.take (splN a.length)) := by
  rw [downB, if_neg (by simpa using h), if_pos ht]
theorem downB_right {n f : Nat} {a b : List (List UInt8)} (h : hshB n a = hshB n b) (ht : a.take (splN a.length) = b.take (splN a.length)) : downB n (f + 1) a b = downB n f (a.drop (splN a.length)) (b.drop (splN a.length)) := by
  rw [downB, if_neg (by simpa using h), if_neg (by simpa using ht)]
/-- Two lists of rows, alike in number and root, not alike. -/
structure TwoOk (n : Nat) (A B : List (List UInt8)) : Prop where
  few : A.length ≤ 4096
  len : A.length = B.length
  ne : A ≠ B
  root : rootB n A = rootB n B
  xa : ∀ x, x ∈ A → x.length ≤ 100000
  xb : ∀ x, x ∈ B → x.length ≤ 100000
theorem TwoOk.left {n : Nat} {A B : List (List UInt8)} (h : TwoOk n A B) (hn : n ≤ 32) (hh : hshB n A = hshB n B) (ht : A.take (splN A.length) ≠ B.take (splN A.length)) : TwoOk n (A.take (splN A.length)) (B.take (splN A.length)) := by
  obtain ⟨h2, h3, -, -⟩ := hsh_step hn h.len h.ne hh
  have h1 := h.few; have h5 := h.len
  exact ⟨by rw [List.length_take]; omega, by rw [List.length_take, List.length_take]; omega, ht, h3, fun x hx => h.xa x (List.mem_of_mem_take hx), fun x hx => h.xb x (List.mem_of_mem_take hx)⟩
theorem TwoOk.right {n : Nat} {A B : List (List UInt8)} (h : TwoOk n A B) (hn : n ≤ 32) (hh : hshB n A = hshB n B) (ht : A.take (splN A.length) = B.take (splN A.length)) : TwoOk n (A.drop (splN A.length)) (B.drop (splN A.length)) := by
  obtain ⟨h2, -, h3, h4⟩ := hsh_step hn h.len h.ne hh
  have h1 := h.few; have h5 := h.len
  exact ⟨by rw [List.length_drop]; omega, by rw [List.length_drop, List.length_drop]; omega, h4 ht, h3, fun x hx => h.xa x (List.mem_of_mem_drop hx), fun x hx => h.xb x (List.mem_of_mem_drop hx)⟩
theorem Tryz.down1_w (n : Nat) (hn : 1 ≤ n ∧ n ≤ 32) (b2 b3 : Nat) : ∀ (N : Nat) (A B : List (List UInt8)) (a b : Option Addr) (ca cb : Nat) (w : World), A.length ≤ N + 1 → TwoOk n A B → A.length ≤ ca → A.length ≤ cb → SlOk w a (A.map str) → SlOk w b (B.map str) → Tryz.Sha w →
    SlOk w (some ⟨b2, 0, none⟩) [.int .i64 n] → SlOk w (some ⟨b3, 0, none⟩) [.func (.func 136) ⟨[]⟩ ⟨[.pointer (some ⟨b2, 0, none⟩), .pointer (some ⟨b3, 0, none⟩)]⟩] →
    Fun Tryz.prog 136 [.slice a A.length ca, .slice b A.length cb, .pointer (some ⟨b2, 0, none⟩), .pointer (some ⟨b3, 0, none⟩)] w (.tuple #[str (downB n N A B).1, str (downB n N A B).2]) := by
  intro N
  induction N with
  | zero =>
    intro A B a b ca cb w hN hT hca hcb ha hb hS h2 h3
    have hh : hshB n A ≠ hshB n B := fun h => by have := (hsh_step hn.2 hT.len hT.ne h).1; omega
    rw [downB_ne hh]
    have fA : ∀ {bx : Bx} {hp : List Seg}, CallOb Tryz.prog ⟨w, kys [] []⟩ bx hp 137 [.slice a A.length ca, .int .i64 n] (str (hshB n A)) := fun {_ _} w' hw' => Tryz.hashed_w n hn A a ca w' hT.few hca hT.xa (ha.ext hw'.ext (by simp [kys])) (Tryz.sha_ext hS hw'.ext)
    have fB : ∀ {bx : Bx} {hp : List Seg}, CallOb Tryz.prog ⟨w, kys [] []⟩ bx hp 137 [.slice b A.length cb, .int .i64 n] (str (hshB n B)) := fun {_ _} w' hw' => by
      rw [hT.len]; exact Tryz.hashed_w n hn B b cb w' (by have := hT.few; have := hT.len; omega) (by have := hT.len; omega) hT.xb (hb.ext hw'.ext (by simp [kys])) (Tryz.sha_ext hS hw'.ext)
    refine Tri.enter (bx := []) (hp := []) Tryz.func136 rfl (by kernel_rfl) rfl (Own.nil w) ?_
    refine At.go [] [] rfl (by and_intros <;> first | exact fA | exact fB | exact rdS h2 0 rfl | (simp; done) | exact oK) ?_
    refine At.qt [] [hR [.int .i64 ↑n], hC (.string { data := (hshB n A).toArray }), hR [.int .i64 ↑n], hC (.string { data := (hshB n B).toArray })] rfl rfl (by and_intros <;> first | exact fA | exact fB | exact rdS h2 0 rfl | (simp; done) | exact oK) ?_
    refine At.go [true] [] rfl (by and_intros <;> first | exact fA | exact fB | exact rdS h2 0 rfl | (simp [hh]; done) | exact oK) ?_
    refine At.rt [] [] [] Tryz.func136 ?_
    exact ⟨rfl, rfl, rfl⟩
  | succ N ih =>
    intro A B a b ca cb w hN hT hca hcb ha hb hS h2 h3
    have fA : ∀ {bx : Bx} {hp : List Seg}, CallOb Tryz.prog ⟨w, kys [] []⟩ bx hp 137 [.slice a A.length ca, .int .i64 n] (str (hshB n A)) := fun {_ _} w' hw' => Tryz.hashed_w n hn A a ca w' hT.few hca hT.xa (ha.ext hw'.ext (by simp [kys])) (Tryz.sha_ext hS hw'.ext)
    have fB : ∀ {bx : Bx} {hp : List Seg}, CallOb Tryz.prog ⟨w, kys [] []⟩ bx hp 137 [.slice b A.length cb, .int .i64 n] (str (hshB n B)) := fun {_ _} w' hw' => by
      rw [hT.len]; exact Tryz.hashed_w n hn B b cb w' (by have := hT.few; have := hT.len; omega) (by have := hT.len; omega) hT.xb (hb.ext hw'.ext (by simp [kys])) (Tryz.sha_ext hS hw'.ext)
    by_cases hh : hshB n A = hshB n B
    · have hl2 := (hsh_step hn.2 hT.len hT.ne hh).1
      have hs := splN_in hl2
      have hlen := hT.len; have hfew := hT.few
      obtain ⟨g, o, rfl, -⟩ := ha.get (by intro e; have := congrArg List.length e; rw [List.length_map] at this; simp only [List.length_nil] at this; omega)
      obtain ⟨g', o', rfl, -⟩ := hb.get (by intro e; have := congrArg List.length e; rw [List.length_map] at this; simp only [List.length_nil] at this; omega)
      have gL := fun ht => downB_left (f := N) hh (a := A) (b := B) ht
      have gR := fun ht => downB_right (f := N) hh (a := A) (b := B) ht
      have tL := fun ht => hT.left hn.2 hh ht
      have tR := fun ht => hT.right hn.2 hh ht
      obtain ⟨k, hk⟩ : ∃ k, splN A.length = k := ⟨_, rfl⟩
      rw [hk] at hs gL gR tL tR
      have eT : (A.take k).length = (k : Int).toNat := by rw [List.length_take]; omega
      have eT' : (B.take k).length = (k : Int).toNat := by rw [List.length_take]; omega
      have eD : (A.drop k).length = A.length - (k : Int).toNat := by rw [List.length_drop]; omega
      have fS : ∀ {S : Base} {bx : Bx} {hp : List Seg}, CallOb Tryz.prog S bx hp 128 [.int .i64 A.length] (.int .i64 (k : Int)) := fun {_ _ _} w' _ => by rw [← hk]; exact Tryz.tSplit_w A.length w' (by omega)
      have fE : ∀ {bx : Bx} {hp : List Seg}, CallOb Tryz.prog ⟨w, kys [] []⟩ bx hp 54 [.slice (some ⟨g, o, none⟩) (k : Int).toNat ca, .slice (some ⟨g', o', none⟩) (k : Int).toNat cb] (.bool (decide (A.take k = B.take k))) := fun {_ _} w' hw' => by
        have := Tryz.slEqual_w (A.take k) (B.take k) _ _ ca cb w' (by rw [eT]; omega) (SlOk.rowsT k (ha.ext hw'.ext (by simp [kys]))) (SlOk.rowsT k (hb.ext hw'.ext (by simp [kys])))
        rwa [eT, eT'] at this
      by_cases ht : A.take k = B.take k
      · rw [gR ht]
        have fR : ∀ {bx : Bx} {hp : List Seg}, CallOb Tryz.prog ⟨w, kys [] []⟩ bx hp 136 [.slice (some ⟨g, o + (k : Int).toNat * 1, none⟩) (A.length - (k : Int).toNat) (ca - (k : Int).toNat), .slice (some ⟨g', o' + (k : Int).toNat * 1, none⟩) (A.length - (k : Int).toNat) (cb - (k : Int).toNat), .pointer (some ⟨b2, 0, none⟩), .pointer (some ⟨b3, 0, none⟩)] (.tuple #[str (downB n N (A.drop k) (B.drop k)).1, str (downB n N (A.drop k) (B.drop k)).2]) := fun {_ _} w' hw' => by
          have := ih (A.drop k) (B.drop k) (some ⟨g, o + k, none⟩) (some ⟨g', o' + k, none⟩) (ca - k) (cb - k) w' (by rw [List.length_drop]; omega) (tR ht) (by rw [List.length_drop]; omega) (by rw [List.length_drop]; omega) (SlOk.rowsD k (ha.ext hw'.ext (by simp [kys]))) (SlOk.rowsD k (hb.ext hw'.ext (by simp [kys]))) (Tryz.sha_ext hS hw'.ext) (h2.ext hw'.ext (by simp [kys])) (h3.ext hw'.ext (by simp [kys]))
          rw [eD] at this
          simpa using this
        generalize downB n N (A.drop k) (B.drop k) = Z at fR ⊢
        obtain ⟨z1, z2⟩ := Z
        refine Tri.enter (bx := []) (hp := []) Tryz.func136 rfl (by kernel_rfl) rfl (Own.nil w) ?_
        refine At.go [] [] rfl (by and_intros <;> first | exact fA | exact fB | exact fS | exact fE | exact fR | exact rdS h2 0 rfl | exact rdS h3 0 rfl | (simp; done) | (simp [ht]; done) | omega | exact oK) ?_
        refine At.qt [] [hR [.int .i64 ↑n], hC (.string { data := (hshB n A).toArray }), hR [.int .i64 ↑n], hC (.string { data := (hshB n B).toArray })] rfl rfl (by and_intros <;> first | exact fA | exact fB | exact fS | exact fE | exact fR | exact rdS h2 0 rfl | exact rdS h3 0 rfl | (simp; done) | (simp [ht]; done) | omega | exact oK) ?_
        refine At.go [false] [hC (.int .i64 ↑k)] rfl (by and_intros <;> first | exact fA | exact fB | exact fS | exact fE | exact fR | exact rdS h2 0 rfl | exact rdS h3 0 rfl | (simp [hh]; done) | (simp [ht]; done) | omega | exact oK) ?_
        refine At.qt [] [hC (.bool (decide (List.take k A = List.take k B)))] rfl rfl (by and_intros <;> first | exact fA | exact fB | exact fS | exact fE | exact fR | exact rdS h2 0 rfl | exact rdS h3 0 rfl | (simp; done) | (simp; done) | omega | exact oK) ?_
        refine At.go [false] [] rfl (by and_intros <;> first | exact fA | exact fB | exact fS | exact fE | exact fR | exact rdS h2 0 rfl | exact rdS h3 0 rfl | (simp; done) | (simp [ht]; done) | omega | exact oK) ?_
        refine At.qt [] [hR [.func (Fn.func 136) ⟨[]⟩ ⟨[.pointer (some ⟨b2, 0, none⟩), .pointer (some ⟨b3, 0, none⟩)]⟩], hC (.tuple { toList := [.string { data := (z1, z2).fst.toArray }, .string { data := (z1, z2).snd.toArray }] })] rfl rfl (by and_intros <;> first | exact fA | exact fB | exact fS | exact fE | exact fR | exact rdS h2 0 rfl | exact rdS h3 0 rfl | (simp; done) | (simp; done) | omega | exact oK) ?_
        refine At.go [] [] rfl (by and_intros <;> first | exact fA | exact fB | exact fS | exact fE | exact fR | exact rdS h2 0 rfl | exact rdS h3 0 rfl | (simp; done) | (simp [ht]; done) | omega | exact oK) ?_
        refine At.rt [] [] [] Tryz.func136 ?_
        exact ⟨rfl, rfl, rfl⟩
      · rw [gL ht]
        have fR : ∀ {bx : Bx} {hp : List Seg}, CallOb Tryz.prog ⟨w, kys [] []⟩ bx hp 136 [.slice (some ⟨g, o, none⟩) (k : Int).toNat ca, .slice (some ⟨g', o', none⟩) (k : Int).toNat cb, .pointer (some ⟨b2, 0, none⟩), .pointer (some ⟨b3, 0, none⟩)] (.tuple #[str (downB n N (A.take k) (B.take k)).1, str (downB n N (A.take k) (B.take k)).2]) := fun {_ _} w' hw' => by
          have := ih (A.take k) (B.take k) (some ⟨g, o, none⟩) (some ⟨g', o', none⟩) ca cb w' (by rw [List.length_take]; omega) (tL ht) (by rw [List.length_take]; omega) (by rw [List.length_take]; omega) (SlOk.rowsT k (ha.ext hw'.ext (by simp [kys]))) (SlOk.rowsT k (hb.ext hw'.ext (by simp [kys]))) (Tryz.sha_ext hS hw'.ext) (h2.ext hw'.ext (by simp [kys])) (h3.ext hw'.ext (by simp [kys]))
          rwa [eT] at this
        generalize downB n N (A.take k) (B.take k) = Z at fR ⊢
        obtain ⟨z1, z2⟩ := Z
        refine Tri.enter (bx := []) (hp := []) Tryz.func136 rfl (by kernel_rfl) rfl (Own.nil w) ?_
        refine At.go [] [] rfl (by and_intros <;> first | exact fA | exact fB | exact fS | exact fE | exact fR | exact rdS h2 0 rfl | exact rdS h3 0 rfl | (simp; done) | (simp [ht]; done) | omega | exact oK) ?_
        refine At.qt [] [hR [.int .i64 ↑n], hC (.string { data := (hshB n A).toArray }), hR [.int .i64 ↑n], hC (.string { data := (hshB n B).toArray })] rfl rfl (by and_intros <;> first | exact fA | exact fB | exact fS | exact fE | exact fR | exact rdS h2 0 rfl | exact rdS h3 0 rfl | (simp; done) | (simp [ht]; done) | omega | exact oK) ?_
        refine At.go [false] [hC (.int .i64 ↑k)] rfl (by and_intros <;> first | exact fA | exact fB | exact fS | exact fE | exact fR | exact rdS h2 0 rfl | exact rdS h3 0 rfl | (simp [hh]; done) | (simp [ht]; done) | omega | exact oK) ?_
        refine At.qt [] [hC (.bool (decide (List.take k A = List.take k B)))] rfl rfl (by and_intros <;> first | exact fA | exact fB | exact fS | exact fE | exact fR | exact rdS h2 0 rfl | exact rdS h3 0 rfl | (simp; done) | (simp; done) | omega | exact oK) ?_
        refine At.go [true] [] rfl (by and_intros <;> first | exact fA | exact fB | exact fS | exact fE | exact fR | exact rdS h2 0 rfl | exact rdS h3 0 rfl | (simp; done) | (simp [ht]; done) | omega | exact oK) ?_
        refine At.qt [] [hR [.func (Fn.func 136) ⟨[]⟩ ⟨[.pointer (some ⟨b2, 0, none⟩), .pointer (some ⟨b3, 0, none⟩)]⟩], hC (.tuple { toList := [.string { data := (z1, z2).fst.toArray }, .string { data := (z1, z2).snd.toArray }] })] rfl rfl (by and_intros <;> first | exact fA | exact fB | exact fS | exact fE | exact fR | exact rdS h2 0 rfl | exact rdS h3 0 rfl | (simp; done) | (simp; done) | omega | exact oK) ?_
        refine At.go [] [] rfl (by and_intros <;> first | exact fA | exact fB | exact fS | exact fE | exact fR | exact rdS h2 0 rfl | exact rdS h3 0 rfl | (simp; done) | (simp [ht]; done) | omega | exact oK) ?_
        refine At.rt [] [] [] Tryz.func136 ?_
        exact ⟨rfl, rfl, rfl⟩
    · rw [downB_ne hh]
      refine Tri.enter (bx := []) (hp := []) Tryz.func136 rfl (by kernel_rfl) rfl (Own.nil w) ?_
      refine At.go [] [] rfl (by and_intros <;> first | exact fA | exact fB | exact rdS h2 0 rfl | (simp; done) | exact oK) ?_
      refine At.qt [] [hR [.int .i64 ↑n], hC (.string { data := (hshB n A).toArray }), hR [.int .i64 ↑n], hC (.string { data := (hshB n B).toArray })] rfl rfl (by and_intros <;> first | exact fA | exact fB | exact rdS h2 0 rfl | (simp; done) | exact oK) ?_
      refine At.go [true] [] rfl (by and_intros <;> first | exact fA | exact fB | exact rdS h2 0 rfl | (simp [hh]; done) | exact oK) ?_
      refine At.rt [] [] [] Tryz.func136 ?_
      exact ⟨rfl, rfl, rfl⟩
theorem Tryz.down_w (n : Nat) (hn : 1 ≤ n ∧ n ≤ 32) (N : Nat) (A B : List (List UInt8)) (a b : Option Addr) (ca cb : Nat) (w : World) (hN : A.length ≤ N + 1) (hT : TwoOk n A B) (hca : A.length ≤ ca) (hcb : A.length ≤ cb) (ha : SlOk w a (A.map str)) (hb : SlOk w b (B.map str)) (hS : Tryz.Sha w) :
    Fun Tryz.prog 95 [.slice a A.length ca, .slice b A.length cb, .int .i64 n] w (.tuple #[str (downB n N A B).1, str (downB n N A B).2]) := by
  have fD : ∀ {b5 b8 : Nat} {bx : Bx} {hp : List Seg}, nth bx 1 = some (b5, 3, [.int .i64 n]) → nth bx 0 = some (b8, 178, [.func (.func 136) ⟨[]⟩ ⟨[.pointer (some ⟨b5, 0, none⟩), .pointer (some ⟨b8, 0, none⟩)]⟩]) → CallOb Tryz.prog ⟨w, kys [] []⟩ bx hp 136 [.slice a A.length ca, .slice b A.length cb, .pointer (some ⟨b5, 0, none⟩), .pointer (some ⟨b8, 0, none⟩)] (.tuple #[str (downB n N A B).1, str (downB n N A B).2]) := fun {b5 b8 _ _} h5 h8 w' hw' =>
    Tryz.down1_w n hn b5 b8 N A B a b ca cb w' hN hT hca hcb (ha.ext hw'.ext (by simp [kys])) (hb.ext hw'.ext (by simp [kys])) (Tryz.sha_ext hS hw'.ext) (SlOk.blk (hw'.bx _ (nth_mem h5))) (SlOk.blk (hw'.bx _ (nth_mem h8)))
  generalize downB n N A B = Z at fD ⊢
  obtain ⟨z1, z2⟩ := Z
  refine Tri.enter (bx := []) (hp := []) Tryz.func95 rfl (by kernel_rfl) rfl (Own.nil w) ?_
  refine At.go [] [] rfl (by and_intros <;> first | exact fD rfl rfl | exact oK) ?_
  refine At.bo fun b5 hb5 => ?_
  refine At.go [] [] rfl (by and_intros <;> first | exact fD rfl rfl | exact oK) ?_
  refine At.al fun b8 hb8 => ?_
  refine At.go [] [hB 0, hB 0, hC (.tuple { toList := [.string { data := (z1, z2).fst.toArray }, .string { data := (z1, z2).snd.toArray }] })] rfl (by and_intros <;> first | exact fD rfl rfl | exact oK) ?_
  refine At.rt [] [] [] Tryz.func95 ?_
  exact ⟨rfl, rfl, rfl⟩
theorem Tryz.cright_w (n : Nat) (hn : 1 ≤ n ∧ n ≤ 32) (la lb : Nat) (a b : Option Addr) (ca cb bs : Nat) (w : World) (hla : la ≤ 4096) (hlb : lb ≤ 4096) (hs : SlOk w (some ⟨bs, 0, none⟩) [.slice a la ca, .slice b lb cb]) :
    Fun Tryz.prog 135 [.int .i64 n, .int .i64 4096, .slice (some ⟨bs, 0, none⟩) 2 2] w (.int .i64 0) := by
  refine Tri.enter (bx := []) (hp := []) Tryz.func135 rfl (by kernel_rfl) rfl (Own.nil w) ?_
  refine At.go [false, false] [] rfl (by and_intros <;> first | exact decide_eq_false (by omega) | exact oK) ?_
  refine At.loop (env0 := [(1, .int .i64 4096), (15, .slice (some ⟨bs, 0, none⟩) 2 2), (16, .int .i64 ↑2), (17, .int .i64 0)]) (fun m_ env bx hp => ∃ (i : Nat), m_ = 2 - i ∧ (i ≤ 2) ∧ env = [(1, .int .i64 4096), (15, .slice (some ⟨bs, 0, none⟩) 2 2), (16, .int .i64 ↑2), (17, .int .i64 (i : Int))] ∧ bx = [] ∧ hp = []) rfl
    ⟨0, rfl, (by omega), rfl, rfl, rfl⟩ sB ?_
  rintro m_ env bx hp ⟨i, rfl, hi, rfl, rfl, rfl⟩ ih
  by_cases h0 : i = 0
  · subst h0
    refine At.go [true, false] [hR [.slice a la ca]] rfl (by and_intros <;> first | exact rdS hs 0 rfl | exact decide_eq_true (by omega) | exact decide_eq_false (by omega) | exact oK) ?_
    exact At.weak (ih _ _ _ _ (by omega) ⟨0 + 1, rfl, by omega, rfl, rfl, rfl⟩) sB
  by_cases h1 : i = 1
  · subst h1
    refine At.go [true, false] [hR [.slice b lb cb]] rfl (by and_intros <;> first | exact rdS hs 1 rfl | exact decide_eq_true (by omega) | exact decide_eq_false (by omega) | exact oK) ?_
    exact At.weak (ih _ _ _ _ (by omega) ⟨1 + 1, rfl, by omega, rfl, rfl, rfl⟩) sB
  obtain rfl : i = 2 := by omega
  refine At.go [false] [] rfl (by and_intros <;> first | exact decide_eq_false (by omega) | exact oK) ?_
  refine At.rt [] [] [] Tryz.func135 ?_
  exact ⟨rfl, rfl, rfl⟩
theorem Tryz.found_w (n : Nat) (hn : 1 ≤ n ∧ n ≤ 32) (A B : List (List UInt8)) (a b : Option Addr) (ca cb : Nat) (F G : FuncId) (cf u1 u2 u3 : Value) (z : List UInt8 × List UInt8) (w : World) (hT : TwoOk n A B) (ha : SlOk w a (A.map str)) (hb : SlOk w b (B.map str))
    (hF : ∀ w', Ext [] w w' → Fun Tryz.prog F [.slice a A.length ca, cf] w' (str (rootB n A))) (hF' : ∀ w', Ext [] w w' → Fun Tryz.prog F [.slice b A.length cb, cf] w' (str (rootB n A))) (hG : ∀ w', Ext [] w w' → Fun Tryz.prog G [u1, u2, u3] w' (.tuple #[str z.1, str z.2])) :
    Fun Tryz.prog 93 [.slice a A.length ca, .slice b A.length cb, .int .i64 n, .func (.func F) ⟨[]⟩ ⟨[cf]⟩, .func (.func G) ⟨[]⟩ ⟨[u1, u2, u3]⟩] w (.tuple #[str z.1, str z.2, .int .i64 0]) := by
  have hfew := hT.few; have hlen := hT.len
  have fR : ∀ {bs : Nat} {t : TypeId} {bx : Bx} {hp : List Seg}, nth bx 0 = some (bs, t, [.slice a A.length ca, .slice b A.length cb]) → CallOb Tryz.prog ⟨w, kys [] []⟩ bx hp 135 [.int .i64 n, .int .i64 4096, .slice (some ⟨bs, 0, none⟩) 2 2] (.int .i64 0) := fun {bs _ _ _} h w' hw' =>
    Tryz.cright_w n hn A.length A.length a b ca cb bs w' hfew (by omega) (SlOk.blk (hw'.bx _ (nth_mem h)))
  have fE : ∀ {bx : Bx} {hp : List Seg}, CallOb Tryz.prog ⟨w, kys [] []⟩ bx hp 54 [.slice a A.length ca, .slice b A.length cb] (.bool false) := fun {_ _} w' hw' => by
    have := Tryz.slEqual_w A B a b ca cb w' (by omega) (ha.ext hw'.ext (by simp [kys])) (hb.ext hw'.ext (by simp [kys]))
    rwa [← hlen, decide_eq_false hT.ne] at this
  have fF : ∀ {bx : Bx} {hp : List Seg}, CallOb Tryz.prog ⟨w, kys [] []⟩ bx hp F [.slice a A.length ca, cf] (str (rootB n A)) := fun {_ _} w' hw' => hF w' hw'.ext
  have fF' : ∀ {bx : Bx} {hp : List Seg}, CallOb Tryz.prog ⟨w, kys [] []⟩ bx hp F [.slice b A.length cb, cf] (str (rootB n A)) := fun {_ _} w' hw' => hF' w' hw'.ext
  have fG : ∀ {bx : Bx} {hp : List Seg}, CallOb Tryz.prog ⟨w, kys [] []⟩ bx hp G [u1, u2, u3] (.tuple #[str z.1, str z.2]) := fun {_ _} w' hw' => hG w' hw'.ext
  obtain ⟨z1, z2⟩ := z
  refine Tri.enter (bx := []) (hp := []) Tryz.func93 rfl (by kernel_rfl) rfl (Own.nil w) ?_
  refine At.go [] [] rfl (by and_intros <;> first | exact trivial | exact oK) ?_
  refine At.step [] rfl rfl rfl rfl rfl trivial (OpOk.buildSlice rfl rfl rfl rfl rfl rfl rfl fun bs hbs => ?_)
  refine At.go [false, false, false, false] [hC (.int .i64 0), hC (.string { data := (rootB n A).toArray }), hC (.string { data := (rootB n A).toArray }), hC (.bool false), hC (.tuple { toList := [.string { data := (z1, z2).fst.toArray }, .string { data := (z1, z2).snd.toArray }] })] rfl (by and_intros <;> first | exact fR rfl | exact fE | exact fF | exact fF' | exact fG | (simp; done) | exact oK) ?_
  refine At.rt [false] [] [] Tryz.func93 ?_
  exact ⟨rfl, rfl, rfl⟩
theorem Tryz.cFind1_w (n : Nat) (hn : 1 ≤ n ∧ n ≤ 32) (l : List (List UInt8)) (a : Option Addr) (cap b5 : Nat) (w : World) (hl : l.length ≤ 4096) (hcap : l.length ≤ cap) (hx : ∀ x, x ∈ l → x.length ≤ 100000) (hr : SlOk w a (l.map str)) (hS : Tryz.Sha w) (h5 : SlOk w (some ⟨b5, 0, none⟩) [.int .i64 n]) :
    Fun Tryz.prog 91 [.slice a l.length cap, .pointer (some ⟨b5, 0, none⟩)] w (str (rootB n l)) := by
  have fR : ∀ {bx : Bx} {hp : List Seg}, CallOb Tryz.prog ⟨w, kys [] []⟩ bx hp 92 [.slice a l.length cap, .int .i64 n] (.tuple #[str (rootB n l), .int .i64 0]) := fun {_ _} w' hw' => Tryz.tRoot_w n hn l a cap w' hl hcap hx (hr.ext hw'.ext (by simp [kys])) (Tryz.sha_ext hS hw'.ext)
  refine Tri.enter (bx := []) (hp := []) Tryz.func91 rfl (by kernel_rfl) rfl (Own.nil w) ?_
  refine At.go [] [hR [.int .i64 ↑n], hC (.tuple { toList := [.string { data := (rootB n l).toArray }, .int .i64 0] })] rfl (by and_intros <;> first | exact fR | exact rdS h5 0 rfl | exact oK) ?_
  refine At.rt [] [] [] Tryz.func91 ?_
  exact ⟨rfl, rfl, rfl⟩
theorem Tryz.cFind2_w (n : Nat) (hn : 1 ≤ n ∧ n ≤ 32) (N : Nat) (A B : List (List UInt8)) (a b : Option Addr) (ca cb b3 b4 b5 : Nat) (w : World) (hN : A.length ≤ N + 1) (hT : TwoOk n A B) (hca : A.length ≤ ca) (hcb : A.length ≤ cb) (ha : SlOk w a (A.map str)) (hb : SlOk w b (B.map str)) (hS : Tryz.Sha w)
    (h3 : SlOk w (some ⟨b3, 0, none⟩) [.slice a A.length ca]) (h4 : SlOk w (some ⟨b4, 0, none⟩) [.slice b A.length cb]) (h5 : SlOk w (some ⟨b5, 0, none⟩) [.int .i64 n]) :
    Fun Tryz.prog 94 [.pointer (some ⟨b3, 0, none⟩), .pointer (some ⟨b4, 0, none⟩), .pointer (some ⟨b5, 0, none⟩)] w (.tuple #[str (downB n N A B).1, str (downB n N A B).2]) := by
  have fD : ∀ {bx : Bx} {hp : List Seg}, CallOb Tryz.prog ⟨w, kys [] []⟩ bx hp 95 [.slice a A.length ca, .slice b A.length cb, .int .i64 n] (.tuple #[str (downB n N A B).1, str (downB n N A B).2]) := fun {_ _} w' hw' => Tryz.down_w n hn N A B a b ca cb w' hN hT hca hcb (ha.ext hw'.ext (by simp [kys])) (hb.ext hw'.ext (by simp [kys])) (Tryz.sha_ext hS hw'.ext)
  generalize downB n N A B = Z at fD ⊢
  obtain ⟨z1, z2⟩ := Z
  refine Tri.enter (bx := []) (hp := []) Tryz.func94 rfl (by kernel_rfl) rfl (Own.nil w) ?_
  refine At.go [] [hR [.slice a A.length ca], hR [.slice b A.length cb], hR [.int .i64 ↑n], hC (.tuple { toList := [.string { data := (z1, z2).fst.toArray }, .string { data := (z1, z2).snd.toArray }] })] rfl (by and_intros <;> first | exact fD | exact rdS h3 0 rfl | exact rdS h4 0 rfl | exact rdS h5 0 rfl | exact oK) ?_
  refine At.rt [] [] [] Tryz.func94 ?_
  exact ⟨rfl, rfl, rfl⟩
theorem Tryz.cFind_w (n : Nat) (hn : 1 ≤ n ∧ n ≤ 32) (N : Nat) (A B : List (List UInt8)) (a b : Option Addr) (ca cb : Nat) (w : World) (hN : A.length ≤ N + 1) (hT : TwoOk n A B) (hca : A.length ≤ ca) (hcb : A.length ≤ cb) (ha : SlOk w a (A.map str)) (hb : SlOk w b (B.map str)) (hS : Tryz.Sha w) :
    Fun Tryz.prog 56 [.slice a A.length ca, .slice b A.length cb, .int .i64 n] w (.tuple #[str (downB n N A B).1, str (downB n N A B).2, .int .i64 0]) := by
  have fF : ∀ {b3 b4 b5 : Nat} {bx : Bx} {hp : List Seg}, nth bx 2 = some (b3, 41, [.slice a A.length ca]) → nth bx 1 = some (b4, 41, [.slice b A.length cb]) → nth bx 0 = some (b5, 3, [.int .i64 n]) → CallOb Tryz.prog ⟨w, kys [] []⟩ bx hp 93 [.slice a A.length ca, .slice b A.length cb, .int .i64 n, .func (.func 91) ⟨[]⟩ ⟨[.pointer (some ⟨b5, 0, none⟩)]⟩, .func (.func 94) ⟨[]⟩ ⟨[.pointer (some ⟨b3, 0, none⟩), .pointer (some ⟨b4, 0, none⟩), .pointer (some ⟨b5, 0, none⟩)]⟩] (.tuple #[str (downB n N A B).1, str (downB n N A B).2, .int .i64 0]) := fun {b3 b4 b5 _ _} h3 h4 h5 w' hw' => by
    have k3 := SlOk.blk (hw'.bx _ (nth_mem h3))
    have k4 := SlOk.blk (hw'.bx _ (nth_mem h4))
    have k5 := SlOk.blk (hw'.bx _ (nth_mem h5))
    have ha' := ha.ext hw'.ext (by simp [kys])
    have hb' := hb.ext hw'.ext (by simp [kys])
    have hS' := Tryz.sha_ext hS hw'.ext
    have hfew := hT.few; have hlen := hT.len
    exact Tryz.found_w n hn A B a b ca cb _ _ _ _ _ _ (downB n N A B) w' hT ha' hb'
      (fun w2 he => Tryz.cFind1_w n hn A a ca b5 w2 hfew hca hT.xa (ha'.ext he (by simp)) (Tryz.sha_ext hS' he) (k5.ext he (by simp)))
      (fun w2 he => by
        have := Tryz.cFind1_w n hn B b cb b5 w2 (by omega) (by omega) hT.xb (hb'.ext he (by simp)) (Tryz.sha_ext hS' he) (k5.ext he (by simp))
        rwa [← hlen, ← hT.root] at this)
      (fun w2 he => Tryz.cFind2_w n hn N A B a b ca cb b3 b4 b5 w2 hN hT hca hcb (ha'.ext he (by simp)) (hb'.ext he (by simp)) (Tryz.sha_ext hS' he) (k3.ext he (by simp)) (k4.ext he (by simp)) (k5.ext he (by simp)))
  generalize downB n N A B = Z at fF ⊢
  obtain ⟨z1, z2⟩ := Z
  refine Tri.enter (bx := []) (hp := []) Tryz.func56 rfl (by kernel_rfl) rfl (Own.nil w) ?_
  refine At.go [] [] rfl (by and_intros <;> first | exact fF rfl rfl rfl | exact oK) ?_
  refine At.bo fun b3 hb3 => ?_
  refine At.bo fun b4 hb4 => ?_
  refine At.bo fun b5 hb5 => ?_
  refine At.go [] [hB 2, hB 1, hB 0, hC (.tuple { toList := [.string { data := (z1, z2).fst.toArray }, .string { data := (z1, z2).snd.toArray }, .int .i64 0] })] rfl (by and_intros <;> first | exact fF rfl rfl rfl | exact oK) ?_
  refine At.rt [] [] [] Tryz.func56 ?_
  exact ⟨rfl, rfl, rfl⟩
end Go.Proofs

/-
  Walks of layer 25: headers that aren't alike, from the last ones back.
-/
namespace Go.Proofs
open Go Go.Eng
set_option maxRecDepth 100000
set_option maxHeartbeats 4000000
attribute [local irreducible] Tri

def bkL (H : List HdB) (c : Nat) : List (Nat × HdB) := (List.range c).map fun i => (H.length - 1 - i, hdAt H (H.length - 1 - i))
def encKH (x : Nat × HdB) : List Value := [.int .i64 (x.1 : Int), .agg ⟨hdC x.2⟩]
theorem bkL_len (H : List HdB) (c : Nat) : (bkL H c).length = c := by simp [bkL]
theorem bkL_get (H : List HdB) {c i : Nat} (h : i < c) : (bkL H c)[i]? = some (H.length - 1 - i, hdAt H (H.length - 1 - i)) := by
  unfold bkL; rw [List.getElem?_map, List.getElem?_range h]; rfl
theorem bkL_pre {H : List HdB} {c : Nat} {pre : List (Nat × HdB)} {x : Nat × HdB} (h : pre ++ [x] <+: bkL H c) : pre.length < c ∧ x = (H.length - 1 - pre.length, hdAt H (H.length - 1 - pre.length)) := by
  obtain ⟨t, ht⟩ := h
  have hlt : pre.length < c := by have := congrArg List.length ht; rw [bkL_len] at this; simp at this; omega
  refine ⟨hlt, ?_⟩
  have h1 : (bkL H c)[pre.length]? = some x := by rw [← ht]; simp
  rw [bkL_get H hlt] at h1
  exact (Option.some.inj h1).symm
theorem bkL_take (H : List HdB) {c i : Nat} (h : i < c) : (bkL H c).take (i + 1) = (bkL H c).take i ++ [(H.length - 1 - i, hdAt H (H.length - 1 - i))] := by
  rw [List.take_add_one, bkL_get H h]; rfl
theorem Tryz.backw_w (H : List HdB) (a : Option Addr) (cap : Nat) (w : World) : Tri Tryz.prog 89 [.slice a H.length cap] w [] (fun v bx hp => ∃ b, v = .func (.func 132) #[] #[.pointer (some ⟨b, 0, none⟩)] ∧ bx = [(b, 40, [.slice a H.length cap])] ∧ hp = []) := by
  refine Tri.enter (bx := []) (hp := []) Tryz.func89 rfl (by kernel_rfl) rfl (Own.nil w) ?_
  refine At.go [] [] rfl oK ?_
  refine At.bo fun b1 hb1 => ?_
  refine At.go [] [] rfl oK ?_
  refine At.rt [true] [] [] Tryz.func89 ?_
  exact ⟨_, rfl, rfl, rfl⟩
theorem Tryz.backw1_w (stop : Bool) (H : List HdB) (c : Nat) (a : Option Addr) (cap b : Nat) (w : World) (hl : H.length ≤ 1000000) (hc : c ≤ H.length) (h0 : stop = false → c = H.length) (h1 : stop = true → 1 ≤ c) :
    IterS Tryz.prog 132 [.pointer (some ⟨b, 0, none⟩)] [(b, 40, [.slice a H.length cap])] (fun bx => bx = [(b, 40, [.slice a H.length cap])]) (fun w => SlOk w a (H.flatMap hdC)) encKH (bkL H c) stop w := by
  intro y s0 J hJ hown hread hyield
  refine Tri.enter Tryz.func132 rfl (by kernel_rfl) rfl hown ?_
  have hsl := hread [] s0 w hJ (hown.hp s0 (by simp))
  have hbl := bkL_len H c
  refine At.go [] [hB 0] rfl oK ?_
  rw [show (H.length : Int) - 1 = (H.length : Int) - 1 - ((0 : Nat) : Int) by omega]
  refine At.loop (env0 := [(0, .func (Fn.yield y) ⟨[]⟩ ⟨[]⟩), (1, .pointer (some ⟨b, 0, none⟩)), (3, .int .i64 (↑H.length - 1 - ↑0))]) (fun m_ env bx hp => ∃ (i : Nat) (s1 : Seg), m_ = H.length - i ∧ (i ≤ c) ∧ (stop = true → i < c) ∧ (J ((bkL H c).take i) s1) ∧ env = [(0, .func (Fn.yield y) ⟨[]⟩ ⟨[]⟩), (1, .pointer (some ⟨b, 0, none⟩)), (3, .int .i64 ((H.length : Int) - 1 - (i : Int)))] ∧ bx = [(b, 40, [.slice a H.length cap])] ∧ hp = [s1]) rfl
    ⟨0, s0, rfl, (by omega), (h1), (by simpa using hJ), rfl, rfl, rfl⟩ sB ?_
  rintro m_ env bx hp ⟨i, s1, rfl, hi, hst, hJp, rfl, rfl, rfl⟩ ih
  by_cases hlt : i < c
  · obtain ⟨k, hk⟩ : ∃ k, H.length - 1 - i = k := ⟨_, rfl⟩
    have hkI : (H.length : Int) - 1 - (i : Int) = (k : Int) := by omega
    rw [hkI]
    have hH := hdAt_get (H := H) (k := k) (by omega)
    have htk := bkL_take H hlt
    rw [hk] at htk
    have hne : H.flatMap hdC ≠ [] := by intro e; have := flat_get (f := hdC) (sz := 6) (fun _ _ => rfl) hH 0 _ rfl; rw [e] at this; simp at this
    obtain ⟨g, o, rfl, -⟩ := hsl.get hne
    generalize hdAt H k = x at hH htk
    have rX : ∀ {S : Base} {bx : Bx}, RdW S bx [s1] g (o + (k : Int).toNat * 6) (hdC x) := fun {_ _} w' hw' j u hu => by
      obtain ⟨g2, o2, he, h2⟩ := (hread _ s1 w' hJp (hw'.hp s1 (by simp))).get hne
      cases he
      have h2 := h2 (k * 6 + j) u (flat_get (f := hdC) (sz := 6) (fun _ _ => rfl) hH j u hu)
      rwa [show o + (k : Int).toNat * 6 + j = o + (k * 6 + j) by omega]
    refine At.go [true] [hB 0, hR [.int .i64 x.i, .int .i64 x.f, .int .i64 x.c, .int .i64 x.b, .string { data := x.p.toArray }, .string { data := x.r.toArray }]] rfl (by and_intros <;> first | exact rX | exact decide_eq_true (by omega) | exact oK) ?_
    refine At.yieldA (a := !(stop && Nat.beq (i + 1) c)) [] rfl rfl rfl rfl rfl trivial (lp := y) (args := encKH (k, x)) rfl [] [true] (bm := []) (hm := [s1]) (br := [(b, 40, [.slice (some ⟨g, o, none⟩) H.length cap])]) (hr := []) (Q := fun bx hp => bx = [] ∧ ∃ s', hp = [s'] ∧ J ((bkL H c).take i ++ [(k, x)]) s') rfl
      (fun w' hw' => by
        have := hyield ((bkL H c).take i) (k, x) s1 w' (by rw [← htk]; exact List.take_prefix _ _) hJp (Own.tailF hw'.toOwn) hw'.ext
        rwa [List.length_take, hbl, Nat.min_eq_left (by omega)] at this) ?_
    rintro _ _ ⟨rfl, s', rfl, hJ'⟩
    rw [← htk] at hJ'
    by_cases hend : (stop && Nat.beq (i + 1) c) = true
    · rw [hend]
      have hic : i + 1 = c := by
        rw [Bool.and_eq_true] at hend
        exact Nat.eq_of_beq_eq_true hend.2
      refine At.go [true] [] rfl (by and_intros <;> first | (simp; done) | exact oK) ?_
      refine At.rt [true] [true] [] Tryz.func132 ?_
      exact ⟨rfl, s', rfl, by rw [hic, List.take_of_length_le (by omega)] at hJ'; exact hJ'⟩
    · have hend' : (stop && Nat.beq (i + 1) c) = false := (Bool.not_eq_true _).mp hend
      rw [hend']
      have hn : stop = true → i + 1 < c := fun h => by
        rw [h, Bool.true_and] at hend'
        have : i + 1 ≠ c := fun e => by rw [e, Nat.beq_refl] at hend'; cases hend'
        omega
      refine At.go [false] [] rfl (by and_intros <;> first | (simp; done) | exact oK) ?_
      rw [show (k : Int) - 1 = (H.length : Int) - 1 - ((i + 1 : Nat) : Int) by omega]
      exact At.weak (ih _ _ _ _ (by omega) ⟨i + 1, s', rfl, by omega, hn, hJ', rfl, rfl, rfl⟩) sB
  · have hs : stop = false := by
      cases hs : stop with
      | false => rfl
      | true => exact absurd (hst hs) hlt
    have hic : i = H.length := by have := h0 hs; omega
    rw [show (H.length : Int) - 1 - (i : Int) = -1 by omega]
    refine At.go [false] [] rfl (by and_intros <;> first | (simp; done) | exact oK) ?_
    refine At.rt [true] [true] [] Tryz.func132 ?_
    exact ⟨rfl, s1, rfl, by rw [List.take_of_length_le (by have := h0 hs; omega)] at hJp; exact hJp⟩
end Go.Proofs

/-
  Walks of layer 25: headers that aren't alike.
-/
namespace Go.Proofs
open Go Go.Eng
set_option maxRecDepth 100000
set_option maxHeartbeats 4000000
attribute [local irreducible] Tri

def hdV (X Y : List HdB) : Value := .tuple #[str ((lastD X Y X.length).elim [] fun k => putH (hdAt X k)), str ((lastD X Y X.length).elim [] fun k => putH (hdAt Y k)), .bool (lastD X Y X.length).isSome]
/-- How many headers are looked at. -/
def lastC (X Y : List HdB) : Nat := X.length - (lastD X Y X.length).getD 0
theorem lastC_le (X Y : List HdB) : lastC X Y ≤ X.length := Nat.sub_le _ _
theorem lastC_all {X Y : List HdB} (h : (lastD X Y X.length).isSome = false) : lastC X Y = X.length := by
  unfold lastC
  cases hD : lastD X Y X.length with
  | none => simp
  | some k => rw [hD] at h; cases h
theorem lastC_pos {X Y : List HdB} (h : (lastD X Y X.length).isSome = true) : 1 ≤ lastC X Y := by
  unfold lastC
  cases hD : lastD X Y X.length with
  | none => rw [hD] at h; cases h
  | some k => have := (lastD_some hD).1; simp only [Option.getD_some]; omega
theorem lastC_eq {X Y : List HdB} {i : Nat} (h : i < lastC X Y) (h2 : ((lastD X Y X.length).isSome && Nat.beq (i + 1) (lastC X Y)) = false) : hdAt X (X.length - 1 - i) = hdAt Y (X.length - 1 - i) := by
  unfold lastC at h h2
  cases hD : lastD X Y X.length with
  | none => rw [hD] at h; simp only [Option.getD_none] at h; exact lastD_none hD _ (by omega)
  | some k =>
    rw [hD] at h h2
    simp only [Option.getD_some, Option.isSome_some, Bool.true_and] at h h2
    have : i + 1 ≠ X.length - k := fun e => by rw [e, Nat.beq_refl] at h2; cases h2
    exact (lastD_some hD).2.2 _ (by omega) (by omega)
theorem lastC_ne {X Y : List HdB} {i : Nat} (_h : i < lastC X Y) (h2 : ((lastD X Y X.length).isSome && Nat.beq (i + 1) (lastC X Y)) = true) : lastD X Y X.length = some (X.length - 1 - i) ∧ hdAt X (X.length - 1 - i) ≠ hdAt Y (X.length - 1 - i) := by
  unfold lastC at _h h2
  cases hD : lastD X Y X.length with
  | none => rw [hD] at h2; cases h2
  | some k =>
    rw [hD] at _h h2
    simp only [Option.getD_some, Option.isSome_some, Bool.true_and] at _h h2
    have h3 := Nat.eq_of_beq_eq_true h2
    obtain ⟨h4, h5, -⟩ := lastD_some hD
    have : X.length - 1 - i = k := by omega
    rw [this]; exact ⟨rfl, h5⟩
theorem hd_neq {x y : HdB} (h : x ≠ y) : (!(decide (x.i = y.i) && (decide (x.f = y.f) && (decide (x.c = y.c) && (decide (x.b = y.b) && (decide (bl ⟨x.p.toArray⟩ = bl ⟨y.p.toArray⟩) && decide (bl ⟨x.r.toArray⟩ = bl ⟨y.r.toArray⟩))))))) = true := by
  obtain ⟨x1, x2, x3, x4, x5, x6⟩ := x
  obtain ⟨y1, y2, y3, y4, y5, y6⟩ := y
  rw [Bool.not_eq_true', ← Bool.not_eq_true]
  intro hc
  simp only [Bool.and_eq_true, decide_eq_true_eq, bl_of] at hc
  obtain ⟨rfl, rfl, rfl, rfl, rfl, rfl⟩ := hc
  exact h rfl
theorem Tryz.twHeaders_w (S T : FL) (n : Nat) (c1 c3 c4 : Int) (fa fb : Option Addr) (fc fd : Nat) (w : World) (hl1 : S.length ≤ 60) (hS1 : ∀ p, p ∈ S → p.2.length ≤ 6000) (hf1 : SlOk w fa (fl S)) (hl2 : T.length ≤ 60) (hS2 : ∀ p, p ∈ T → p.2.length ≤ 6000) (hf2 : SlOk w fb (fl T)) (hn : n ≤ 32) (hlen : (headsF S n).1.length = (headsF T n).1.length) :
    Fun Tryz.prog 55 [.slice fa S.length fc, .slice fb T.length fd, .agg ⟨[.int .i64 c1, .int .i64 n, .int .i64 c3, .int .i64 c4]⟩] w (hdV (headsF S n).1 (headsF T n).1) := by
  have fX := fun (w' : World) (hw' : Ext [] w w') => Tryz.imHeaders_w S c1 n c3 c4 fa fc w' hl1 hS1 (hf1.ext hw' (by simp))
  have fY := fun (w' : World) (hw' : Ext [] w w') => Tryz.imHeaders_w T c1 n c3 c4 fb fd w' hl2 hS2 (hf2.ext hw' (by simp))
  have hX := headsF_few (n := (n : Int)) hS1
  have mX := fun k (h : k < (headsF S n).1.length) => headsF_may (List.mem_of_getElem? (hdAt_get h))
  have mY := fun k (h : k < (headsF T n).1.length) => headsF_may (List.mem_of_getElem? (hdAt_get h))
  rw [← hlen] at mY
  generalize headsF S n = Z1 at fX hX mX mY hlen ⊢
  generalize headsF T n = Z2 at fY mY hlen ⊢
  obtain ⟨X, ok1⟩ := Z1
  obtain ⟨Y, ok2⟩ := Z2
  dsimp only at fX fY hX mX mY hlen ⊢
  refine Tri.enter (bx := []) (hp := []) Tryz.func55 rfl (by kernel_rfl) rfl (Own.nil w) ?_
  refine At.go [] [] rfl (by and_intros <;> first | exact trivial | exact oK) ?_
  refine At.bo fun b5 hb5 => ?_
  refine At.al fun b6 hb6 => ?_
  refine At.al fun b7 hb7 => ?_
  refine At.al fun b8 hb8 => ?_
  refine At.go [] [hB 3] rfl (by and_intros <;> first | exact trivial | exact oK) ?_
  refine At.step [] rfl rfl rfl rfl rfl trivial (OpOk.call rfl (fun w' hw' => fX w' hw'.ext) ?_)
  rintro _ _ _ ⟨gX, kX, rfl, rfl, rfl⟩
  refine At.go [] [hB 3] rfl (by and_intros <;> first | exact trivial | exact oK) ?_
  refine At.step [] rfl rfl rfl rfl rfl trivial (OpOk.call rfl (fun w' hw' => fY w' hw'.ext) ?_)
  rintro _ _ _ ⟨gY, kY, rfl, rfl, rfl⟩
  refine At.go [] [] rfl (by and_intros <;> first | exact trivial | exact oK) ?_
  refine At.al fun b11 hb11 => ?_
  refine At.go [] [hB 0] rfl (by and_intros <;> first | exact trivial | exact oK) ?_
  refine At.step [] rfl rfl rfl rfl rfl trivial (OpOk.call rfl (fun w' hw' => Tryz.backw_w X (svA gX) kX w') ?_)
  rintro _ _ _ ⟨b, rfl, rfl, rfl⟩
  refine At.go [] [] rfl (by and_intros <;> first | exact trivial | exact oK) ?_
  have hAll := @lastC_all X Y
  have hPos := @lastC_pos X Y
  have hEq := @lastC_eq X Y
  have hNe := @lastC_ne X Y
  have hcl := lastC_le X Y
  obtain ⟨stop, hstop⟩ : ∃ s, (lastD X Y X.length).isSome = s := ⟨_, rfl⟩
  obtain ⟨c, hc⟩ : ∃ c, lastC X Y = c := ⟨_, rfl⟩
  rw [hstop, hc] at hAll hPos
  rw [hc] at hcl
  rw [hstop, hc] at hEq hNe
  have hbl := bkL_len X c
  refine At.rangeIS (stop := stop) (bi := [(b, 40, [.slice (svA gX) X.length kX])]) (bc := [(b11, 40, [.slice (svA gY) Y.length kY]), (b8, 4, [.bool false]), (b7, 9, [str []]), (b6, 9, [str []]), (b5, 24, [.int .i64 c1, .int .i64 n, .int .i64 c3, .int .i64 c4])]) (bo := fun bx => bx = [(b, 40, [.slice (svA gX) X.length kX])]) (hp := [Seg.row gY 55 6 Y.length kY (Y.flatMap hdC), Seg.row gX 55 6 X.length kX (X.flatMap hdC)]) rfl rfl rfl (rdc := fun w => SlOk w (svA gX) (X.flatMap hdC)) (enc := encKH) (ys := bkL X c) (fun _ => rfl) rfl
    (fun pre bx hp => bx = [(b11, 40, [.slice (svA gY) Y.length kY]), (b8, 4, [.bool (stop && Nat.beq pre.length c)]), (b7, 9, [str (bif stop && Nat.beq pre.length c then putH (hdAt Y (X.length - c)) else [])]), (b6, 9, [str (bif stop && Nat.beq pre.length c then putH (hdAt X (X.length - c)) else [])]), (b5, 24, [.int .i64 c1, .int .i64 n, .int .i64 c3, .int .i64 c4])] ∧ hp = [Seg.row gY 55 6 Y.length kY (Y.flatMap hdC), Seg.row gX 55 6 X.length kX (X.flatMap hdC)])
    ⟨by cases hs : stop with
        | false => rfl
        | true =>
          have := hPos hs
          cases c with
          | zero => omega
          | succ c => rfl, rfl⟩ (fun h e => by have := hPos h; rw [e] at hbl; simp at hbl; omega) (fun pre bx hp w' h hok => by
      obtain ⟨-, rfl⟩ := h
      exact SlOk.row (hok (Seg.row gX 55 6 X.length kX (X.flatMap hdC)) (by simp))) (fun w' hext => Tryz.backw1_w stop X c (svA gX) kX b w' (by omega) hcl hAll hPos) ?_ ?_ ?_
  · rintro lp D tm pre x bx hp w' a hpre ⟨rfl, rfl⟩ hext hky ha
    obtain ⟨hlt, rfl⟩ := bkL_pre hpre
    rw [hbl] at ha
    obtain ⟨i, hi⟩ : ∃ i, pre.length = i := ⟨_, rfl⟩
    have hpn : (stop && Nat.beq pre.length c) = false := by
      cases hs : Nat.beq pre.length c with
      | false => exact Bool.and_false _
      | true => have := Nat.eq_of_beq_eq_true hs; omega
    have hl2 : (stop && Nat.beq (pre ++ [(X.length - 1 - pre.length, hdAt X (X.length - 1 - pre.length))]).length c) = a := by rw [List.length_append, List.length_singleton, ha]
    simp only [hl2]
    clear hl2
    simp only [hpn, cond_false] at ⊢
    clear hky hpn hpre
    rw [hi] at hlt ha ⊢
    have hE := hEq hlt
    have hN := hNe hlt
    rw [← ha] at hE hN
    obtain ⟨k, hk⟩ : ∃ k, X.length - 1 - i = k := ⟨_, rfl⟩
    rw [hk] at hE hN ⊢
    have hX1 := hdAt_get (H := X) (k := k) (by omega)
    have hY1 := hdAt_get (H := Y) (k := k) (by omega)
    have hx := mX k (by omega)
    have hy := mY k (by omega)
    have hkc : a = true → X.length - c = k := fun h => by
      rw [h] at ha
      have := Nat.eq_of_beq_eq_true ((Bool.and_eq_true _ _).mp ha.symm).2
      omega
    have hres : a = true → hdAt X (X.length - c) = hdAt X k ∧ hdAt Y (X.length - c) = hdAt Y k := fun h => by rw [hkc h]; exact ⟨rfl, rfl⟩
    generalize hdAt X k = x at *
    generalize hdAt Y k = y at *
    rw [show encKH (k, x) = [.int .i64 (k : Int), .agg ⟨hdC x⟩] from rfl]
    refine At.go [] [] rfl (by and_intros <;> first | (simp; done) | exact oK) ?_
    refine At.al fun b14 hb14 => ?_
    refine At.go [] [hB 0] rfl (by and_intros <;> first | (simp [hdC, Value.oneCell', str]; done) | exact oK) ?_
    refine At.beginA ?_
    refine At.rowSome 1 rfl (by omega) fun q hq => ?_
    subst hq
    have rY : ∀ {S : Base} {bx : Bx} {hp : List Seg}, nth hp 1 = some (Seg.row (some q) 55 6 Y.length kY (Y.flatMap hdC)) → RdW S bx hp q (0 + (k : Int).toNat * 6) (hdC y) := fun {_ _ _} h => RdW.row h fun j u hu => by
      rw [show 0 + (k : Int).toNat * 6 + j = k * 6 + j by omega]
      exact flat_get (f := hdC) (sz := 6) (fun _ _ => rfl) hY1 j u hu
    have fP : ∀ {S : Base} {bx : Bx} {hp : List Seg}, CallOb Tryz.prog S bx hp 90 [.agg ⟨hdC x⟩] (str (putH x)) := fun {_ _ _} w2 _ => Tryz.hPut_w x n w2 hx hn
    have fQ : ∀ {S : Base} {bx : Bx} {hp : List Seg}, CallOb Tryz.prog S bx hp 90 [.agg ⟨hdC y⟩] (str (putH y)) := fun {_ _ _} w2 _ => Tryz.hPut_w y n w2 hy hn
    cases a with
    | false =>
      have he := hE rfl
      subst he
      refine At.go [] [] rfl (by and_intros <;> first | exact rY rfl | exact fP | exact fQ | exact decide_eq_true (by omega) | (simp; done) | exact oK) ?_
      refine At.qt [] [hB 0, hB 1, hR [.int .i64 x.i, .int .i64 x.f, .int .i64 x.c, .int .i64 x.b, .string { data := x.p.toArray }, .string { data := x.r.toArray }]] rfl rfl (by and_intros <;> first | exact rY rfl | exact fP | exact fQ | exact decide_eq_true (by omega) | (simp; done) | exact oK) ?_
      refine At.go [false] [] rfl (by and_intros <;> first | exact rY rfl | exact fP | exact fQ | exact decide_eq_true (by omega) | (simp; done) | exact oK) ?_
      refine At.keep [false, true, true, true, true, true] [true, true, true] rfl ?_
      exact At.roundEndA ⟨_, rfl, rfl, rfl⟩
    | true =>
      have he := (hN rfl).2
      refine At.go [] [] rfl (by and_intros <;> first | exact rY rfl | exact fP | exact fQ | exact decide_eq_true (by omega) | exact hd_neq he | exact oK) ?_
      refine At.qt [] [hB 0, hB 1, hR [.int .i64 y.i, .int .i64 y.f, .int .i64 y.c, .int .i64 y.b, .string { data := y.p.toArray }, .string { data := y.r.toArray }]] rfl rfl (by and_intros <;> first | exact rY rfl | exact fP | exact fQ | exact decide_eq_true (by omega) | exact hd_neq he | exact oK) ?_
      refine At.go [true] [] rfl (by and_intros <;> first | exact rY rfl | exact fP | exact fQ | exact decide_eq_true (by omega) | exact hd_neq he | exact oK) ?_
      refine At.qT 7 3 [] [hB 0, hC (.string { data := (putH x).toArray }), hB 1, hR [.int .i64 y.i, .int .i64 y.f, .int .i64 y.c, .int .i64 y.b, .string { data := y.p.toArray }, .string { data := y.r.toArray }], hC (.string { data := (putH y).toArray })] rfl rfl (by and_intros <;> first | exact rY rfl | exact fP | exact fQ | exact decide_eq_true (by omega) | exact hd_neq he | exact oK) ?_
      refine AtD.f1 7 [] [] [hB 4] rfl rfl rfl (by first | exact rY rfl | exact fP | exact fQ | exact decide_eq_true (by omega) | exact hd_neq he | exact oK) (by first | exact rY rfl | exact fP | exact fQ | exact decide_eq_true (by omega) | exact hd_neq he | exact oK) ?_
      refine AtD.f1 8 [] [] [hB 3] rfl rfl rfl (by first | exact rY rfl | exact fP | exact fQ | exact decide_eq_true (by omega) | exact hd_neq he | exact oK) (by first | exact rY rfl | exact fP | exact fQ | exact decide_eq_true (by omega) | exact hd_neq he | exact oK) ?_
      refine AtD.f1 9 [] [] [hB 2] rfl rfl rfl (by first | exact rY rfl | exact fP | exact fQ | exact decide_eq_true (by omega) | exact hd_neq he | exact oK) (by first | exact rY rfl | exact fP | exact fQ | exact decide_eq_true (by omega) | exact hd_neq he | exact oK) ?_
      refine AtD.dn ?_
      refine At.go [] [] rfl (by and_intros <;> first | exact rY rfl | exact fP | exact fQ | exact decide_eq_true (by omega) | exact hd_neq he | exact oK) ?_
      refine At.keep [false, true, true, true, true, true] [true, true, true] rfl ?_
      exact At.roundRet ⟨_, rfl, by rw [(hres rfl).1, (hres rfl).2]; rfl, rfl⟩
  · rintro hs D bo' bx' hp' rfl ⟨rfl, rfl⟩
    subst hs
    have hD : lastD X Y X.length = none := by cases h : lastD X Y X.length with
      | none => rfl
      | some k => rw [h] at hstop; cases hstop
    refine At.go [] [hB 4, hB 3, hB 2] rfl (by and_intros <;> first | exact trivial | exact oK) ?_
    exact At.retCK [false, false, false, false, false, false] [false, false] [hB 4, hB 3, hB 2] Tryz.func55 rfl oK rfl ⟨by unfold hdV; rw [hD]; rfl, rfl, rfl⟩
  · rintro hs D bo' bx' hp' rfl ⟨rfl, rfl⟩
    subst hs
    have hc1 := hPos rfl
    have hD := (hNe (i := c - 1) (by omega) (by rw [show c - 1 + 1 = c by omega, Nat.beq_refl]; rfl)).1
    rw [show X.length - 1 - (c - 1) = X.length - c by omega] at hD
    exact St.retC [false, false, false, false, false, false] [false, false] [hB 4, hB 3, hB 2] Tryz.func55 rfl oK rfl ⟨by unfold hdV; rw [hD, hbl, Nat.beq_refl]; rfl, rfl, rfl⟩
end Go.Proofs

/-
  Walks of layer 22's document: what a verifier finds.
-/
namespace Go.Proofs
open Go Go.Eng
set_option maxRecDepth 100000
set_option maxHeartbeats 4000000
attribute [local irreducible] Tri

end Go.Proofs

/-
  Walks of layer 22's document and of the statements' example: the answer; alive.
-/
namespace Go.Proofs
open Go Go.Eng
set_option maxRecDepth 100000
set_option maxHeartbeats 4000000
attribute [local irreducible] Tri

theorem ex_nm0 : nmB 115 0 = [115, 48] := by
  unfold nmB Lib.itoa
  rw [if_pos (by decide), if_neg (by decide), Lib.decDigits, dif_pos (by decide)]; rfl
end Go.Proofs

/-
  Walk of the statement VerifyTells.
-/
namespace Go.Proofs
open Go Go.Eng
set_option maxRecDepth 100000
set_option maxHeartbeats 4000000
attribute [local irreducible] Tri

theorem Tryz.key_cells : cellsT Tryz.prog 38 (.agg ⟨keyC⟩) = some (keyC, ∀ u, u ∈ keyC → u.oneCell' = true) := by
  unfold cellsT
  rw [show aggT Tryz.prog 38 = some true by rfl, show szT Tryz.prog 38 = some 72 by rfl]
  simp only [keyC_len]; rfl
theorem key_ones : ∀ u, u ∈ keyC → u.oneCell' = true := by
  rw [keyC_eq]; exact all1 rfl
theorem key_put {l : List Value} (h : l.length = 72) : putL l 0 keyC = keyC := by
  rw [putL_eq keyC l 0 (by rw [keyC_len]; omega), keyC_len, List.drop_of_length_le (by omega)]; simp
end Go.Proofs

/-
  Walks of layer 22 and of the statement VerifyRows.
-/
namespace Go.Proofs
open Go Go.Eng
set_option maxRecDepth 100000
set_option maxHeartbeats 4000000
attribute [local irreducible] Tri

theorem rowsK_few {S : FL} {per : Int} {n : Nat} (h : fstE (segE S per n (headsF S n).1) (headsF S n).1.length 0 = none) : ∀ k, k ≤ (headsF S n).1.length → (rowsK S k).length ≤ 64 * k
  | 0, _ => by simp [rowsK]
  | k + 1, hk => by
    have h0 := segE_zero (fstE_none h k (Nat.zero_le _) (by omega))
    have h1 := seg_few (_S := S) (n := n) (show k < (headsF S n).1.length by omega) h0.1
    have ih := rowsK_few h k (by omega)
    rw [rowsK_succ, List.length_append]
    omega
theorem verF_few {S : FL} {per : Int} {n : Nat} (hS : ∀ p, p ∈ S → p.2.length ≤ 6000) : (verF S per n).R.length ≤ 384000 ∧ (verF S per n).T.length ≤ 6000 ∧ (verF S per n).H.length ≤ 6000 := by
  by_cases he : (verF S per n).e = 0
  · obtain ⟨h1, -, h2, h3, h4⟩ := verF_ok he
    have hl := headsF_few (n := (n : Int)) hS
    have := rowsK_few h2 _ (Nat.le_refl _)
    have := segF_few (k := ((headsF S n).1.length : Int)) hS
    rw [h1, h3, h4]; omega
  · obtain ⟨h1, h2, h3⟩ := verF_bad he
    rw [h1, h2, h3]; simp
/-- A place, and where what was found lies. -/
structure FndI where
  b : Nat
  gh : Option Nat
  hc : Nat
  g : Option Nat
  c : Nat
  gt : Option Nat
  tc : Nat
theorem Tryz.vRows_w (S : FL) (n : Nat) (c1 c3 c4 : Int) (fa : Option Addr) (fc : Nat) (w : World) (hlen : S.length ≤ 60) (hSb : ∀ p, p ∈ S → p.2.length ≤ 6000) (hns : ∀ p, p ∈ S → p.1.length ≤ 9223372036854775807) (hmay : mayCf c1 n c3 c4 = true) (hfr : SlOk w fa (fl S)) (hT : Tryz.Tabs w) :
    Tri Tryz.prog 18 [.slice fa S.length fc, .agg ⟨[.int .i64 c1, .int .i64 n, .int .i64 c3, .int .i64 c4]⟩] w [] (fun v bx hp => ∃ (g : Option Nat) (c : Nat) (gt : Option Nat) (tc : Nat), v = .tuple #[sv g (verF S c1 n).R.length c, sv gt (verF S c1 n).T.length tc, .int .i64 (verF S c1 n).e] ∧ bx = [] ∧ hp = [Seg.row gt 9 1 (verF S c1 n).T.length tc ((verF S c1 n).T.map str), Seg.row g 9 1 (verF S c1 n).R.length c ((verF S c1 n).R.map str)]) := by
  have hin := mayCf_in hmay
  have hn : 1 ≤ n ∧ n ≤ 32 := by omega
  have fM : ∀ {S : Base} {bx : Bx} {hp : List Seg}, CallOb Tryz.prog S bx hp 33 [.agg ⟨[.int .i64 c1, .int .i64 n, .int .i64 c3, .int .i64 c4]⟩] (.bool true) := fun {_ _ _} w' _ => by
    have := Tryz.logMay_w c1 n c3 c4 w'; rwa [hmay] at this
  have hflt := hfr.ltR
  have htlt := Tryz.tabs_lt hT
  have hbad := verF_bad (S := S) (per := c1) (n := n)
  refine Tri.enter (bx := []) (hp := []) Tryz.func18 rfl (by kernel_rfl) rfl (Own.nil w) ?_
  refine At.go [] [] rfl (by and_intros <;> first | exact fM | exact oK) ?_
  refine At.bo fun b3 hb3 => ?_
  refine At.go [false] [hB 0, hC (.bool true), hB 0] rfl (by and_intros <;> first | exact fM | exact oK) ?_
  refine At.bo fun b17 hb17 => ?_
  refine At.go [] [] rfl (by and_intros <;> first | exact fM | exact oK) ?_
  have h17 : w.heap.size ≤ b17 := hb17
  refine At.step [] rfl rfl rfl rfl rfl trivial (OpOk.callO [true, false] [] rfl rfl (fun w' hw' ho => Tryz.run_w S n c1 c3 c4 fa fc b17 w' hlen hSb hns hn (hfr.ext hw'.ext (by simp [kys])) (Tryz.tabs_ext0 hT hw'.ext) ho (fun q hq => by have := hflt q hq; omega) (fun q hq => by have := htlt q hq; omega)) ?_)
  rintro v bx hp h
  rcases h with ⟨he, rfl, ⟨cs, rfl⟩, rfl⟩ | ⟨he, gh, hc, g, c, gt, tc, rfl, rfl, rfl⟩
  · obtain ⟨-, h2, h3⟩ := hbad he
    rw [h2, h3]
    generalize (verF S c1 n).e = e at he
    refine At.go [true] [] rfl (by and_intros <;> first | (simp [he]; done) | exact oK) ?_
    refine At.nilRow 9 1 ?_
    refine At.nilRow 9 1 ?_
    refine At.rt [] [true, true] [] Tryz.func18 ?_
    exact ⟨none, 0, none, 0, rfl, rfl, rfl⟩
  · rw [he]
    generalize verF S c1 n = X at he
    refine At.go [false] [hB 0] rfl (by and_intros <;> first | (simp; done) | exact oK) ?_
    refine At.rt [false, false] [true, true, false] [] Tryz.func18 ?_
    exact ⟨g, c, gt, tc, rfl, rfl, rfl⟩
end Go.Proofs

/-
  Walks of layer 25: both images' rows; the clash of two images; whether they are alike.
-/
namespace Go.Proofs
open Go Go.Eng
set_option maxRecDepth 100000
set_option maxHeartbeats 4000000
attribute [local irreducible] Tri

/-- An image's files, as they are handed over. -/
structure ImOk (w : World) (S : FL) (fa : Option Addr) : Prop where
  len : S.length ≤ 60
  few : ∀ p, p ∈ S → p.2.length ≤ 6000
  nm : ∀ p, p ∈ S → p.1.length ≤ 9223372036854775807
  lies : SlOk w fa (fl S)
theorem ImOk.ext {w w' : World} {S : FL} {fa : Option Addr} (h : ImOk w S fa) (he : Ext [] w w') : ImOk w' S fa := ⟨h.len, h.few, h.nm, h.lies.ext he (by simp)⟩
/-- The error of two images. -/
def bothE (n : Nat) (X Y : FndB) : Int := if X.e ≠ 0 then X.e else if Y.e ≠ 0 then Y.e else if (chainB n X.H).1 ≠ (chainB n Y.H).1 ∨ X.H.length ≠ Y.H.length then 12 else 0
theorem bothE_zero {n : Nat} {X Y : FndB} (h : bothE n X Y = 0) : X.e = 0 ∧ Y.e = 0 ∧ (chainB n X.H).1 = (chainB n Y.H).1 ∧ X.H.length = Y.H.length := by
  unfold bothE at h
  split at h
  · rename_i h1; exact absurd h h1
  · split at h
    · rename_i h1; exact absurd h h1
    · split at h
      · cases h
      · rename_i h1 h2 h3
        exact ⟨Classical.not_not.1 h1, Classical.not_not.1 h2, Classical.not_not.1 fun g => h3 (.inl g), Classical.not_not.1 fun g => h3 (.inr g)⟩
theorem twB_bad {P n : Nat} {X Y : FndB} (h : bothE n X Y ≠ 0) : twB P n X Y = ([], [], bothE n X Y) := by
  unfold twB bothE at *
  split
  · rfl
  · rename_i h1
    rw [if_neg h1] at h
    split
    · rfl
    · rename_i h2
      rw [if_neg h2] at h
      split
      · rfl
      · rename_i h3
        rw [if_neg h3] at h; exact absurd rfl h
theorem twB_zero {P n : Nat} {X Y : FndB} (h : bothE n X Y = 0) : twB P n X Y = if X.R = Y.R then ([], [], 7) else twC P n X Y := by
  obtain ⟨h1, h2, h3, h4⟩ := bothE_zero h
  unfold twB
  rw [if_neg (Classical.not_not.2 h1), if_neg (Classical.not_not.2 h2), if_neg (fun g => g.elim (fun g => g h3) fun g => g h4)]
theorem Tryz.both_w (S T : FL) (P n : Nat) (c3 c4 : Int) (fa fb : Option Addr) (fc fd : Nat) (w : World) (hS : ImOk w S fa) (hT : ImOk w T fb) (hmay : mayCf P n c3 c4 = true) (hW : Tryz.Tabs w) :
    Tri Tryz.prog 53 [.slice fa S.length fc, .slice fb T.length fd, .agg ⟨[.int .i64 P, .int .i64 n, .int .i64 c3, .int .i64 c4]⟩] w [] (fun v bx hp => if bothE n (verF S P n) (verF T P n) = 0 then
      ∃ (g : Option Nat) (c : Nat) (g' : Option Nat) (c' : Nat), v = .tuple #[sv g (verF S P n).R.length c, sv g' (verF T P n).R.length c', .int .i64 0] ∧ bx = [] ∧ hp = [Seg.row g' 9 1 (verF T P n).R.length c' ((verF T P n).R.map str), Seg.row g 9 1 (verF S P n).R.length c ((verF S P n).R.map str)]
      else v = .tuple #[.slice none 0 0, .slice none 0 0, .int .i64 (bothE n (verF S P n) (verF T P n))] ∧ bx = [] ∧ hp = []) := by
  have fX : ∀ {bx : Bx} {hp : List Seg}, CallOb Tryz.prog ⟨w, kys [] []⟩ bx hp 12 [.slice fa S.length fc, .agg ⟨[.int .i64 P, .int .i64 n, .int .i64 c3, .int .i64 c4]⟩] (.tuple #[.agg ⟨sdC (sealD n (verF S P n))⟩, .int .i64 (verF S P n).at_, .int .i64 (verF S P n).e]) := fun {_ _} w' hw' => Tryz.Verify_w S n P c3 c4 fa fc w' hS.len hS.few hS.nm hmay (hS.ext hw'.ext).lies (Tryz.tabs_ext0 hW hw'.ext)
  have fY : ∀ {bx : Bx} {hp : List Seg}, CallOb Tryz.prog ⟨w, kys [] []⟩ bx hp 12 [.slice fb T.length fd, .agg ⟨[.int .i64 P, .int .i64 n, .int .i64 c3, .int .i64 c4]⟩] (.tuple #[.agg ⟨sdC (sealD n (verF T P n))⟩, .int .i64 (verF T P n).at_, .int .i64 (verF T P n).e]) := fun {_ _} w' hw' => Tryz.Verify_w T n P c3 c4 fb fd w' hT.len hT.few hT.nm hmay (hT.ext hw'.ext).lies (Tryz.tabs_ext0 hW hw'.ext)
  have hRX := fun (w' : World) (hw' : Ext [] w w') => Tryz.vRows_w S n P c3 c4 fa fc w' hS.len hS.few hS.nm hmay (hS.ext hw').lies (Tryz.tabs_ext0 hW hw')
  have hRY := fun (w' : World) (hw' : Ext [] w w') => Tryz.vRows_w T n P c3 c4 fb fd w' hT.len hT.few hT.nm hmay (hT.ext hw').lies (Tryz.tabs_ext0 hW hw')
  have hf1 := headsF_few (n := (n : Int)) hS.few
  have hf2 := headsF_few (n := (n : Int)) hT.few
  generalize verF S P n = X at fX hRX ⊢
  generalize verF T P n = Y at fY hRY ⊢
  by_cases e1 : X.e = 0
  · by_cases e2 : Y.e = 0
    · have s1 : sealD n X = ((chainB n X.H).1, X.H.length, X.R.length) := by unfold sealD; rw [if_neg (Classical.not_not.2 e1)]
      have s2 : sealD n Y = ((chainB n Y.H).1, Y.H.length, Y.R.length) := by unfold sealD; rw [if_neg (Classical.not_not.2 e2)]
      rw [s1, e1] at fX
      rw [s2, e2] at fY
      rw [e1] at hRX
      rw [e2] at hRY
      simp only [sdC] at fX fY
      by_cases h3 : (chainB n X.H).1 = (chainB n Y.H).1
      · by_cases h4 : X.H.length = Y.H.length
        · have he : bothE n X Y = 0 := by unfold bothE; rw [if_neg (Classical.not_not.2 e1), if_neg (Classical.not_not.2 e2), if_neg (by simp [h3, h4])]
          simp only [if_pos he]
          rw [← h3, ← h4] at fY
          refine Tri.enter (bx := []) (hp := []) Tryz.func53 rfl (by kernel_rfl) rfl (Own.nil w) ?_
          refine At.go [] [] rfl (by and_intros <;> first | exact fX | exact fY | (simp; done) | exact oK) ?_
          refine At.bo fun b5 hb5 => ?_
          refine At.go [] [hB 0, hC (.tuple { toList := [.agg { toList := [.string { data := (chainB n X.H).fst.toArray }, .int .i64 ↑X.H.length, .int .i64 ↑X.R.length] }, .int .i64 X.at_, .int .i64 0] })] rfl (by and_intros <;> first | exact fX | exact fY | (simp; done) | exact oK) ?_
          refine At.al fun b9 hb9 => ?_
          refine At.go [false] [hB 0, hB 1, hC (.tuple { toList := [.agg { toList := [.string { data := (chainB n X.H).fst.toArray }, .int .i64 ↑X.H.length, .int .i64 ↑Y.R.length] }, .int .i64 Y.at_, .int .i64 0] })] rfl (by and_intros <;> first | exact fX | exact fY | (simp; done) | exact oK) ?_
          refine At.al fun b11 hb11 => ?_
          refine At.go [false, false, false] [hB 0, hB 1, hB 0, hB 1, hB 0, hB 2] rfl (by and_intros <;> first | exact fX | exact fY | (simp; done) | exact oK) ?_
          refine At.step [] rfl rfl rfl rfl rfl trivial (OpOk.call rfl (fun w' hw' => hRX w' hw'.ext) ?_)
          rintro _ _ _ ⟨g, c, gt, tc, rfl, rfl, rfl⟩
          refine At.go [] [hB 2] rfl (by and_intros <;> first | exact trivial | exact oK) ?_
          refine At.step [] rfl rfl rfl rfl rfl trivial (OpOk.call rfl (fun w' hw' => hRY w' hw'.ext) ?_)
          rintro _ _ _ ⟨g', c', gt', tc', rfl, rfl, rfl⟩
          refine At.go [] [] rfl (by and_intros <;> first | exact trivial | exact oK) ?_
          refine At.rt [] [false, true, false, true] [] Tryz.func53 ?_
          exact ⟨g, c, g', c', rfl, rfl, rfl⟩
        · have he : bothE n X Y = 12 := by unfold bothE; rw [if_neg (Classical.not_not.2 e1), if_neg (Classical.not_not.2 e2), if_pos (.inr h4)]
          simp only [if_neg (show ¬ bothE n X Y = 0 by rw [he]; decide)]
          simp only [he]
          rw [← h3] at fY
          refine Tri.enter (bx := []) (hp := []) Tryz.func53 rfl (by kernel_rfl) rfl (Own.nil w) ?_
          refine At.go [] [] rfl (by and_intros <;> first | exact fX | exact fY | (simp; done) | (simp; omega) | exact oK) ?_
          refine At.bo fun b5 hb5 => ?_
          refine At.go [] [hB 0, hC (.tuple { toList := [.agg { toList := [.string { data := (chainB n X.H).fst.toArray }, .int .i64 ↑X.H.length, .int .i64 ↑X.R.length] }, .int .i64 X.at_, .int .i64 0] })] rfl (by and_intros <;> first | exact fX | exact fY | (simp; done) | (simp; omega) | exact oK) ?_
          refine At.al fun b9 hb9 => ?_
          refine At.go [false] [hB 0, hB 1, hC (.tuple { toList := [.agg { toList := [.string { data := (chainB n X.H).fst.toArray }, .int .i64 ↑Y.H.length, .int .i64 ↑Y.R.length] }, .int .i64 Y.at_, .int .i64 0] })] rfl (by and_intros <;> first | exact fX | exact fY | (simp; done) | (simp; omega) | exact oK) ?_
          refine At.al fun b11 hb11 => ?_
          refine At.go [false, false, true] [hB 0, hB 1, hB 0, hB 1, hB 0] rfl (by and_intros <;> first | exact fX | exact fY | (simp; done) | (simp; omega) | exact oK) ?_
          refine At.rt [] [] [] Tryz.func53 ?_
          exact ⟨rfl, rfl, rfl⟩
      · have he : bothE n X Y = 12 := by unfold bothE; rw [if_neg (Classical.not_not.2 e1), if_neg (Classical.not_not.2 e2), if_pos (.inl h3)]
        simp only [if_neg (show ¬ bothE n X Y = 0 by rw [he]; decide)]
        simp only [he]
        refine Tri.enter (bx := []) (hp := []) Tryz.func53 rfl (by kernel_rfl) rfl (Own.nil w) ?_
        refine At.go [] [] rfl (by and_intros <;> first | exact fX | exact fY | (simp; done) | (simp; done) | exact oK) ?_
        refine At.bo fun b5 hb5 => ?_
        refine At.go [] [hB 0, hC (.tuple { toList := [.agg { toList := [.string { data := (chainB n X.H).fst.toArray }, .int .i64 ↑X.H.length, .int .i64 ↑X.R.length] }, .int .i64 X.at_, .int .i64 0] })] rfl (by and_intros <;> first | exact fX | exact fY | (simp; done) | (simp; done) | exact oK) ?_
        refine At.al fun b9 hb9 => ?_
        refine At.go [false] [hB 0, hB 1, hC (.tuple { toList := [.agg { toList := [.string { data := (chainB n Y.H).fst.toArray }, .int .i64 ↑Y.H.length, .int .i64 ↑Y.R.length] }, .int .i64 Y.at_, .int .i64 0] })] rfl (by and_intros <;> first | exact fX | exact fY | (simp; done) | (simp; done) | exact oK) ?_
        refine At.al fun b11 hb11 => ?_
        refine At.go [false, true, true] [hB 0, hB 1, hB 0] rfl (by and_intros <;> first | exact fX | exact fY | (simp [h3]; done) | (simp; done) | exact oK) ?_
        refine At.rt [] [] [] Tryz.func53 ?_
        exact ⟨rfl, rfl, rfl⟩
    · have he : bothE n X Y = Y.e := by unfold bothE; rw [if_neg (Classical.not_not.2 e1), if_pos e2]
      simp only [if_neg (show ¬ bothE n X Y = 0 by rw [he]; exact e2)]
      simp only [he]
      rw [e1] at fX
      generalize sealD n X = Z1 at fX
      generalize sealD n Y = Z2 at fY
      obtain ⟨y1, y2, y3⟩ := Z1
      obtain ⟨z1, z2, z3⟩ := Z2
      simp only [sdC] at fX fY
      refine Tri.enter (bx := []) (hp := []) Tryz.func53 rfl (by kernel_rfl) rfl (Own.nil w) ?_
      refine At.go [] [] rfl (by and_intros <;> first | exact fX | exact fY | (simp; done) | (simp [e2]; done) | exact oK) ?_
      refine At.bo fun b5 hb5 => ?_
      refine At.go [] [hB 0, hC (.tuple { toList := [.agg { toList := [.string { data := y1.toArray }, .int .i64 ↑y2, .int .i64 ↑y3] }, .int .i64 X.at_, .int .i64 0] })] rfl (by and_intros <;> first | exact fX | exact fY | (simp; done) | (simp [e2]; done) | exact oK) ?_
      refine At.al fun b9 hb9 => ?_
      refine At.go [false] [hB 0, hB 1, hC (.tuple { toList := [.agg { toList := [.string { data := z1.toArray }, .int .i64 ↑z2, .int .i64 ↑z3] }, .int .i64 Y.at_, .int .i64 Y.e] })] rfl (by and_intros <;> first | exact fX | exact fY | (simp; done) | (simp; done) | exact oK) ?_
      refine At.al fun b11 hb11 => ?_
      refine At.go [true] [hB 0] rfl (by and_intros <;> first | exact fX | exact fY | (simp; done) | (simp [e2]; done) | exact oK) ?_
      refine At.rt [] [] [] Tryz.func53 ?_
      exact ⟨rfl, rfl, rfl⟩
  · have he : bothE n X Y = X.e := by unfold bothE; rw [if_pos e1]
    simp only [if_neg (show ¬ bothE n X Y = 0 by rw [he]; exact e1)]
    simp only [he]
    generalize sealD n X = Z1 at fX
    obtain ⟨y1, y2, y3⟩ := Z1
    simp only [sdC] at fX
    refine Tri.enter (bx := []) (hp := []) Tryz.func53 rfl (by kernel_rfl) rfl (Own.nil w) ?_
    refine At.go [] [] rfl (by and_intros <;> first | exact fX | (simp; done) | exact oK) ?_
    refine At.bo fun b5 hb5 => ?_
    refine At.go [] [hB 0, hC (.tuple { toList := [.agg { toList := [.string { data := y1.toArray }, .int .i64 ↑y2, .int .i64 ↑y3] }, .int .i64 X.at_, .int .i64 X.e] })] rfl (by and_intros <;> first | exact fX | (simp; done) | exact oK) ?_
    refine At.al fun b9 hb9 => ?_
    refine At.go [true] [hB 0] rfl (by and_intros <;> first | exact fX | (simp [e1]; done) | exact oK) ?_
    refine At.rt [] [] [] Tryz.func53 ?_
    exact ⟨rfl, rfl, rfl⟩
end Go.Proofs

/-
  Walks of layer 25: the clash of two images; whether they are alike.
-/
namespace Go.Proofs
open Go Go.Eng
set_option maxRecDepth 100000
set_option maxHeartbeats 4000000
attribute [local irreducible] Tri

theorem verF_mem {S : FL} {P : Int} {n : Nat} (hS : ∀ p, p ∈ S → p.2.length ≤ 6000) {x : List UInt8} (hx : x ∈ (verF S P n).R) : x.length ≤ 6000 := by
  by_cases he : (verF S P n).e = 0
  · rw [(verF_ok he).2.2.2.1] at hx
    unfold rowsK at hx
    obtain ⟨j, -, hj⟩ := List.mem_flatMap.1 hx
    exact segF_mem hS hj
  · rw [(verF_bad he).2.1] at hx; cases hx
theorem segK_mem {P k : Nat} {R : List (List UInt8)} {x : List UInt8} (h : x ∈ segK P R k) : x ∈ R := List.mem_of_mem_drop (List.mem_of_mem_take h)
theorem Tryz.alike_w (S T : FL) (P n : Nat) (c3 c4 : Int) (fa fb : Option Addr) (fc fd : Nat) (w : World) (hS : ImOk w S fa) (hT : ImOk w T fb) (hmay : mayCf P n c3 c4 = true) (hW : Tryz.Tabs w) :
    Fun Tryz.prog 29 [.slice fa S.length fc, .slice fb T.length fd, .agg ⟨[.int .i64 P, .int .i64 n, .int .i64 c3, .int .i64 c4]⟩] w (.tuple #[.bool (decide (bothE n (verF S P n) (verF T P n) = 0 ∧ (verF S P n).R = (verF T P n).R)), .int .i64 (bothE n (verF S P n) (verF T P n))]) := by
  have gB := fun (w' : World) (hw' : Ext [] w w') => Tryz.both_w S T P n c3 c4 fa fb fc fd w' (hS.ext hw') (hT.ext hw') hmay (Tryz.tabs_ext0 hW hw')
  have q1 := verF_few (per := P) (n := n) hS.few
  generalize verF S P n = X at gB q1 ⊢
  generalize verF T P n = Y at gB ⊢
  by_cases he : bothE n X Y = 0
  · simp only [if_pos he] at gB
    rw [he]
    have fE : ∀ {i j : Nat} {g g' : Option Nat} {c c' : Nat} {bx : Bx} {hp : List Seg}, nth hp 1 = some (Seg.row g 9 1 X.R.length c (X.R.map str)) → nth hp 0 = some (Seg.row g' 9 1 Y.R.length c' (Y.R.map str)) → CallOb Tryz.prog ⟨w, kys [] []⟩ bx hp 54 [.slice (svA g) X.R.length c, .slice (svA g') Y.R.length c'] (.bool (decide (X.R = Y.R))) := fun {_ _ g g' c c' _ _} h1 h2 w' hw' =>
      Tryz.slEqual_w X.R Y.R (svA g) (svA g') c c' w' (by omega) (SlOk.row (hw'.hp _ (nth_mem h1))) (SlOk.row (hw'.hp _ (nth_mem h2)))
    refine Tri.enter (bx := []) (hp := []) Tryz.func29 rfl (by kernel_rfl) rfl (Own.nil w) ?_
    refine At.go [] [] rfl (by and_intros <;> first | exact trivial | exact oK) ?_
    refine At.bo fun b5 hb5 => ?_
    refine At.go [] [hB 0] rfl (by and_intros <;> first | exact trivial | exact oK) ?_
    refine At.step [] rfl rfl rfl rfl rfl trivial (OpOk.call rfl (fun w' hw' => gB w' hw'.ext) ?_)
    rintro _ _ _ ⟨g, c, g', c', rfl, rfl, rfl⟩
    refine At.go [true] [hC (.bool (decide (X.R = Y.R)))] rfl (by and_intros <;> first | exact fE (i := 0) (j := 0) rfl rfl | (simp; done) | exact oK) ?_
    refine At.rt [] [] [] Tryz.func29 ?_
    exact ⟨by simp [tupV], rfl, rfl⟩
  · simp only [if_neg he] at gB
    generalize bothE n X Y = e at gB he ⊢
    refine Tri.enter (bx := []) (hp := []) Tryz.func29 rfl (by kernel_rfl) rfl (Own.nil w) ?_
    refine At.go [] [] rfl (by and_intros <;> first | exact trivial | exact oK) ?_
    refine At.bo fun b5 hb5 => ?_
    refine At.go [] [hB 0] rfl (by and_intros <;> first | exact trivial | exact oK) ?_
    refine At.step [] rfl rfl rfl rfl rfl trivial (OpOk.call rfl (fun w' hw' => gB w' hw'.ext) ?_)
    rintro _ _ _ ⟨rfl, rfl, rfl⟩
    refine At.go [false] [] rfl (by and_intros <;> first | (simp [he]; done) | exact oK) ?_
    refine At.rt [] [] [] Tryz.func29 ?_
    exact ⟨by simp [tupV, he], rfl, rfl⟩
theorem Tryz.twFind_w (S T : FL) (P n : Nat) (c3 c4 : Int) (fa fb : Option Addr) (fc fd : Nat) (w : World) (hS : ImOk w S fa) (hT : ImOk w T fb) (hmay : mayCf P n c3 c4 = true) (hW : Tryz.Tabs w) :
    Fun Tryz.prog 28 [.slice fa S.length fc, .slice fb T.length fd, .agg ⟨[.int .i64 P, .int .i64 n, .int .i64 c3, .int .i64 c4]⟩] w (.tuple #[str (twB P n (verF S P n) (verF T P n)).1, str (twB P n (verF S P n) (verF T P n)).2.1, .int .i64 (twB P n (verF S P n) (verF T P n)).2.2]) := by
  have hin := mayCf_in hmay
  have gB := fun (w' : World) (hw' : Ext [] w w') => Tryz.both_w S T P n c3 c4 fa fb fc fd w' (hS.ext hw') (hT.ext hw') hmay (Tryz.tabs_ext0 hW hw')
  have q1 := verF_few (per := P) (n := n) hS.few
  have q2 := verF_few (per := P) (n := n) hT.few
  by_cases he : bothE n (verF S P n) (verF T P n) = 0
  · simp only [if_pos he] at gB
    rw [twB_zero he]
    obtain ⟨e1, e2, e3, e4⟩ := bothE_zero he
    have o1 := fndOk (by omega) e1
    have o2 := fndOk (by omega) e2
    have x1 := fun x h => @verF_mem S P n hS.few x h
    have x2 := fun x h => @verF_mem T P n hT.few x h
    have fH : ∀ {bx : Bx} {hp : List Seg}, CallOb Tryz.prog ⟨w, kys [] []⟩ bx hp 55 [.slice fa S.length fc, .slice fb T.length fd, .agg ⟨[.int .i64 P, .int .i64 n, .int .i64 c3, .int .i64 c4]⟩] (hdV (verF S P n).H (verF T P n).H) := fun {_ _} w' hw' => by
      rw [(verF_ok e1).1, (verF_ok e2).1] at e4 ⊢
      exact Tryz.twHeaders_w S T n P c3 c4 fa fb fc fd w' hS.len hS.few (hS.ext hw'.ext).lies hT.len hT.few (hT.ext hw'.ext).lies (by omega) e4
    generalize verF S P n = X at *
    generalize verF T P n = Y at *
    have fE : ∀ {g g' : Option Nat} {c c' : Nat} {bx : Bx} {hp : List Seg}, nth hp 1 = some (Seg.row g 9 1 X.R.length c (X.R.map str)) → nth hp 0 = some (Seg.row g' 9 1 Y.R.length c' (Y.R.map str)) → CallOb Tryz.prog ⟨w, kys [] []⟩ bx hp 54 [.slice (svA g) X.R.length c, .slice (svA g') Y.R.length c'] (.bool (decide (X.R = Y.R))) := fun {g g' c c' _ _} h1 h2 w' hw' =>
      Tryz.slEqual_w X.R Y.R (svA g) (svA g') c c' w' (by omega) (SlOk.row (hw'.hp _ (nth_mem h1))) (SlOk.row (hw'.hp _ (nth_mem h2)))
    refine Tri.enter (bx := []) (hp := []) Tryz.func28 rfl (by kernel_rfl) rfl (Own.nil w) ?_
    refine At.go [] [] rfl (by and_intros <;> first | exact trivial | exact oK) ?_
    refine At.bo fun b5 hb5 => ?_
    refine At.go [] [hB 0] rfl (by and_intros <;> first | exact trivial | exact oK) ?_
    refine At.step [] rfl rfl rfl rfl rfl trivial (OpOk.call rfl (fun w' hw' => gB w' hw'.ext) ?_)
    rintro _ _ _ ⟨g, c, g', c', rfl, rfl, rfl⟩
    by_cases gR : X.R = Y.R
    · rw [if_pos gR]
      refine At.go [false, true] [hC (.bool (decide (X.R = Y.R)))] rfl (by and_intros <;> first | exact fE rfl rfl | (simp; done) | exact decide_eq_true gR | exact oK) ?_
      refine At.rt [] [] [] Tryz.func28 ?_
      exact ⟨rfl, rfl, rfl⟩
    rw [if_neg gR]
    cases hD : lastD X.H Y.H X.H.length with
    | some k =>
      rw [twC_head hD]
      simp only [hdV, hD, Option.elim, Option.isSome] at fH
      refine At.go [false, false, true] [hC (.bool (decide (X.R = Y.R))), hB 0, hC (.tuple { toList := [.string { data := (putH (hdAt X.H k)).toArray }, .string { data := (putH (hdAt Y.H k)).toArray }, .bool true] })] rfl (by and_intros <;> first | exact fE rfl rfl | exact fH | (simp; done) | exact decide_eq_false gR | exact oK) ?_
      refine At.rt [] [] [] Tryz.func28 ?_
      exact ⟨rfl, rfl, rfl⟩
    | none =>
      obtain ⟨k0, h1, h2, h3, h4, h5⟩ := seg_clash o1 o2 e4 gR hD
      rw [twC_seg hD h1]
      simp only [hdV, hD, Option.elim, Option.isSome] at fH
      have hf1 := o1.fit
      have hf2 := o2.fit
      rw [← e4] at hf2
      have hl1 := o1.sl
      have hl2 := o2.sl
      rw [← e4] at hl2
      refine At.go [false, false, false] [hC (.bool (decide (X.R = Y.R))), hB 0, hC (.tuple { toList := [.string { data := #[] }, .string { data := #[] }, .bool false] })] rfl (by and_intros <;> first | exact fE rfl rfl | exact fH | (simp; done) | exact decide_eq_false gR | exact oK) ?_
      refine At.rowCap 0 rfl fun hc2 => ?_
      refine At.rowCap 1 rfl fun hc1 => ?_
      refine At.rowSome 1 rfl (by have := hf1 k0 h2; rw [Nat.add_mul] at this; omega) fun q hq => ?_
      subst hq
      refine At.rowSome 0 rfl (by have := hf2 k0 h2; rw [Nat.add_mul] at this; omega) fun q' hq' => ?_
      subst hq'
      refine At.loop (env0 := [(5, .pointer (some ⟨b5, 0, none⟩)), (9, .slice (some ⟨q, 0, none⟩) X.R.length c), (10, .slice (some ⟨q', 0, none⟩) Y.R.length c'), (15, .int .i64 0)]) (fun m_ env bx hp => ∃ (j : Nat) (A : Nat), m_ = k0 - j ∧ (j ≤ k0) ∧ (j * P = A) ∧ env = [(5, .pointer (some ⟨b5, 0, none⟩)), (9, .slice (some ⟨q, 0, none⟩) X.R.length c), (10, .slice (some ⟨q', 0, none⟩) Y.R.length c'), (15, .int .i64 (A : Int))] ∧ bx = [(b5, 24, [.int .i64 ↑P, .int .i64 ↑n, .int .i64 c3, .int .i64 c4])] ∧ hp = [Seg.row (some q') 9 1 Y.R.length c' (List.map str Y.R), Seg.row (some q) 9 1 X.R.length c (List.map str X.R)]) rfl
        ⟨0, 0, rfl, (Nat.zero_le _), (Nat.zero_mul P), rfl, rfl, rfl⟩ sB ?_
      rintro m_ env bx hp ⟨j, A, rfl, hj, hA, rfl, rfl, rfl⟩ ih
      have hg1 := o1.fit j (by omega)
      have hg2 := o2.fit j (by omega)
      rw [Nat.add_mul] at hg1 hg2
      have hL1 := hl1 j (by omega)
      have hL2 := hl2 j (by omega)
      have sE : (A : Nat) → A + P - A = P := fun A => by omega
      rw [hA] at hg1 hg2
      have hA2 : ((A : Nat) : Int) + (P : Int) = ((A + P : Nat) : Int) := by simp
      refine At.cutS (ι := Unit) ⟨1, [0, 0, 0, 0, 0, 1, 1, 1, 1, 1, 1], []⟩ (fun _ => [(5, .pointer (some ⟨b5, 0, none⟩)), (9, .slice (some ⟨q, 0, none⟩) X.R.length c), (10, .slice (some ⟨q', 0, none⟩) Y.R.length c'), (15, .int .i64 (A : Int)), (16, .slice (some ⟨q, 0 + A * 1, none⟩) (A + P - A) (A + P - A)), (17, .slice (some ⟨q', 0 + A * 1, none⟩) (A + P - A) (A + P - A))])
        (fun _ => [(b5, 24, [.int .i64 P, .int .i64 n, .int .i64 c3, .int .i64 c4])]) (fun _ => [Seg.row (some q') 9 1 Y.R.length c' (Y.R.map str), Seg.row (some q) 9 1 X.R.length c (X.R.map str)]) ?_ fun hk0 => ?_
      rotate_left
      · refine At.gn 3 [] [] rfl (by and_intros <;> first | exact trivial | exact oK) ?_
        refine At.dr 24 ?_
        refine AtH.readsK [true] [false, false] [0, 1, 2, 3, 4, 5, 6, 7, 8, 9, 11, 12, 13, 14, 15, 16, 17, 18, 19, 20] [hB 0, hB 0, hB 0, hB 0] rfl rfl (by and_intros <;> first | omega | exact oK) rfl rfl (fuel := 4) ?_
        refine AtH.fork2 10 21 (by kernel_rfl) rfl rfl rfl rfl rfl rfl (OpOk.slice4 A (A + P) rfl rfl rfl rfl rfl rfl rfl (by omega) (by omega) ⟨fun w hw => hw.selK [true] [false, false], ?_⟩) (OpOk.slice4 A (A + P) rfl rfl rfl rfl rfl rfl rfl (by omega) (by omega) ⟨fun w hw => hw.selK [true] [false, false], ?_⟩)
        · refine AtH.fork2 21 22 (by kernel_rfl) rfl rfl rfl rfl rfl rfl (OpOk.slice4 A (A + P) rfl rfl rfl rfl rfl rfl rfl (by omega) (by omega) ⟨fun w hw => hw.selK [true] [false, false], ?_⟩) (OpOk.one true [] [] rfl oK ⟨fun w hw => hw.selK [true] [false, false], ?_⟩)
          · refine AtH.reK [22, 23] [] rfl oK rfl rfl (fuel := 0) ?_
            refine AtH.dn ?_
            exact At.weak (hk0 ()) sB
          · refine AtH.f1 21 rfl (OpOk.slice4 (c := c') A (A + P) rfl rfl rfl rfl rfl rfl rfl (by omega) (by omega) ⟨fun w hw => hw.selK [true] [false, false], ?_⟩)
            refine AtH.reK [23] [] rfl oK rfl rfl (fuel := 0) ?_
            refine AtH.dn ?_
            exact At.weak (hk0 ()) sB
        · refine AtH.f1 10 rfl (OpOk.slice4 (c := c) A (A + P) rfl rfl rfl rfl rfl rfl rfl (by omega) (by omega) ⟨fun w hw => hw.selK [true] [false, false], ?_⟩)
          refine AtH.reK [22, 23] [] rfl oK rfl rfl (fuel := 0) ?_
          refine AtH.dn ?_
          exact At.weak (hk0 ()) sB
      rintro -
      rw [sE, show 0 + A * 1 = A by omega]
      have fS : ∀ {bx : Bx} {hp : List Seg}, nth hp 1 = some (Seg.row (some q) 9 1 X.R.length c (X.R.map str)) → nth hp 0 = some (Seg.row (some q') 9 1 Y.R.length c' (Y.R.map str)) → CallOb Tryz.prog ⟨w, kys [] []⟩ bx hp 54 [.slice (some ⟨q, A, none⟩) P P, .slice (some ⟨q', A, none⟩) P P] (.bool (decide (segK P X.R j = segK P Y.R j))) := fun {_ _} h1 h2 w' hw' => by
        have s1 := SlOk.rowsT P (SlOk.rowsD (j * P) (SlOk.row (hw'.hp _ (nth_mem h1)) : SlOk w' (some ⟨q, 0, none⟩) (X.R.map str)))
        have s2 := SlOk.rowsT P (SlOk.rowsD (j * P) (SlOk.row (hw'.hp _ (nth_mem h2)) : SlOk w' (some ⟨q', 0, none⟩) (Y.R.map str)))
        have := Tryz.slEqual_w (segK P X.R j) (segK P Y.R j) _ _ P P w' (by rw [hL1]; omega) s1 s2
        rwa [hL1, hL2, hA, Nat.zero_add] at this
      by_cases hjs : segK P X.R j = segK P Y.R j
      · have hjk : j ≠ k0 := fun e => h3 (by rw [← e]; exact hjs)
        refine At.go [false] [hC (.bool (decide (segK P X.R j = segK P Y.R j))), hB 0] rfl (by and_intros <;> first | exact fS rfl rfl | (simp [hjs]; done) | omega | exact oK) ?_
        rw [hA2]
        exact At.weak (ih _ _ _ _ (by omega) ⟨j + 1, A + P, rfl, by omega, by rw [Nat.add_mul, hA]; omega, rfl, rfl, rfl⟩) sB
      · have hjk : j = k0 := Classical.byContradiction fun e => hjs (h5 j (by omega))
        subst hjk
        have fF : ∀ {bx : Bx} {hp : List Seg}, nth hp 1 = some (Seg.row (some q) 9 1 X.R.length c (X.R.map str)) → nth hp 0 = some (Seg.row (some q') 9 1 Y.R.length c' (Y.R.map str)) → CallOb Tryz.prog ⟨w, kys [] []⟩ bx hp 56 [.slice (some ⟨q, A, none⟩) P P, .slice (some ⟨q', A, none⟩) P P, .int .i64 n] (.tuple #[str (downB n P (segK P X.R j) (segK P Y.R j)).1, str (downB n P (segK P X.R j) (segK P Y.R j)).2, .int .i64 0]) := fun {_ _} h1 h2 w' hw' => by
          have s1 := SlOk.rowsT P (SlOk.rowsD (j * P) (SlOk.row (hw'.hp _ (nth_mem h1)) : SlOk w' (some ⟨q, 0, none⟩) (X.R.map str)))
          have s2 := SlOk.rowsT P (SlOk.rowsD (j * P) (SlOk.row (hw'.hp _ (nth_mem h2)) : SlOk w' (some ⟨q', 0, none⟩) (Y.R.map str)))
          have := Tryz.cFind_w n (by omega) P (segK P X.R j) (segK P Y.R j) _ _ P P w' (by rw [hL1]; omega) ⟨by rw [hL1]; omega, by rw [hL1, hL2], hjs, h4, fun x hx => by have := x1 x (segK_mem hx); omega, fun x hx => by have := x2 x (segK_mem hx); omega⟩ (by rw [hL1]; omega) (by rw [hL1]; omega) s1 s2 (Tryz.tabs_ext0 hW hw'.ext).1
          rwa [hL1, hA, Nat.zero_add] at this
        generalize downB n P (segK P X.R j) (segK P Y.R j) = Z at fF ⊢
        obtain ⟨z1, z2⟩ := Z
        refine At.go [true] [hC (.bool (decide (segK P X.R j = segK P Y.R j))), hB 0, hC (.tuple { toList := [.string { data := (z1, z2).fst.toArray }, .string { data := (z1, z2).snd.toArray }, .int .i64 0] })] rfl (by and_intros <;> first | exact fS rfl rfl | exact fF rfl rfl | (simp [hjs]; done) | omega | exact oK) ?_
        refine At.rt [] [] [] Tryz.func28 ?_
        exact ⟨rfl, rfl, rfl⟩
  · simp only [if_neg he] at gB
    rw [twB_bad he]
    generalize bothE n (verF S P n) (verF T P n) = e at gB he ⊢
    refine Tri.enter (bx := []) (hp := []) Tryz.func28 rfl (by kernel_rfl) rfl (Own.nil w) ?_
    refine At.go [] [] rfl (by and_intros <;> first | exact trivial | exact oK) ?_
    refine At.bo fun b5 hb5 => ?_
    refine At.go [] [hB 0] rfl (by and_intros <;> first | exact trivial | exact oK) ?_
    refine At.step [] rfl rfl rfl rfl rfl trivial (OpOk.call rfl (fun w' hw' => gB w' hw'.ext) ?_)
    rintro _ _ _ ⟨rfl, rfl, rfl⟩
    refine At.go [true] [] rfl (by and_intros <;> first | (simp [he]; done) | exact oK) ?_
    refine At.rt [] [] [] Tryz.func28 ?_
    exact ⟨rfl, rfl, rfl⟩
end Go.Proofs

/-
  Walks of layer 25's document: the clash of two images.
-/
namespace Go.Proofs
open Go Go.Eng
set_option maxRecDepth 100000
set_option maxHeartbeats 4000000
attribute [local irreducible] Tri

theorem FndOk.may {P n : Nat} {X : FndB} (h : FndOk P n X) {x : HdB} (hx : x ∈ X.H) : mayH x n = true := by
  obtain ⟨k, hk, rfl⟩ := List.getElem_of_mem hx
  have h1 := h.can k hk
  have h2 := hdAt_get hk
  rw [List.getElem?_eq_getElem hk] at h2
  rwa [← Option.some.inj h2] at h1
end Go.Proofs

/-
  Walks of the statements of layer 25: the example; TwinsClash.
-/
namespace Go.Proofs
open Go Go.Eng
set_option maxRecDepth 100000
set_option maxHeartbeats 4000000
attribute [local irreducible] Tri

theorem ex_ver25 : verF [] 2 1 = ⟨[], [], [], -1, 0⟩ := by
  have h1 : headsF [] (1 : Nat) = ([], true) := rfl
  have h2 : segF [] ((0 : Nat) : Int) = ([], true) := by
    show segF [] 0 = _
    unfold segF; rw [ex_nm0]; rfl
  have := verF_end (S := []) (per := 2) (n := 1) (by rw [h1]; rfl)
  rw [this, h1]
  simp only [List.length_nil]
  rw [h2]; rfl
set_option maxRecDepth 100000 in
theorem ex_cut25 : decide (([97] : List UInt8) ≠ [98] ∧ cutH 32 [97] = cutH 32 [98]) = false := by
  unfold cutH shaH; decide +kernel
theorem imOk_nil (w : World) : ImOk w [] none := ⟨by decide, (fun p hp => by cases hp), (fun p hp => by cases hp), .inl rfl⟩
theorem Tryz.alive25_w (w : World) (hT : Tryz.Tabs w) : Fun Tryz.prog 27 [] w (.bool true) := by
  have eB : bothE 1 ⟨[], [], [], -1, 0⟩ ⟨[], [], [], -1, 0⟩ = 0 := by unfold bothE; simp
  have fF : ∀ {bx : Bx} {hp : List Seg}, CallOb Tryz.prog ⟨w, kys [] []⟩ bx hp 28 [.slice none 0 0, .slice none 0 0, .agg ⟨[.int .i64 2, .int .i64 1, .int .i64 0, .int .i64 9]⟩] (.tuple #[str [], str [], .int .i64 7]) := fun {_ _} w' hw' => by
    have := Tryz.twFind_w [] [] 2 1 0 9 none none 0 0 w' (imOk_nil w') (imOk_nil w') (by decide) (Tryz.tabs_ext0 hT hw'.ext)
    rw [show ((2 : Nat) : Int) = 2 from rfl, ex_ver25, twB_zero eB] at this
    exact this
  have fA : ∀ {bx : Bx} {hp : List Seg}, CallOb Tryz.prog ⟨w, kys [] []⟩ bx hp 29 [.slice none 0 0, .slice none 0 0, .agg ⟨[.int .i64 2, .int .i64 1, .int .i64 0, .int .i64 9]⟩] (.tuple #[.bool true, .int .i64 0]) := fun {_ _} w' hw' => by
    have := Tryz.alike_w [] [] 2 1 0 9 none none 0 0 w' (imOk_nil w') (imOk_nil w') (by decide) (Tryz.tabs_ext0 hT hw'.ext)
    rw [show ((2 : Nat) : Int) = 2 from rfl, ex_ver25, eB] at this
    exact this
  have fC : ∀ {bx : Bx} {hp : List Seg}, CallOb Tryz.prog ⟨w, kys [] []⟩ bx hp 31 [str [97], str [97], .int .i64 1] (.bool false) := fun {_ _} w' hw' => by
    have := Tryz.twClash_w [97] [97] 1 w' (by decide) (by decide) (by decide) (Tryz.tabs_ext0 hT hw'.ext).1
    rwa [decide_eq_false (fun h => h.1 rfl)] at this
  have fD : ∀ {bx : Bx} {hp : List Seg}, CallOb Tryz.prog ⟨w, kys [] []⟩ bx hp 31 [str [97], str [98], .int .i64 32] (.bool false) := fun {_ _} w' hw' => by
    have := Tryz.twClash_w [97] [98] 32 w' (by decide) (by decide) (by decide) (Tryz.tabs_ext0 hT hw'.ext).1
    rwa [ex_cut25] at this
  refine Tri.enter (bx := []) (hp := []) Tryz.func27 rfl (by kernel_rfl) rfl (Own.nil w) ?_
  refine At.go [] [] rfl (by and_intros <;> first | exact fF | exact fA | exact fC | exact fD | (simp; done) | exact oK) ?_
  refine At.al fun b1 hb1 => ?_
  refine At.go [true, true, true, true] [hB 0, hB 0, hC (.tuple { toList := [.string { data := #[] }, .string { data := #[] }, .int .i64 7] }), hB 0, hC (.tuple ⟨[.bool true, .int .i64 0]⟩), hC (.bool false), hC (.bool false)] rfl (by and_intros <;> first | exact fF | exact fA | exact fC | exact fD | (simp; done) | exact oK) ?_
  refine At.rt [] [] [] Tryz.func27 ?_
  exact ⟨rfl, rfl, rfl⟩
theorem Tryz.twinsClash_w (x y : List UInt8) (n : Int) (w : World) (hx : x.length ≤ 9223372036854775807) (hy : y.length ≤ 9223372036854775807) (hxy : x.length + y.length ≤ 9223372036854775807) (hT : Tryz.Tabs w) :
    Fun Tryz.prog 8 [str x, str y, .int .i64 n] w (.bool true) := by
  have fA : ∀ {bx : Bx} {hp : List Seg}, CallOb Tryz.prog ⟨w, kys [] []⟩ bx hp 27 [] (.bool true) := fun {_ _} w' hw' => Tryz.alive25_w w' (Tryz.tabs_ext0 hT hw'.ext)
  by_cases h5 : 500 < x.length + y.length
  · refine Tri.enter (bx := []) (hp := []) Tryz.func8 rfl (by kernel_rfl) rfl (Own.nil w) ?_
    refine At.go [false, true] [hC (.bool true)] rfl (by and_intros <;> first | exact fA | (rw [bl_of, bl_of]; omega) | (rw [bl_of, bl_of]; exact decide_eq_true (by omega)) | exact oK) ?_
    refine At.rt [] [] [] Tryz.func8 ?_
    exact ⟨rfl, rfl, rfl⟩
  have q5 : decide ((500 : Int) < ((bl ⟨x.toArray⟩).length : Int) + ((bl ⟨y.toArray⟩).length : Int)) = false := by rw [bl_of, bl_of]; exact decide_eq_false (by omega)
  by_cases hn : n < 1 ∨ 32 < n
  · have fC : ∀ {S : Base} {bx : Bx} {hp : List Seg}, CallOb Tryz.prog S bx hp 31 [str x, str y, .int .i64 n] (.bool false) := fun {_ _ _} w' _ => Tryz.twClashNo_w x y n w' hn
    by_cases h1 : n < 1
    · refine Tri.enter (bx := []) (hp := []) Tryz.func8 rfl (by kernel_rfl) rfl (Own.nil w) ?_
      refine At.go [false, false, true, true] [hC (.bool true), hC (.bool false)] rfl (by and_intros <;> first | exact fA | exact fC | (rw [bl_of, bl_of]; omega) | exact q5 | exact decide_eq_true h1 | exact oK) ?_
      refine At.rt [] [] [] Tryz.func8 ?_
      exact ⟨rfl, rfl, rfl⟩
    · have h2 : 32 < n := by omega
      refine Tri.enter (bx := []) (hp := []) Tryz.func8 rfl (by kernel_rfl) rfl (Own.nil w) ?_
      refine At.go [false, false, false, true] [hC (.bool true), hC (.bool false)] rfl (by and_intros <;> first | exact fA | exact fC | (rw [bl_of, bl_of]; omega) | exact q5 | exact decide_eq_true h2 | exact decide_eq_false h1 | exact oK) ?_
      refine At.rt [] [] [] Tryz.func8 ?_
      exact ⟨rfl, rfl, rfl⟩
  · have hn1 : ¬ n < 1 := fun h => hn (.inl h)
    have hn2 : ¬ 32 < n := fun h => hn (.inr h)
    obtain ⟨N, rfl⟩ : ∃ N : Nat, n = N := ⟨n.toNat, by omega⟩
    have fK : ∀ {S : Base} {bx : Bx} {hp : List Seg}, CallOb Tryz.prog S bx hp 15 [] (.agg ⟨keyC⟩) := fun {_ _ _} w' _ => Tryz.makeKeyC_w w'
    have fC : ∀ {bx : Bx} {hp : List Seg}, CallOb Tryz.prog ⟨w, kys [] []⟩ bx hp 31 [str x, str y, .int .i64 N] (.bool (decide (x ≠ y ∧ cutH N x = cutH N y))) := fun {_ _} w' hw' => Tryz.twClash_w x y N w' (by omega) (by omega) (by omega) (Tryz.tabs_ext0 hT hw'.ext).1
    have fX : ∀ {S : Base} {bx : Bx} {hp : List Seg}, CallOb Tryz.prog S bx hp 32 [.agg ⟨keyC⟩, str x, .int .i64 N] (str (cutH N x)) := fun {_ _ _} w' _ => Tryz.rCut_w x N w' (by omega) (by omega)
    have fY : ∀ {S : Base} {bx : Bx} {hp : List Seg}, CallOb Tryz.prog S bx hp 32 [.agg ⟨keyC⟩, str y, .int .i64 N] (str (cutH N y)) := fun {_ _ _} w' _ => Tryz.rCut_w y N w' (by omega) (by omega)
    refine Tri.enter (bx := []) (hp := []) Tryz.func8 rfl (by kernel_rfl) rfl (Own.nil w) ?_
    refine At.gn 35 [false, false, false, false] [hC (.bool true), hC (.agg { toList := keyC })] rfl (by and_intros <;> first | exact fA | (rw [bl_of, bl_of]; omega) | exact q5 | exact decide_eq_false hn1 | exact decide_eq_false hn2 | exact oK) ?_
    refine At.go [] [hC (.agg ⟨keyC⟩)] rfl (by and_intros <;> first | exact fK | exact oK) ?_
    refine At.al fun b7 hb7 => ?_
    refine At.step0 [] rfl rfl rfl rfl trivial (OpOk.storeBlk 0 rfl rfl rfl Tryz.key_cells key_ones rfl (by rw [keyC_len]; decide) ?_)
    rw [key_put rfl]
    by_cases e : x = y
    · refine At.go [] [] rfl (by and_intros <;> first | exact fC | exact fX | exact fY | exact Tryz.key_ld (i := 0) rfl | (simp; done) | exact oK) ?_
      refine At.qt [false] [hC (.bool (decide (x ≠ y ∧ cutH N x = cutH N y)))] rfl rfl (by and_intros <;> first | exact fC | exact fX | exact fY | exact Tryz.key_ld (i := 0) rfl | (simp [e]; done) | exact oK) ?_
      refine At.go [] [] rfl (by and_intros <;> first | exact fC | exact fX | exact fY | exact Tryz.key_ld (i := 0) rfl | (simp; done) | exact oK) ?_
      refine At.rt [] [] [] Tryz.func8 ?_
      exact ⟨by by_cases h : cutH N x = cutH N y <;> simp [tupV, e], rfl, rfl⟩
    · refine At.go [] [] rfl (by and_intros <;> first | exact fC | exact fX | exact fY | exact Tryz.key_ld (i := 0) rfl | (simp; done) | exact oK) ?_
      refine At.dr 20 ?_
      refine AtD.pu [0, 1, 2, 4, 5] 15 rfl (by and_intros <;> first | exact fC | exact fX | exact fY | exact Tryz.key_ld (i := 0) rfl | (simp; done) | exact oK) ?_
      refine AtD.pu [6] 14 rfl (by and_intros <;> first | exact fC | exact fX | exact fY | exact Tryz.key_ld (i := 0) rfl | (simp; done) | exact oK) ?_
      refine AtD.f1 3 [] [] [hC (.bool (decide (x ≠ y ∧ cutH N x = cutH N y)))] rfl rfl rfl (by first | exact fC | exact fX | exact fY | exact Tryz.key_ld (i := 0) rfl | (simp [bl_of, e]; done) | exact oK) (by first | exact fC | exact fX | exact fY | exact Tryz.key_ld (i := 0) rfl | (simp; done) | exact oK) ?_
      refine AtD.pu [7] 12 rfl (by and_intros <;> first | exact fC | exact fX | exact fY | exact Tryz.key_ld (i := 0) rfl | (simp; done) | exact oK) ?_
      refine AtD.lx [8, 9, 10, 11, 12, 13, 14, 15, 16, 17, 18, 19] 0 [true] [hK (.agg { toList := keyC }), hC (.string { data := (cutH N x).toArray }), hK (.agg { toList := keyC }), hC (.string { data := (cutH N y).toArray })] rfl (by and_intros <;> first | exact fC | exact fX | exact fY | exact Tryz.key_ld (i := 0) rfl | (simp [e]; done) | exact oK) ?_
      refine AtD.dn ?_
      refine At.go [] [] rfl (by and_intros <;> first | exact fC | exact fX | exact fY | exact Tryz.key_ld (i := 0) rfl | (simp; done) | exact oK) ?_
      refine At.rt [] [] [] Tryz.func8 ?_
      exact ⟨by by_cases h : cutH N x = cutH N y <;> simp [tupV, e, h], rfl, rfl⟩
end Go.Proofs

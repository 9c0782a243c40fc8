/-
  Walks of layer 22: the least number of a segment's file above one.
-/
import Derived.Test.YtkmlfggemhachaaGreatDoorM16
import Derived.Test.YtkmlfggemhachaaGreatDoorM7
import Derived.Test.YtkmlfggemhachaaGreatDoorM38
import Derived.Test.YtkmlfggemhachaaGreatDoorM40
import Derived.Test.YtkmlfggemhachaaGreatDoorM37
import Derived.Test.YtkmlfggemhachaaGreatDoorM19
import Derived.Test.YtkmlfggemhachaaGreatDoorM21
import Derived.Test.YtkmlfggemhachaaGreatDoorM17
import Derived.Test.YtkmlfggemhachaaGreatDoorM11
import Derived.Test.YtkmlfggemhachaaGreatDoorM30
import Derived.Test.YtkmlfggemhachaaGreatDoorM32
import Derived.Test.YtkmlfggemhachaaGreatDoorM22
/-
  Walks of layer 22: the least number of a segment's file above one.
-/
namespace Go.Proofs
open Go Go.Eng
set_option maxRecDepth 100000
set_option maxHeartbeats 4000000
attribute [local irreducible] Tri

def encN (x : Int) : List Value := [.int .i64 x]
def segY (s : List UInt8) : List Int := if (kindB s).1 = 1 then [(kindB s).2.1] else []
theorem Tryz.segments_w (s : List UInt8) (w : World) : Tri Tryz.prog 110 [str s] w [] (fun v bx hp => ∃ b, v = .func (.func 143) #[] #[.pointer (some ⟨b, 0, none⟩)] ∧ bx = [(b, 9, [str s])] ∧ hp = []) := by
  refine Tri.enter (bx := []) (hp := []) Tryz.func110 rfl (by kernel_rfl) rfl (Own.nil w) ?_
  refine At.go [] [] rfl oK ?_
  refine At.bo fun b1 hb1 => ?_
  refine At.go [] [] rfl oK ?_
  refine At.rt [true] [] [] Tryz.func110 ?_
  exact ⟨_, rfl, rfl, rfl⟩
theorem Tryz.segs1_w (s : List UInt8) (b : Nat) (w : World) (hl : s.length ≤ 9223372036854775807) :
    Iter Tryz.prog 143 [.pointer (some ⟨b, 0, none⟩)] [(b, 9, [str s])] [] encN (segY s) w := by
  intro y s0 J hJ hown hfree hyield
  obtain ⟨kd, n, ok, hK⟩ : ∃ kd n ok, kindB s = (kd, n, ok) := ⟨_, _, _, rfl⟩
  have fC : ∀ {S : Base} {bx : Bx} {hp : List Seg}, CallOb Tryz.prog S bx hp 144 [str s] (.tuple #[.int .i64 kd, .int .i64 n, .bool ok]) := fun {_ _ _} w' _ => by
    have := Tryz.shKind_w s w' hl; rwa [hK] at this
  have hY : segY s = if kd = 1 then [n] else [] := by unfold segY; rw [hK]
  rw [hY] at hyield ⊢
  clear hY hK
  refine Tri.enter Tryz.func143 rfl (by kernel_rfl) rfl hown ?_
  by_cases hk : kd = 1
  · rw [if_pos hk] at hyield ⊢
    refine At.go [true] [hB 0, hC (.tuple ⟨[.int .i64 kd, .int .i64 n, .bool ok]⟩)] rfl (by and_intros <;> first | exact fC | exact decide_eq_true hk | exact oK) ?_
    refine At.yield [] rfl rfl rfl rfl rfl trivial (lp := y) (args := encN n) rfl [] [true] (bm := []) (hm := [s0]) (br := [(b, 9, [str s])]) (hr := []) (Q := fun bx hp => bx = [] ∧ ∃ s', hp = [s'] ∧ J ([] ++ [n]) s') rfl
      (fun w' hw' => hyield [] n s0 w' (List.prefix_rfl) hJ (Own.tailF hw'.toOwn) hw'.ext) ?_
    rintro _ _ ⟨rfl, s', rfl, hJ'⟩
    refine At.go [] [] rfl oK ?_
    refine At.rt [true] [true] [] Tryz.func143 ?_
    exact ⟨rfl, s', rfl, hJ'⟩
  · rw [if_neg hk]
    refine At.go [false] [hB 0, hC (.tuple ⟨[.int .i64 kd, .int .i64 n, .bool ok]⟩)] rfl (by and_intros <;> first | exact fC | exact decide_eq_false hk | exact oK) ?_
    refine At.rt [true] [true] [] Tryz.func143 ?_
    exact ⟨rfl, s0, rfl, hJ⟩
theorem Tryz.further_w (S : FL) (k : Int) (fa : Option Addr) (fc bv : Nat) (rv : List Value) (w : World) (hlen : S.length ≤ 60) (hns : ∀ p, p ∈ S → p.1.length ≤ 9223372036854775807) (hk0 : 0 ≤ k) (hfr : SlOk w fa (fl S)) (hv : SlOk w (some ⟨bv, 0, none⟩) (.slice fa S.length fc :: rv)) :
    Fun Tryz.prog 68 [.pointer (some ⟨bv, 0, none⟩), .int .i64 k] w (.int .i64 (nxtL k (kindsF 1 S))) := by
  have fL : ∀ {bx : Bx} {hp : List Seg}, CallOb Tryz.prog ⟨w, kys [] []⟩ bx hp 109 [.slice fa S.length fc] (.int .i64 (lastF S)) := fun {_ _} w' hw' => Tryz.imLast_w S fa fc w' hlen (hfr.ext hw'.ext (by simp [kys])) hns
  have h0 : ∀ x, x ∈ kindsF 1 S → 0 ≤ x := fun x hx => (kindsF_in hx).1
  refine Tri.enter (bx := []) (hp := []) Tryz.func68 rfl (by kernel_rfl) rfl (Own.nil w) ?_
  by_cases hle : lastF S ≤ k
  · have e := nxt_none h0 (by rw [← lastF_max]; exact hle)
    refine At.go [] [] rfl (by and_intros <;> first | exact rdS hv 0 rfl | exact fL | exact decide_eq_true hle | exact oK) ?_
    refine At.bo fun b3 hb3 => ?_
    refine At.go [true] [hR [.slice fa (List.length S) fc], hC (.int .i64 (lastF S)), hB 0] rfl (by and_intros <;> first | exact rdS hv 0 rfl | exact fL | exact decide_eq_true hle | exact oK) ?_
    rw [e]
    refine At.rt [false] [] [] Tryz.func68 ?_
    exact ⟨rfl, rfl, rfl⟩
  have hm := minK_nxt h0 (by rw [← lastF_max]; omega) hk0
  rw [← lastF_max] at hm
  refine At.go [] [] rfl (by and_intros <;> first | exact rdS hv 0 rfl | exact fL | exact decide_eq_false hle | exact oK) ?_
  refine At.bo fun b3 hb3 => ?_
  refine At.go [false] [hR [.slice fa (List.length S) fc], hC (.int .i64 (lastF S)), hB 0] rfl (by and_intros <;> first | exact rdS hv 0 rfl | exact fL | exact decide_eq_false hle | exact oK) ?_
  refine At.al fun b6 hb6 => ?_
  refine At.go [] [hB 0, hR [.slice fa (List.length S) fc]] rfl (by and_intros <;> first | exact rdS hv 0 rfl | exact fL | exact decide_eq_false hle | exact oK) ?_
  refine At.noMarks ?_
  refine At.loopC (n := S.length) (env0 := [(3, .pointer (some ⟨b3, 0, none⟩)), (6, .pointer (some ⟨b6, 0, none⟩)), (22, .slice fa S.length fc), (23, .int .i64 (S.length : Int)), (24, .int .i64 0)]) (fun m_ Ds env bx hp => ∃ i : Nat, m_ = S.length - i ∧ i ≤ S.length ∧ env = [(3, .pointer (some ⟨b3, 0, none⟩)), (6, .pointer (some ⟨b6, 0, none⟩)), (22, .slice fa S.length fc), (23, .int .i64 (S.length : Int)), (24, .int .i64 (i : Int))] ∧ bx = [(b6, 3, [.int .i64 (minK k (lastF S) (kindsF 1 (S.take i)))]), (b3, 3, [.int .i64 k])] ∧ hp = [Seg.marks Ds]) rfl
    ⟨0, by omega, by omega, rfl, rfl, rfl⟩ sB ?_
  rintro m_ Ds env bx hp ⟨i, rfl, hi, rfl, rfl, rfl⟩ ih
  by_cases hlt : i < S.length
  · obtain ⟨p, hp⟩ : ∃ p, S[i]? = some p := ⟨_, List.getElem?_eq_getElem hlt⟩
    obtain ⟨g, o, rfl, hc⟩ := hfr.get (fl_ne (by intro h; rw [h] at hlt; simp at hlt))
    have rE : ∀ {bx : Bx} {hp : List Seg}, RdW ⟨w, kys [] []⟩ bx hp g (o + (i : Int).toNat * 2) [str p.1, str p.2] := fun {_ _} => RdW.fileE hc (by simp [kys]) hp (by omega)
    have hsn : kindsF 1 (S.take (i + 1)) = kindsF 1 (S.take i) ++ segY p.1 := by rw [List.take_add_one, hp]; exact kindsF_snoc 1 _ p
    refine At.go [true] [hR [.string { data := p.fst.toArray }, .string { data := p.snd.toArray }]] rfl (by and_intros <;> first | exact rE | exact decide_eq_true (by omega) | exact oK) ?_
    refine At.al fun b8 hb8 => ?_
    refine At.go [] [hB 0, hB 0] rfl (by and_intros <;> first | exact rE | exact decide_eq_true (by omega) | exact oK) ?_
    refine At.step [] rfl rfl rfl rfl rfl trivial (OpOk.call rfl (fun w' _ => Tryz.segments_w p.1 w') ?_)
    rintro _ _ _ ⟨b, rfl, rfl, rfl⟩
    refine At.go [] [] rfl oK ?_
    refine At.rangeI (bi := [(b, 9, [str p.1])]) (bc := [(b8, 71, [str p.1, str p.2]), (b6, 3, [.int .i64 (minK k (lastF S) (kindsF 1 (S.take i)))]), (b3, 3, [.int .i64 k])]) (hp := [Seg.marks Ds]) rfl rfl rfl (rd := []) (by simp) (enc := encN) (xs := segY p.1) (fun _ => rfl) rfl
      (fun pre bx hp => bx = [(b8, 71, [str p.1, str p.2]), (b6, 3, [.int .i64 (minK k (lastF S) (kindsF 1 (S.take i) ++ pre))]), (b3, 3, [.int .i64 k])] ∧ hp = [Seg.marks Ds]) ⟨by rw [List.append_nil], rfl⟩ (fun w' _ => Tryz.segs1_w p.1 b w' (hns p (List.mem_of_getElem? hp))) ?_ ?_
    · rintro lp D tm pre x bx hp w' hpre ⟨rfl, rfl⟩ hext
      have hmk := minK_snoc k (lastF S) (kindsF 1 (S.take i) ++ pre) x
      rw [List.append_assoc] at hmk
      refine At.run 100 true [] [] rfl trivial ?_
      refine At.begin ?_
      by_cases hx : k < x
      · rw [if_pos hx] at hmk
        refine At.go [true] [hB 2, hB 1, hB 1] rfl (by and_intros <;> first | exact decide_eq_true hx | exact oK) ?_

        exact At.roundEnd ⟨_, rfl, by rw [hmk], rfl⟩
      · rw [if_neg hx] at hmk
        refine At.go [false] [hB 2] rfl (by and_intros <;> first | exact decide_eq_false hx | exact oK) ?_
        exact At.roundEnd ⟨_, rfl, by rw [hmk], rfl⟩
    · rintro D bx' hp' ⟨rfl, rfl⟩
      refine At.markIn (hp := []) ?_
      refine At.go [] [] rfl oK ?_
      refine At.keep [false, false, true, true] [true] rfl ?_
      rw [← hsn]
      exact At.weak (ih (S.length - (i + 1)) _ _ _ _ (by omega) ⟨i + 1, rfl, by omega, rfl, rfl, rfl⟩) sB
  · obtain rfl : i = S.length := by omega
    rw [List.take_length, hm.1]
    refine At.go [false] [hB 0] rfl (by and_intros <;> first | exact decide_eq_false (by omega) | exact oK) ?_
    exact At.retCs [false, false] [] [] Tryz.func68 rfl trivial rfl ⟨rfl, rfl, rfl⟩
end Go.Proofs

/-
  Walks of layer 22: all that a verifier looks at.
-/
namespace Go.Proofs
open Go Go.Eng
set_option maxRecDepth 100000
set_option maxHeartbeats 4000000
attribute [local irreducible] Tri

theorem hdG_may {r : List UInt8} {n : Int} (h : (hdG r n).2 = 0) : mayH (hdG r n).1 n = true := by
  unfold hdG at h ⊢
  split
  · rename_i h1; rw [if_pos h1] at h; exact absurd h h1
  · rename_i h1
    rw [if_neg h1] at h
    split
    · rename_i h2; rw [if_pos h2] at h; exact absurd h (by decide)
    · rename_i h2
      cases hm : mayH (hdR r n).h n with
      | true => rfl
      | false => exact absurd (Or.inr hm) h2
theorem hsB_may {n : Int} : ∀ {l : List (List UInt8)} {x : HdB}, x ∈ (hsB n l).1 → mayH x n = true
  | [], x, h => by simp [hsB] at h
  | r :: l, x, h => by
    by_cases he : (hdG r n).2 = 0
    · rw [hsB_ok he] at h
      rcases List.mem_cons.1 h with rfl | h
      · exact hdG_may he
      · exact hsB_may h
    · rw [hsB_bad he] at h; simp at h
theorem headsF_may {S : FL} {n : Int} {x : HdB} (h : x ∈ (headsF S n).1) : mayH x n = true := by
  unfold headsF at h
  split at h
  · exact hsB_may h
  · simp at h
theorem headsF_few {S : FL} {n : Int} (h : ∀ p, p ∈ S → p.2.length ≤ 6000) : (headsF S n).1.length ≤ 6000 := by
  unfold headsF
  split
  · have h1 := hsB_len n (frowsB (readN S headsB))
    have h2 := (scan_len (readN S headsB)).1
    have h3 := readF_len (n := headsB) h
    have h4 : (frowsB (readN S headsB)).length = (scan (readN S headsB)).length := by unfold frowsB; rw [List.length_map]
    simp only; omega
  · exact Nat.zero_le _
theorem rowsK_len {S : FL} (h : ∀ p, p ∈ S → p.2.length ≤ 6000) : ∀ k, (rowsK S k).length ≤ 6000 * k
  | 0 => by simp [rowsK]
  | k + 1 => by
    rw [rowsK_succ, List.length_append]
    have := rowsK_len h k
    have := segF_few (k := k) h
    omega
theorem Tryz.run12_w (b : Bool) (b6 : Nat) (w : World) (h6 : SlOk w (some ⟨b6, 0, none⟩) [.bool b]) : Fun Tryz.prog 65 [.pointer (some ⟨b6, 0, none⟩)] w (.bool b) ∧ Fun Tryz.prog 66 [.pointer (some ⟨b6, 0, none⟩)] w (.bool b) := by
  constructor
  · refine Tri.enter (bx := []) (hp := []) Tryz.func65 rfl (by kernel_rfl) rfl (Own.nil w) ?_
    refine At.go [] [hR [.bool b]] rfl (by and_intros <;> first | exact rdS h6 0 rfl | exact oK) ?_
    refine At.rt [] [] [] Tryz.func65 ?_
    exact ⟨rfl, rfl, rfl⟩
  · refine Tri.enter (bx := []) (hp := []) Tryz.func66 rfl (by kernel_rfl) rfl (Own.nil w) ?_
    refine At.go [] [hR [.bool b]] rfl (by and_intros <;> first | exact rdS h6 0 rfl | exact oK) ?_
    refine At.rt [] [] [] Tryz.func66 ?_
    exact ⟨rfl, rfl, rfl⟩
theorem Tryz.run3_w (ra : Option Addr) (m rc : Nat) (fv : Value) (rv : List Value) (c1 : Int) (b10 b1 bv : Nat) (w : World) (h10 : SlOk w (some ⟨b10, 0, none⟩) [.slice ra m rc]) (h1 : SlOk w (some ⟨b1, 0, none⟩) [.pointer (some ⟨bv, 0, none⟩)]) (hv : SlOk w (some ⟨bv, 0, none⟩) (fv :: .int .i64 c1 :: rv)) :
    Fun Tryz.prog 67 [.pointer (some ⟨b10, 0, none⟩), .pointer (some ⟨b1, 0, none⟩)] w (.bool (decide ((m : Int) < c1))) := by
  refine Tri.enter (bx := []) (hp := []) Tryz.func67 rfl (by kernel_rfl) rfl (Own.nil w) ?_
  refine At.go [] [] rfl (by and_intros <;> first | exact rdS h10 0 rfl | exact rdS h1 0 rfl | exact rdS hv 1 rfl | exact oK) ?_
  refine At.qt [] [hR [.slice ra m rc], hR [.pointer (some ⟨bv, 0, none⟩)], hR [.int .i64 c1]] rfl rfl (by and_intros <;> first | exact rdS h10 0 rfl | exact rdS h1 0 rfl | exact rdS hv 1 rfl | exact oK) ?_
  refine At.go [] [] rfl (by and_intros <;> first | exact rdS h10 0 rfl | exact rdS h1 0 rfl | exact rdS hv 1 rfl | exact oK) ?_
  refine At.rt [] [] [] Tryz.func67 ?_
  exact ⟨rfl, rfl, rfl⟩
theorem not_sub {q : Nat} {bx bm : Bx} {hp hm : List Seg} (h : q ∉ kys bx hp) (hs : ∀ k, k ∈ kys bm hm → k ∈ kys bx hp) : q ∉ kys bm hm := fun hc => h (hs q hc)
theorem mem_slR_sv {q : Nat} {a : Option Nat} {xs : List Value} (h : q ∈ slR (svA a) xs) : a = some q := by
  cases xs with
  | nil => simp [slR] at h
  | cons x l =>
    cases a with
    | none => simp [slR, slB, svA] at h
    | some g => simp [slR, slB, svA] at h; rw [h]
theorem kys_in {b6 b1 bv t6 t1 tv tm : Nat} {c6 c1 cv cm : List Value} (g gh : Option Nat) {tr th sz n c nh ch : Nat} {xs ys : List Value} : ∀ z, z ∈ kys [(bv, tm, cm)] [Seg.row g tr sz n c xs] → z ∈ kys [(b6, t6, c6), (b1, t1, c1), (bv, tv, cv)] [Seg.row g tr sz n c xs, Seg.row gh th 6 nh ch ys] := by
  intro z hz
  simp only [kys, Seg.row, List.map_cons, List.map_nil, List.flatMap_cons, List.flatMap_nil, List.append_nil, List.mem_append, List.mem_cons, List.not_mem_nil, or_false] at hz ⊢
  rcases hz with h | h
  · exact .inl (.inr (.inr h))
  · exact .inr (.inl h)
theorem kys_out {q b6 b1 bv t6 t1 tv tm : Nat} {c6 c1 cv cm : List Value} {g gh : Option Nat} {tr th sz n c nh ch : Nat} {xs ys : List Value} (h : (kys [(b6, t6, c6), (b1, t1, c1), (bv, tv, cv)] [Seg.row g tr sz n c xs, Seg.row gh th 6 nh ch ys]).Nodup) (hq : gh = some q) : q ∉ kys [(bv, tm, cm)] [Seg.row g tr sz n c xs] := by
  subst hq
  intro hz
  simp only [kys, Seg.row, List.map_cons, List.map_nil, List.flatMap_cons, List.flatMap_nil, List.append_nil, List.mem_append, List.mem_cons, List.not_mem_nil, or_false] at hz
  simp only [kys, Seg.row, List.map_cons, List.map_nil, List.flatMap_cons, List.flatMap_nil, List.append_nil, Option.toList_some] at h
  rw [← List.append_assoc] at h
  exact (List.nodup_append.1 h).2.2 q (by rcases hz with rfl | hz; · simp
                                          · simp [hz]) q (by simp) rfl
def Tryz.looks3 (c1 : Int) (just wh : Bool) (m b6 b11 b10 b1 : Nat) : List LookE :=
  [(65, [.pointer (some ⟨b6, 0, none⟩)], just, 3), (66, [.pointer (some ⟨b11, 0, none⟩)], wh, 3), (67, [.pointer (some ⟨b10, 0, none⟩), .pointer (some ⟨b1, 0, none⟩)], decide ((m : Int) < c1), 11)]
/-- What a run tells. -/
def Tryz.RunQ (S : FL) (c1 c3 c4 : Int) (n : Nat) (fa : Option Addr) (fc bv : Nat) (v : Value) (bx : Bx) (hp : List Seg) : Prop :=
  ((verF S c1 n).e ≠ 0 ∧ v = .tuple #[.slice none 0 0, .int .i64 (verF S c1 n).at_, .int .i64 (verF S c1 n).e] ∧ (∃ cs, bx = [(bv, 74, cs)]) ∧ hp = []) ∨
  ((verF S c1 n).e = 0 ∧ ∃ (gh : Option Nat) (hc : Nat) (g : Option Nat) (c : Nat) (gt : Option Nat) (tc : Nat), v = .tuple #[sv gt (verF S c1 n).T.length tc, .int .i64 (verF S c1 n).at_, .int .i64 0] ∧ bx = [(bv, 74, [.slice fa S.length fc, .int .i64 c1, .int .i64 n, .int .i64 c3, .int .i64 c4, sv gh (verF S c1 n).H.length hc, sv g (verF S c1 n).R.length c])] ∧
    hp = [Seg.row gt 9 1 (verF S c1 n).T.length tc ((verF S c1 n).T.map str), Seg.row g 9 1 (verF S c1 n).R.length c ((verF S c1 n).R.map str), Seg.row gh 55 6 (verF S c1 n).H.length hc ((verF S c1 n).H.flatMap hdC)])
theorem verF_hit {S : FL} {per : Int} {n k : Nat} (h : fstE (segE S per n (headsF S n).1) (headsF S n).1.length 0 = some k) : verF S per n = ⟨[], [], [], k, segE S per n (headsF S n).1 k⟩ := by unfold verF; rw [h]
theorem verF_end {S : FL} {per : Int} {n : Nat} (h : fstE (segE S per n (headsF S n).1) (headsF S n).1.length 0 = none) : verF S per n =
    if (headsF S n).2 = false ∨ (segF S (headsF S n).1.length).2 = false then ⟨[], [], [], (headsF S n).1.length, 3⟩ else
    if per ≤ (segF S (headsF S n).1.length).1.length then ⟨[], [], [], (headsF S n).1.length, 11⟩ else
    if 0 ≤ nxtL (headsF S n).1.length (kindsF 1 S) then ⟨[], [], [], nxtL (headsF S n).1.length (kindsF 1 S), 4⟩ else
    ⟨(headsF S n).1, rowsK S (headsF S n).1.length, (segF S (headsF S n).1.length).1, -1, 0⟩ := by unfold verF; rw [h]
theorem Tryz.run_w (S : FL) (n : Nat) (c1 c3 c4 : Int) (fa : Option Addr) (fc bv : Nat) (w : World) (hlen : S.length ≤ 60) (hSb : ∀ p, p ∈ S → p.2.length ≤ 6000) (hns : ∀ p, p ∈ S → p.1.length ≤ 9223372036854775807) (hn : 1 ≤ n ∧ n ≤ 32) (hfr : SlOk w fa (fl S)) (hT : Tryz.Tabs w)
    (hown : Own [(bv, 74, [.slice fa S.length fc, .int .i64 c1, .int .i64 n, .int .i64 c3, .int .i64 c4, .slice none 0 0, .slice none 0 0])] [] w) (hd1 : ∀ q, q ∈ slR fa (fl S) → q ≠ bv) (hd3 : ∀ q, q ∈ Tryz.tabG → q ≠ bv) :
    Tri Tryz.prog 34 [.pointer (some ⟨bv, 0, none⟩)] w [bv] (Tryz.RunQ S c1 c3 c4 n fa fc bv) := by
  have hHf := headsF_few (n := (n : Int)) hSb
  have hHm : ∀ x, x ∈ (headsF S n).1 → x.p.length ≤ 9223372036854775807 ∧ x.r.length ≤ 9223372036854775807 := fun x hx => by have := mayH_in (headsF_may hx); omega
  have hfB : ∀ q, q ∈ slR fa (fl S) → q ∉ kys [(bv, 74, [.slice fa S.length fc, .int .i64 c1, .int .i64 n, .int .i64 c3, .int .i64 c4, .slice none 0 0, .slice none 0 0])] [] := fun q hq => by simpa [kys] using hd1 q hq
  have htB : ∀ q, q ∈ Tryz.tabG → q ∉ kys [(bv, 74, [.slice fa S.length fc, .int .i64 c1, .int .i64 n, .int .i64 c3, .int .i64 c4, .slice none 0 0, .slice none 0 0])] [] := fun q hq => by simpa [kys] using hd3 q hq
  have hflt := hfr.ltR
  have htlt := Tryz.tabs_lt hT
  unfold Tryz.RunQ
  obtain ⟨X, hX⟩ : ∃ X, verF S c1 n = X := ⟨_, rfl⟩
  rw [hX]
  obtain ⟨H, hH⟩ : ∃ H, (headsF S n).1 = H := ⟨_, rfl⟩
  obtain ⟨just, hj⟩ : ∃ j, (headsF S n).2 = j := ⟨_, rfl⟩
  rw [hH] at hHf hHm
  have fHd := fun (w' : World) (hr : SlOk w' fa (fl S)) => Tryz.imHeaders_w S c1 n c3 c4 fa fc w' hlen hSb hr
  rw [hH, hj] at fHd
  have hX1 := fun k => verF_hit (S := S) (per := c1) (n := n) (k := k)
  have hX2 := verF_end (S := S) (per := c1) (n := n)
  simp only [hH, hX] at hX1
  rw [hH, hX, hj] at hX2
  refine Tri.enter Tryz.func34 rfl (by kernel_rfl) rfl hown ?_
  refine At.go [] [] rfl oK ?_
  refine At.bo fun b1 hb1 => ?_
  refine At.gn 3 [] [] rfl oK ?_
  refine At.cutS (ι := Nat × Option Nat × Nat) ⟨0, [0, 1, 1], []⟩ (fun e => [(1, .pointer (some ⟨b1, 0, none⟩)), (5, sv e.2.1 H.length e.2.2), (6, .pointer (some ⟨e.1, 0, none⟩))])
    (fun e => [(e.1, 4, [.bool just]), (b1, 72, [.pointer (some ⟨bv, 0, none⟩)]), (bv, 74, [.slice fa S.length fc, .int .i64 c1, .int .i64 n, .int .i64 c3, .int .i64 c4, .slice none 0 0, .slice none 0 0])])
    (fun e => [Seg.row e.2.1 55 6 H.length e.2.2 (H.flatMap hdC)]) ?_ fun hk0 => ?_
  rotate_left
  · refine At.dr 15 ?_
    refine AtH.readsK [true, true] [] [0, 1, 2, 3, 4, 5, 6, 7] [hB 0, hB 1, hB 0, hB 1] rfl rfl (by and_intros <;> first | exact trivial | exact oK) rfl rfl (fuel := 7) ?_
    refine AtH.fork2 8 12 (by kernel_rfl) rfl rfl rfl rfl rfl rfl (OpOk.call rfl (fun w' hw' => fHd w' (SlOk.extR hfr hw'.ext hfB)) ?_) (OpOk.alloc rfl rfl fun b12 hb12 => ⟨fun w hw => hw.selK [false, true, true] [], ?_⟩)
    · rintro _ _ _ ⟨gh, hc, rfl, rfl, rfl⟩
      refine ⟨fun w hw => hw.selK [true, true] [false], ?_⟩
      refine AtH.reK [9, 10, 11] [] rfl oK rfl rfl (fuel := 3) ?_
      refine AtH.f1 12 rfl (OpOk.alloc rfl rfl fun b12 hb12 => ⟨fun w hw => hw.selK [false, true, true] [false], ?_⟩)
      refine AtH.reK [13] [] rfl oK rfl rfl (fuel := 1) ?_
      refine AtH.f1 14 rfl (OpOk.one true [] [hB 0] rfl ⟨rfl, rfl⟩ ⟨fun w hw => hw.selK [false, true, true] [false], ?_⟩)
      refine AtH.dn ?_
      refine At.gn 2 [] [hB 1, hB 2] rfl (by and_intros <;> first | exact trivial | exact oK) ?_
      exact At.weak (hk0 (b12, gh, hc)) sB
    · refine AtH.f1 8 rfl (OpOk.call rfl (fun w' hw' => fHd w' (SlOk.extR hfr hw'.ext hfB)) ?_)
      rintro _ _ _ ⟨gh, hc, rfl, rfl, rfl⟩
      refine ⟨fun w hw => hw.selK [false, true, true] [false], ?_⟩
      refine AtH.reK [9, 10, 11, 13] [] rfl oK rfl rfl (fuel := 1) ?_
      refine AtH.f1 14 rfl (OpOk.one true [] [hB 0] rfl ⟨rfl, rfl⟩ ⟨fun w hw => hw.selK [false, true, true] [false], ?_⟩)
      refine AtH.dn ?_
      refine At.gn 2 [] [hB 1, hB 2] rfl (by and_intros <;> first | exact trivial | exact oK) ?_
      exact At.weak (hk0 (b12, gh, hc)) sB
  rintro ⟨b6, gh, hc⟩
  dsimp only
  refine At.rowCap 0 rfl fun hcap => ?_
  refine At.go [] [hB 1, hB 2] rfl (by and_intros <;> first | exact trivial | exact oK) ?_
  refine At.nilRow 9 1 ?_
  refine At.loop (env0 := [(1, .pointer (some ⟨b1, 0, none⟩)), (5, .slice (svA gh) H.length hc), (6, .pointer (some ⟨b6, 0, none⟩)), (31, .int .i64 ↑H.length), (32, .int .i64 0)]) (fun m_ env bx hp => ∃ (k : Nat) (R : List (List UInt8)) (g : Option Nat) (c : Nat), m_ = H.length - k ∧ (k ≤ H.length) ∧ (R = rowsK S k) ∧ (fstE (segE S c1 n H) H.length 0 = fstE (segE S c1 n H) (H.length - k) k) ∧ env = [(1, .pointer (some ⟨b1, 0, none⟩)), (5, .slice (svA gh) H.length hc), (6, .pointer (some ⟨b6, 0, none⟩)), (31, .int .i64 ↑H.length), (32, .int .i64 k)] ∧ bx = [(b6, 4, [.bool just]), (b1, 72, [.pointer (some ⟨bv, 0, none⟩)]), (bv, 74, [.slice fa S.length fc, .int .i64 c1, .int .i64 n, .int .i64 c3, .int .i64 c4, sv gh H.length hc, sv g R.length c])] ∧ hp = [Seg.row g 9 1 R.length c (R.map str), Seg.row gh 55 6 H.length hc (List.flatMap hdC H)]) rfl
    ⟨0, [], none, 0, rfl, (by omega), (rfl), (rfl), rfl, rfl, rfl⟩ sB ?_
  rintro m_ env bx hp ⟨k, R, g, c, rfl, hk, hR, hf, rfl, rfl, rfl⟩ ih
  have hRl : R.length ≤ 36000000 := by have := rowsK_len hSb k; rw [← hR] at this; omega
  by_cases hlt : k < H.length
  · refine At.go [true] [hB 1] rfl (by and_intros <;> first | exact decide_eq_true (by omega) | exact oK) ?_
    refine At.step [] rfl rfl rfl rfl rfl trivial (OpOk.callO [false, false, true] [true, false] rfl rfl (fun w' hw' ho => Tryz.sealed_w S H R k n c1 c3 c4 fa (svA gh) fc hc g c bv w' hlen hSb hlt hcap hHf hHm hn (by omega) (SlOk.extR hfr hw'.ext hfB) (SlOk.row (hw'.hp _ (nth_mem (i := 1) rfl))) (Tryz.tabs_ext hT hw'.ext htB) ho ?_ ?_ ?_) ?_)
    · exact fun q hq => not_sub (WOk.free hw' (hflt q hq) (hfB q hq)) (kys_in g gh)
    · exact fun q hq => kys_out hw'.nd (mem_slR_sv hq)
    · exact fun q hq => not_sub (WOk.free hw' (htlt q hq) (htB q hq)) (kys_in g gh)
    rintro _ _ _ ⟨g2, c2, rfl, rfl, rfl⟩
    by_cases he : segE S c1 n H k = 0
    · refine At.go [false] [] rfl (by and_intros <;> first | exact decide_eq_false (by omega) | (simp [he]; done) | exact oK) ?_
      refine At.order [2, 2] [] rfl rfl ?_
      exact At.weak (ih _ _ _ _ (by omega) ⟨k + 1, R ++ (segF S k).1, g2, c2, rfl, by omega, by rw [hR, rowsK_succ], by rw [hf, fstE_step hlt he], rfl, rfl, rfl⟩) sB
    · refine At.go [true] [] rfl (by and_intros <;> first | exact decide_eq_true (by omega) | (simp [he]; done) | exact oK) ?_
      rw [hX1 k (by rw [hf]; exact fstE_hit hlt he)]
      refine At.rt [true, false, false] [false, false] [] Tryz.func34 ?_
      exact .inl ⟨he, rfl, ⟨_, rfl⟩, rfl⟩
  · obtain rfl : k = H.length := by omega
    have hXe := hX2 (by rw [hf]; exact fstE_end _ _)
    refine At.go [false] [hB 1, hB 2] rfl (by and_intros <;> first | exact decide_eq_false (by omega) | exact oK) ?_
    refine At.step [] rfl rfl rfl rfl rfl trivial (OpOk.call rfl (fun w' hw' => Tryz.imSegment_w S H.length fa fc w' hlen hSb (SlOk.extR hfr hw'.ext hfB) (by simp only [inK]; omega) (Tryz.tabs_ext hT hw'.ext htB).2) ?_)
    rintro _ _ _ ⟨gt, tc, rfl, rfl, rfl⟩
    obtain ⟨tl, htl⟩ : ∃ tl, (segF S H.length).1 = tl := ⟨_, rfl⟩
    obtain ⟨wh, hwh⟩ : ∃ wh, (segF S H.length).2 = wh := ⟨_, rfl⟩
    rw [htl, hwh] at hXe ⊢
    have htf := segF_few (k := (H.length : Int)) hSb
    rw [htl] at htf
    refine At.go [] [] rfl (by and_intros <;> first | exact trivial | exact oK) ?_
    refine At.al fun b10 hb10 => ?_
    refine At.al fun b11 hb11 => ?_
    refine At.go [] [hB 1, hB 0] rfl (by and_intros <;> first | exact trivial | exact oK) ?_
    refine At.step [] rfl rfl rfl rfl rfl trivial (OpOk.buildSlice rfl rfl rfl rfl rfl rfl rfl (fun bs hbs => ?_))
    have fF : ∀ {bx : Bx} {hp : List Seg}, nth bx 0 = some (bs, 113, (Tryz.looks3 c1 just wh tl.length b6 b11 b10 b1).flatMap lookC) → nth bx 1 = some (b11, 4, [.bool wh]) → nth bx 2 = some (b10, 41, [sv gt tl.length tc]) → nth bx 3 = some (b6, 4, [.bool just]) → nth bx 4 = some (b1, 72, [.pointer (some ⟨bv, 0, none⟩)]) → nth bx 5 = some (bv, 74, [.slice fa S.length fc, .int .i64 c1, .int .i64 n, .int .i64 c3, .int .i64 c4, sv gh H.length hc, sv g R.length c]) →
        CallOb Tryz.prog ⟨w, kys [(bv, 74, [.slice fa S.length fc, .int .i64 c1, .int .i64 n, .int .i64 c3, .int .i64 c4, .slice none 0 0, .slice none 0 0])] []⟩ bx hp 64 [.slice (some ⟨bs, 0, none⟩) 3 3] (.int .i64 (fstL (Tryz.looks3 c1 just wh tl.length b6 b11 b10 b1))) := fun {_ _} q0 q1 q2 q3 q4 q5 w' hw' => by
      refine Tryz.first_w (Tryz.looks3 c1 just wh tl.length b6 b11 b10 b1) (some ⟨bs, 0, none⟩) 3 w' (by show 3 ≤ 1000; decide) (SlOk.blk (hw'.bx _ (nth_mem q0))) ?_
      intro i y hy hok w2 he
      rcases i with _ | _ | _ | i
      · cases hy
        exact (Tryz.run12_w just b6 w2 ((SlOk.blk (hw'.bx _ (nth_mem q3))).ext he (by simp))).1
      · cases hy
        exact (Tryz.run12_w wh b11 w2 ((SlOk.blk (hw'.bx _ (nth_mem q1))).ext he (by simp))).2
      · cases hy
        exact Tryz.run3_w _ _ tc _ _ c1 b10 b1 bv w2 ((SlOk.blk (hw'.bx _ (nth_mem q2))).ext he (by simp)) ((SlOk.blk (hw'.bx _ (nth_mem q4))).ext he (by simp)) ((SlOk.blk (hw'.bx _ (nth_mem q5))).ext he (by simp))
      · exact absurd (List.getElem?_eq_some_iff.1 hy).1 (by simp [Tryz.looks3])
    have fU : ∀ {bx : Bx} {hp : List Seg}, nth bx 5 = some (bv, 74, [.slice fa S.length fc, .int .i64 c1, .int .i64 n, .int .i64 c3, .int .i64 c4, sv gh H.length hc, sv g R.length c]) → CallOb Tryz.prog ⟨w, kys [(bv, 74, [.slice fa S.length fc, .int .i64 c1, .int .i64 n, .int .i64 c3, .int .i64 c4, .slice none 0 0, .slice none 0 0])] []⟩ bx hp 68 [.pointer (some ⟨bv, 0, none⟩), .int .i64 H.length] (.int .i64 (nxtL H.length (kindsF 1 S))) := fun {_ _} h w' hw' =>
      Tryz.further_w S H.length fa fc bv _ w' hlen hns (by omega) (SlOk.extR hfr hw'.ext hfB) (SlOk.blk (hw'.bx _ (nth_mem h)))
    by_cases h1 : just = false ∨ wh = false
    · rw [if_pos h1] at hXe
      have e : fstL (Tryz.looks3 c1 just wh tl.length b6 b11 b10 b1) = 3 := by cases just <;> cases wh <;> first | rfl | (simp at h1; done)
      rw [e] at fF
      refine At.go [true] [hC (.int .i64 3)] rfl (by and_intros <;> first | exact fF rfl rfl rfl rfl rfl rfl | (simp; done) | exact oK) ?_
      rw [hXe]
      refine At.rt [false, false, false, false, false, true] [false, false, false] [] Tryz.func34 ?_
      exact .inl ⟨by simp, rfl, ⟨_, rfl⟩, rfl⟩
    rw [if_neg h1] at hXe
    obtain ⟨rfl, rfl⟩ : just = true ∧ wh = true := by cases just <;> cases wh <;> simp at h1 ⊢
    by_cases h2 : c1 ≤ tl.length
    · rw [if_pos h2] at hXe
      have e : fstL (Tryz.looks3 c1 true true tl.length b6 b11 b10 b1) = 11 := by simp only [Tryz.looks3, fstL, if_true]; rw [if_neg (by rw [decide_eq_true_eq]; omega)]
      rw [e] at fF
      refine At.go [true] [hC (.int .i64 11)] rfl (by and_intros <;> first | exact fF rfl rfl rfl rfl rfl rfl | (simp; done) | exact oK) ?_
      rw [hXe]
      refine At.rt [false, false, false, false, false, true] [false, false, false] [] Tryz.func34 ?_
      exact .inl ⟨by simp, rfl, ⟨_, rfl⟩, rfl⟩
    rw [if_neg h2] at hXe
    have e : fstL (Tryz.looks3 c1 true true tl.length b6 b11 b10 b1) = 0 := by simp only [Tryz.looks3, fstL, if_true]; rw [if_pos (by rw [decide_eq_true_eq]; omega)]
    rw [e] at fF
    by_cases h3 : 0 ≤ nxtL H.length (kindsF 1 S)
    · rw [if_pos h3] at hXe
      refine At.go [false, true] [hC (.int .i64 0), hB 4, hC (.int .i64 (nxtL (↑H.length) (kindsF 1 S)))] rfl (by and_intros <;> first | exact fF rfl rfl rfl rfl rfl rfl | exact fU rfl | exact decide_eq_true h3 | (simp; done) | exact oK) ?_
      rw [hXe]
      refine At.rt [false, false, false, false, false, true] [false, false, false] [] Tryz.func34 ?_
      exact .inl ⟨by simp, rfl, ⟨_, rfl⟩, rfl⟩
    · rw [if_neg h3] at hXe
      refine At.go [false, false] [hC (.int .i64 0), hB 4, hC (.int .i64 (nxtL (↑H.length) (kindsF 1 S))), hB 2] rfl (by and_intros <;> first | exact fF rfl rfl rfl rfl rfl rfl | exact fU rfl | exact decide_eq_false h3 | (simp; done) | exact oK) ?_
      rw [hXe, ← hR]
      refine At.rt [false, false, false, false, false, true] [true, true, true] [] Tryz.func34 ?_
      exact .inr ⟨rfl, gh, hc, g, c, gt, tc, rfl, rfl, rfl⟩
end Go.Proofs

/-
  Walks of layer 22: Verify, Accepts, Rows.
-/
namespace Go.Proofs
open Go Go.Eng
set_option maxRecDepth 100000
set_option maxHeartbeats 4000000
attribute [local irreducible] Tri

/-- The answer, as three values. -/
def sealD (n : Nat) (x : FndB) : List UInt8 × Nat × Nat := if x.e ≠ 0 then ([], 0, 0) else ((chainB n x.H).1, x.H.length, x.R.length)
def sdC (x : List UInt8 × Nat × Nat) : List Value := [str x.1, .int .i64 x.2.1, .int .i64 x.2.2]
theorem verF_ok {S : FL} {per : Int} {n : Nat} (h : (verF S per n).e = 0) : (verF S per n).H = (headsF S n).1 ∧ (verF S per n).at_ = -1 ∧ fstE (segE S per n (headsF S n).1) (headsF S n).1.length 0 = none ∧ (verF S per n).R = rowsK S (headsF S n).1.length ∧ (verF S per n).T = (segF S (headsF S n).1.length).1 := by
  cases hf : fstE (segE S per n (headsF S n).1) (headsF S n).1.length 0 with
  | some k =>
    rw [verF_hit hf] at h
    exact absurd h (fstE_some hf).2.2
  | none =>
    have hX := verF_end hf
    rw [hX] at h ⊢
    split at h
    · simp at h
    · rename_i h1
      split at h
      · simp at h
      · rename_i h2
        split at h
        · simp at h
        · rename_i h3
          rw [if_neg h1, if_neg h2, if_neg h3]
          exact ⟨rfl, rfl, rfl, rfl, rfl⟩
theorem verF_bad {S : FL} {per : Int} {n : Nat} (h : (verF S per n).e ≠ 0) : (verF S per n).H = [] ∧ (verF S per n).R = [] ∧ (verF S per n).T = [] := by
  cases hf : fstE (segE S per n (headsF S n).1) (headsF S n).1.length 0 with
  | some k => rw [verF_hit hf]; exact ⟨rfl, rfl, rfl⟩
  | none =>
    have hX := verF_end hf
    rw [hX] at h ⊢
    split
    · exact ⟨rfl, rfl, rfl⟩
    · rename_i h1
      rw [if_neg h1] at h
      split
      · exact ⟨rfl, rfl, rfl⟩
      · rename_i h2
        rw [if_neg h2] at h
        split
        · exact ⟨rfl, rfl, rfl⟩
        · rename_i h3
          rw [if_neg h3] at h; exact absurd rfl h
theorem Tryz.Verify_w (S : FL) (n : Nat) (c1 c3 c4 : Int) (fa : Option Addr) (fc : Nat) (w : World) (hlen : S.length ≤ 60) (hSb : ∀ p, p ∈ S → p.2.length ≤ 6000) (hns : ∀ p, p ∈ S → p.1.length ≤ 9223372036854775807) (hmay : mayCf c1 n c3 c4 = true) (hfr : SlOk w fa (fl S)) (hT : Tryz.Tabs w) :
    Fun Tryz.prog 12 [.slice fa S.length fc, .agg ⟨[.int .i64 c1, .int .i64 n, .int .i64 c3, .int .i64 c4]⟩] w (.tuple #[.agg ⟨sdC (sealD n (verF S c1 n))⟩, .int .i64 (verF S c1 n).at_, .int .i64 (verF S c1 n).e]) := by
  have hin := mayCf_in hmay
  have hn : 1 ≤ n ∧ n ≤ 32 := by omega
  have fM : ∀ {S : Base} {bx : Bx} {hp : List Seg}, CallOb Tryz.prog S bx hp 33 [.agg ⟨[.int .i64 c1, .int .i64 n, .int .i64 c3, .int .i64 c4]⟩] (.bool true) := fun {_ _ _} w' _ => by
    have := Tryz.logMay_w c1 n c3 c4 w'; rwa [hmay] at this
  have hflt := hfr.ltR
  have htlt := Tryz.tabs_lt hT
  refine Tri.enter (bx := []) (hp := []) Tryz.func12 rfl (by kernel_rfl) rfl (Own.nil w) ?_
  refine At.go [] [] rfl (by and_intros <;> first | exact fM | exact oK) ?_
  refine At.bo fun b3 hb3 => ?_
  refine At.al fun b4 hb4 => ?_
  refine At.go [false] [hB 1, hC (.bool true), hB 1] rfl (by and_intros <;> first | exact fM | exact oK) ?_
  refine At.bo fun b20 hb20 => ?_
  refine At.go [] [] rfl (by and_intros <;> first | exact fM | exact oK) ?_
  have h20 : w.heap.size ≤ b20 := hb20
  refine At.step [] rfl rfl rfl rfl rfl trivial (OpOk.callO [true, false, false] [] rfl rfl (fun w' hw' ho => Tryz.run_w S n c1 c3 c4 fa fc b20 w' hlen hSb hns hn (hfr.ext hw'.ext (by simp [kys])) (Tryz.tabs_ext0 hT hw'.ext) ho (fun q hq => by have := hflt q hq; omega) (fun q hq => by have := htlt q hq; omega)) ?_)
  have hok := verF_ok (S := S) (per := c1) (n := n)
  have hmy := fun x (h : x ∈ (headsF S n).1) => mayH_in (headsF_may h)
  have hHf := headsF_few (n := (n : Int)) hSb
  rintro v bx hp h
  rcases h with ⟨he, rfl, ⟨cs, rfl⟩, rfl⟩ | ⟨he, gh, hc, g, c, gt, tc, rfl, rfl, rfl⟩
  · rw [show sealD n (verF S c1 n) = ([], 0, 0) from if_pos he]
    generalize verF S c1 n = X at he
    refine At.go [true] [hB 1] rfl (by and_intros <;> first | (simp [he]; done) | exact oK) ?_
    refine At.rt [] [] [hB 1] Tryz.func12 ?_
    exact ⟨rfl, rfl, rfl⟩
  · rw [show sealD n (verF S c1 n) = ((chainB n (verF S c1 n).H).1, (verF S c1 n).H.length, (verF S c1 n).R.length) from if_neg (by simpa using he)]
    have hH := (hok he).1
    rw [← hH] at hmy hHf
    rw [he]
    generalize verF S c1 n = X at he hmy hHf
    clear hok hH
    have fC : ∀ {bx : Bx} {hp : List Seg}, nth hp 2 = some (Seg.row gh 55 6 X.H.length hc (X.H.flatMap hdC)) → CallOb Tryz.prog ⟨w, kys [] []⟩ bx hp 35 [.slice (svA gh) X.H.length hc, .int .i64 n] (.tuple #[str (chainB n X.H).1, .int .i64 (if (chainB n X.H).2 = true then 0 else 10)]) := fun {_ _} h w' hw' =>
      Tryz.hChain_w X.H n (svA gh) hc w' (by omega) (fun x hx => by have := hmy x hx; omega) hn (SlOk.row (hw'.hp _ (nth_mem h))) (Tryz.tabs_ext0 hT hw'.ext).1
    refine At.go [false] [] rfl (by and_intros <;> first | exact fC rfl | (simp; done) | exact oK) ?_
    refine At.qt [] [hB 0, hB 2, hC (.tuple { toList := [.string { data := (chainB n X.H).fst.toArray }, .int .i64 (if (chainB n X.H).snd = true then 0 else 10)] })] rfl rfl (by and_intros <;> first | exact fC rfl | (simp; done) | exact oK) ?_
    refine At.go [] [] rfl (by and_intros <;> first | exact fC rfl | (simp; done) | exact oK) ?_
    refine At.dr 16 ?_
    refine AtD.pu [0, 1, 6, 12] 12 rfl (by and_intros <;> first | exact fC rfl | (simp; done) | exact oK) ?_
    refine AtD.pu [2, 7] 10 rfl (by and_intros <;> first | exact fC rfl | (simp; done) | exact oK) ?_
    refine AtD.pu [3, 8] 8 rfl (by and_intros <;> first | exact fC rfl | (simp; done) | exact oK) ?_
    refine AtD.lx [4, 5, 9, 10, 11] 3 [] [hB 0, hB 0] rfl (by and_intros <;> first | exact fC rfl | (simp; done) | exact oK) ?_
    refine AtD.f1 13 [] [] [hB 1] rfl rfl rfl (by first | exact fC rfl | (simp; done) | exact oK) (by first | exact fC rfl | (simp; done) | exact oK) ?_
    refine AtD.pu [14] 1 rfl (by and_intros <;> first | exact fC rfl | (simp; done) | exact oK) ?_
    refine AtD.pu [15] 0 rfl (by and_intros <;> first | exact fC rfl | (simp; done) | exact oK) ?_
    refine AtD.dn ?_
    refine At.go [] [] rfl (by and_intros <;> first | exact fC rfl | (simp; done) | exact oK) ?_
    refine At.rt [] [] [hB 1] Tryz.func12 ?_
    exact ⟨rfl, rfl, rfl⟩
theorem Tryz.VerifyNo_w (S : FL) (n c1 c3 c4 : Int) (fa : Option Addr) (fc : Nat) (w : World) (hmay : mayCf c1 n c3 c4 = false) :
    Fun Tryz.prog 12 [.slice fa S.length fc, .agg ⟨[.int .i64 c1, .int .i64 n, .int .i64 c3, .int .i64 c4]⟩] w (.tuple #[.agg ⟨sdC ([], 0, 0)⟩, .int .i64 0, .int .i64 1]) := by
  have fM : ∀ {S : Base} {bx : Bx} {hp : List Seg}, CallOb Tryz.prog S bx hp 33 [.agg ⟨[.int .i64 c1, .int .i64 n, .int .i64 c3, .int .i64 c4]⟩] (.bool false) := fun {_ _ _} w' _ => by
    have := Tryz.logMay_w c1 n c3 c4 w'; rwa [hmay] at this
  refine Tri.enter (bx := []) (hp := []) Tryz.func12 rfl (by kernel_rfl) rfl (Own.nil w) ?_
  refine At.go [] [] rfl (by and_intros <;> first | exact fM | exact oK) ?_
  refine At.bo fun b3 hb3 => ?_
  refine At.al fun b4 hb4 => ?_
  refine At.go [true] [hB 1, hC (.bool false), hB 0] rfl (by and_intros <;> first | exact fM | exact oK) ?_
  refine At.rt [] [] [hB 0] Tryz.func12 ?_
  exact ⟨rfl, rfl, rfl⟩
/-- Accepted? -/
theorem Tryz.Accepts_w (S : FL) (n c1 c3 c4 : Int) (hs : List UInt8) (sg : Int) (s : List UInt8 × Nat × Nat) (k e : Int) (fa : Option Addr) (fc : Nat) (w : World)
    (hV : ∀ w', Ext [] w w' → Fun Tryz.prog 12 [.slice fa S.length fc, .agg ⟨[.int .i64 c1, .int .i64 n, .int .i64 c3, .int .i64 c4]⟩] w' (.tuple #[.agg ⟨sdC s⟩, .int .i64 k, .int .i64 e])) :
    Fun Tryz.prog 13 [.slice fa S.length fc, .agg ⟨[.int .i64 c1, .int .i64 n, .int .i64 c3, .int .i64 c4]⟩, str hs, .int .i64 sg] w (.bool (decide (e = 0 ∧ s.1 = hs ∧ (s.2.1 : Int) = sg))) := by
  have fV : ∀ {bx : Bx} {hp : List Seg}, CallOb Tryz.prog ⟨w, kys [] []⟩ bx hp 12 [.slice fa S.length fc, .agg ⟨[.int .i64 c1, .int .i64 n, .int .i64 c3, .int .i64 c4]⟩] (.tuple #[.agg ⟨[str s.1, .int .i64 s.2.1, .int .i64 s.2.2]⟩, .int .i64 k, .int .i64 e]) := fun {_ _} w' hw' => hV w' hw'.ext
  obtain ⟨s1, s2, s3⟩ := s
  simp only at fV ⊢
  refine Tri.enter (bx := []) (hp := []) Tryz.func13 rfl (by kernel_rfl) rfl (Own.nil w) ?_
  by_cases h1 : e = 0
  · by_cases h2 : s1 = hs
    · refine At.go [] [] rfl (by and_intros <;> first | exact fV | exact decide_eq_true h1 | (simp; done) | exact oK) ?_
      refine At.bo fun b5 hb5 => ?_
      refine At.go [] [hB 0, hC (.tuple { toList := [.agg { toList := [.string { data := s1.toArray }, .int .i64 ↑s2, .int .i64 ↑s3] }, .int .i64 k, .int .i64 e] })] rfl (by and_intros <;> first | exact fV | exact decide_eq_true h1 | (simp; done) | exact oK) ?_
      refine At.al fun b9 hb9 => ?_
      refine At.go [true, true] [hB 0, hB 0, hB 0] rfl (by and_intros <;> first | exact fV | exact decide_eq_true h1 | (simp [h2]; done) | exact oK) ?_
      refine At.rt [] [] [] Tryz.func13 ?_
      exact ⟨by simp [tupV, h1, h2], rfl, rfl⟩
    · refine At.go [] [] rfl (by and_intros <;> first | exact fV | exact decide_eq_true h1 | (simp; done) | exact oK) ?_
      refine At.bo fun b5 hb5 => ?_
      refine At.go [] [hB 0, hC (.tuple { toList := [.agg { toList := [.string { data := s1.toArray }, .int .i64 ↑s2, .int .i64 ↑s3] }, .int .i64 k, .int .i64 e] })] rfl (by and_intros <;> first | exact fV | exact decide_eq_true h1 | (simp; done) | exact oK) ?_
      refine At.al fun b9 hb9 => ?_
      refine At.go [true, false] [hB 0, hB 0] rfl (by and_intros <;> first | exact fV | exact decide_eq_true h1 | (simp [h2]; done) | exact oK) ?_
      refine At.rt [] [] [] Tryz.func13 ?_
      exact ⟨by simp [tupV, h1, h2], rfl, rfl⟩
  · refine At.go [] [] rfl (by and_intros <;> first | exact fV | exact decide_eq_false h1 | (simp; done) | exact oK) ?_
    refine At.bo fun b5 hb5 => ?_
    refine At.go [] [hB 0, hC (.tuple { toList := [.agg { toList := [.string { data := s1.toArray }, .int .i64 ↑s2, .int .i64 ↑s3] }, .int .i64 k, .int .i64 e] })] rfl (by and_intros <;> first | exact fV | exact decide_eq_false h1 | (simp; done) | exact oK) ?_
    refine At.al fun b9 hb9 => ?_
    refine At.go [false, false] [hB 0] rfl (by and_intros <;> first | exact fV | exact decide_eq_false h1 | (simp; done) | exact oK) ?_
    refine At.rt [] [] [] Tryz.func13 ?_
    exact ⟨by simp [tupV, h1], rfl, rfl⟩
end Go.Proofs

/-
  Walks of layer 22's document: what a verifier finds.
-/
namespace Go.Proofs
open Go Go.Eng
set_option maxRecDepth 100000
set_option maxHeartbeats 4000000
attribute [local irreducible] Tri

/-- What is found, as a value. -/
def fndV (x : FndB) (gh : Option Nat) (hc : Nat) (g : Option Nat) (c : Nat) (gt : Option Nat) (tc : Nat) : List Value := [sv gh x.H.length hc, sv g x.R.length c, sv gt x.T.length tc, .int .i64 x.at_, .int .i64 x.e]
def Tryz.fndR (x : FndB) (gh : Option Nat) (hc : Nat) (g : Option Nat) (c : Nat) (gt : Option Nat) (tc : Nat) : List Seg := [Seg.row gt 9 1 x.T.length tc (x.T.map str), Seg.row g 9 1 x.R.length c (x.R.map str), Seg.row gh 55 6 x.H.length hc (x.H.flatMap hdC)]
theorem Tryz.r22Verify_w (S : FL) (n : Nat) (c1 c3 c4 : Int) (fa : Option Addr) (fc : Nat) (w : World) (hlen : S.length ≤ 60) (hSb : ∀ p, p ∈ S → p.2.length ≤ 6000) (hns : ∀ p, p ∈ S → p.1.length ≤ 9223372036854775807) (hmay : mayCf c1 n c3 c4 = true) (hfr : SlOk w fa (fl S)) :
    Tri Tryz.prog 16 [.agg ⟨keyC⟩, .slice fa S.length fc, .agg ⟨[.int .i64 c1, .int .i64 n, .int .i64 c3, .int .i64 c4]⟩] w [] (fun v bx hp => ∃ (gh : Option Nat) (hc : Nat) (g : Option Nat) (c : Nat) (gt : Option Nat) (tc : Nat), v = .agg ⟨fndV (verF S c1 n) gh hc g c gt tc⟩ ∧ bx = [] ∧ hp = Tryz.fndR (verF S c1 n) gh hc g c gt tc) := by
  have hin := mayCf_in hmay
  have hn : 1 ≤ n ∧ n ≤ 32 := by omega
  have hHf := headsF_few (n := (n : Int)) hSb
  have hHm : ∀ x, x ∈ (headsF S n).1 → x.p.length ≤ 9223372036854775807 ∧ x.r.length ≤ 9223372036854775807 := fun x hx => by have := mayH_in (headsF_may hx); omega
  obtain ⟨H, hH⟩ : ∃ H, (headsF S n).1 = H := ⟨_, rfl⟩
  obtain ⟨just, hj⟩ : ∃ j, (headsF S n).2 = j := ⟨_, rfl⟩
  obtain ⟨X, hX⟩ : ∃ X, verF S c1 n = X := ⟨_, rfl⟩
  have hX1 := fun k => verF_hit (S := S) (per := c1) (n := n) (k := k)
  have hX2 := verF_end (S := S) (per := c1) (n := n)
  have fHd := fun (w' : World) (hr : SlOk w' fa (fl S)) => Tryz.rfHeaders_w S c1 n c3 c4 fa fc w' hlen hSb hr
  rw [hH, hj] at fHd
  rw [hH] at hHf hHm
  simp only [hH, hX] at hX1
  rw [hH, hX, hj] at hX2
  rw [hX]
  refine Tri.enter (bx := []) (hp := []) Tryz.func16 rfl (by kernel_rfl) rfl (Own.nil w) ?_
  refine At.go [] [] rfl oK ?_
  refine At.bo fun b3 hb3 => ?_
  refine At.bo fun b5 hb5 => ?_
  refine At.al fun b6 hb6 => ?_
  refine At.go [] [hB 1] rfl oK ?_
  refine At.step [] rfl rfl rfl rfl rfl trivial (OpOk.call rfl (fun w' hw' => fHd w' (hfr.ext hw'.ext (by simp [kys]))) ?_)
  rintro _ _ _ ⟨gh, hc, rfl, rfl, rfl⟩
  refine At.rowCap 0 rfl fun hcap => ?_
  refine At.go [] [] rfl (by and_intros <;> first | (simp; done) | exact oK) ?_
  refine At.al fun b9 hb9 => ?_
  refine At.go [] [hB 0] rfl (by and_intros <;> first | (simp [Value.oneCell', sv]; done) | exact oK) ?_
  refine At.nilRow 9 1 ?_
  refine At.loop (env0 := [(1, .slice fa (List.length S) fc), (3, .pointer (some ⟨b3, 0, none⟩)), (5, .pointer (some ⟨b5, 0, none⟩)), (6, .pointer (some ⟨b6, 0, none⟩)), (7, .slice (svA gh) H.length hc), (8, .bool just), (9, .pointer (some ⟨b9, 0, none⟩)), (10, .int .i64 0)]) (fun m_ env bx hp => ∃ (k : Nat) (R : List (List UInt8)) (g : Option Nat) (c : Nat), m_ = H.length - k ∧ (k ≤ H.length) ∧ (R = rowsK S k) ∧ (fstE (segE S c1 n H) H.length 0 = fstE (segE S c1 n H) (H.length - k) k) ∧ env = [(1, .slice fa (List.length S) fc), (3, .pointer (some ⟨b3, 0, none⟩)), (5, .pointer (some ⟨b5, 0, none⟩)), (6, .pointer (some ⟨b6, 0, none⟩)), (7, .slice (svA gh) H.length hc), (8, .bool just), (9, .pointer (some ⟨b9, 0, none⟩)), (10, .int .i64 k)] ∧ bx = [(b9, 43, [sv gh H.length hc, sv g R.length c, .slice none 0 0, .int .i64 (-1), .int .i64 0]), (b6, 43, [.slice none 0 0, .slice none 0 0, .slice none 0 0, .int .i64 0, .int .i64 0]), (b5, 24, [.int .i64 c1, .int .i64 ↑n, .int .i64 c3, .int .i64 c4]), (b3, 38, keyC)] ∧ hp = [Seg.row g 9 1 R.length c (R.map str), Seg.row gh 55 6 H.length hc (List.flatMap hdC H)]) rfl
    ⟨0, [], none, 0, rfl, (by omega), (rfl), (rfl), rfl, rfl, rfl⟩ sB ?_
  rintro m_ env bx hp ⟨k, R, g, c, rfl, hk, eR, hf, rfl, rfl, rfl⟩ ih1
  have hRl : R.length ≤ 36000000 := by have := rowsK_len hSb k; rw [← eR] at this; omega
  by_cases hlt : k < H.length
  · have hxk := hdAt_get hlt
    obtain ⟨x, hxd⟩ : ∃ x, hdAt H k = x := ⟨_, rfl⟩
    rw [hxd] at hxk
    have hfew := seg_few (S := S) (n := n) hlt
    rw [hxd] at hfew
    refine At.rowSome 1 rfl (by omega) fun qh hq => ?_
    subst hq
    refine At.go [true] [] rfl (by and_intros <;> first | exact decide_eq_true (by omega) | exact oK) ?_
    refine At.step [] rfl rfl rfl rfl rfl trivial (OpOk.call rfl (fun w' hw' => Tryz.rfSegment_w S k fa fc w' hlen hSb (hfr.ext hw'.ext (by simp [kys]))) ?_)
    rintro _ _ _ ⟨gs, cs, rfl, rfl, rfl⟩
    refine At.rowCap 0 rfl fun hrc => ?_
    have hsf := segF_few (k := (k : Int)) hSb
    have hsm := fun y (h : y ∈ (segF S k).1) => segF_mem (k := (k : Int)) hSb h
    have hsE : segE S c1 n H k = if (chainB n (H.take (k + 1))).2 = false then 10 else if x.c ≠ c1 then 11 else if (segF S k).2 = false then 3 else if ((segF S k).1.length : Int) ≠ x.c then 11 else if (sumL (segF S k).1 : Int) ≠ x.b then 9 else if rootB n (segF S k).1 ≠ x.r then 9 else 0 := by
      unfold segE; rw [hxd]
    have hRk := rowsK_succ S k
    obtain ⟨r, hr⟩ : ∃ r, (segF S k).1 = r := ⟨_, rfl⟩
    obtain ⟨wh, hwh⟩ : ∃ wh, (segF S k).2 = wh := ⟨_, rfl⟩
    rw [hr, hwh] at hsE
    rw [hr] at hsf hsm hRk hrc
    rw [hr, hwh]
    have hsb : ∀ i, sumL (r.take i) ≤ 36000000 := fun i => by
      have h := sumL_le (r := r.take i) (m := 6000) fun y h => hsm y (List.mem_of_mem_take h)
      rw [List.length_take] at h
      have h2 : min i r.length * 6000 ≤ 6000 * 6000 := Nat.mul_le_mul_right _ (by omega)
      omega
    refine At.go [] [] rfl (by and_intros <;> first | exact trivial | exact oK) ?_
    refine At.loop (env0 := [(1, .slice fa (List.length S) fc), (3, .pointer (some ⟨b3, 0, none⟩)), (5, .pointer (some ⟨b5, 0, none⟩)), (6, .pointer (some ⟨b6, 0, none⟩)), (7, .slice (some ⟨qh, 0, none⟩) H.length hc), (8, .bool just), (9, .pointer (some ⟨b9, 0, none⟩)), (10, .int .i64 ↑k), (11, .slice (svA gs) r.length cs), (12, .bool wh), (13, .int .i64 0), (14, .int .i64 0)]) (fun m_ env bx hp => ∃ (i : Nat), m_ = r.length - i ∧ (i ≤ r.length) ∧ env = [(1, .slice fa (List.length S) fc), (3, .pointer (some ⟨b3, 0, none⟩)), (5, .pointer (some ⟨b5, 0, none⟩)), (6, .pointer (some ⟨b6, 0, none⟩)), (7, .slice (some ⟨qh, 0, none⟩) H.length hc), (8, .bool just), (9, .pointer (some ⟨b9, 0, none⟩)), (10, .int .i64 ↑k), (11, .slice (svA gs) r.length cs), (12, .bool wh), (13, .int .i64 (sumL (r.take i) : Nat)), (14, .int .i64 i)] ∧ bx = [(b9, 43, [.slice (some ⟨qh, 0, none⟩) H.length hc, .slice (svA g) R.length c, .slice none 0 0, .int .i64 (-1), .int .i64 0]), (b6, 43, [.slice none 0 0, .slice none 0 0, .slice none 0 0, .int .i64 0, .int .i64 0]), (b5, 24, [.int .i64 c1, .int .i64 ↑n, .int .i64 c3, .int .i64 c4]), (b3, 38, keyC)] ∧ hp = [Seg.row gs 9 1 r.length cs (List.map str r), Seg.row g 9 1 R.length c (List.map str R), Seg.row (some qh) 55 6 H.length hc (List.flatMap hdC H)]) rfl
      ⟨0, rfl, (by omega), rfl, rfl, rfl⟩ sB ?_
    rintro m_ env bx hp ⟨i, rfl, hi, rfl, rfl, rfl⟩ ih2
    by_cases hir : i < r.length
    · obtain ⟨y, hy⟩ : ∃ y, r[i]? = some y := ⟨_, List.getElem?_eq_getElem hir⟩
      refine At.rowSome 0 rfl (by omega) fun qs hq => ?_
      subst hq
      have rS : ∀ {bx : Bx} {hp : List Seg}, nth hp 0 = some (Seg.row (some qs) 9 1 r.length cs (r.map str)) → RdW ⟨w, kys [] []⟩ bx hp qs (0 + (i : Int).toNat * 1) [str y] := fun {_ _} h => RdW.row1 h (i := i) (by rw [List.getElem?_map, hy]; rfl) (by omega)
      have hyl := hsm y (List.mem_of_getElem? hy)
      have hs : sumL (r.take (i + 1)) = sumL (r.take i) + y.length := by rw [List.take_add_one, hy]; exact sumL_snoc _ _
      have hbi := hsb i
      have hbl := len_str y
      refine At.go [true] [hR [.string { data := y.toArray }]] rfl (by and_intros <;> first | exact rS rfl | exact decide_eq_true (by omega) | (rw [hbl]; omega) | exact oK) ?_
      rw [hbl, show ((sumL (r.take i) : Nat) : Int) + (y.length : Int) = ((sumL (r.take (i + 1)) : Nat) : Int) by omega]
      exact At.weak (ih2 _ _ _ _ (by omega) ⟨i + 1, rfl, by omega, rfl, rfl, rfl⟩) sB
    · obtain rfl : i = r.length := by omega
      rw [List.take_length]
      have hd0 : decide ((r.length : Int) < (r.length : Int)) = false := decide_eq_false (by omega)
      have hl : (H.take (k + 1)).length = k + 1 := by rw [List.length_take]; omega
      have fC : ∀ {bx : Bx} {hp : List Seg}, nth hp 2 = some (Seg.row (some qh) 55 6 H.length hc (H.flatMap hdC)) → CallOb Tryz.prog ⟨w, kys [] []⟩ bx hp 39 [.agg ⟨keyC⟩, .slice (some ⟨qh, 0, none⟩) ((k : Int) + 1).toNat hc, .int .i64 n] (.tuple #[str (chainB n (H.take (k + 1))).1, .bool (chainB n (H.take (k + 1))).2]) := fun {_ _} h w' hw' => by
        have := Tryz.rhChain_w (H.take (k + 1)) n (some ⟨qh, 0, none⟩) hc w' (by omega) (fun x h => hHm x (List.mem_of_mem_take h)) hn.2 (by
          have h := SlOk.takeV ((k + 1) * 6) (SlOk.row (hw'.hp _ (nth_mem h)))
          rwa [show (H.flatMap hdC).take ((k + 1) * 6) = (H.take (k + 1)).flatMap hdC from flat_take (f := hdC) (sz := 6) (fun _ _ => rfl) (k + 1)] at h)
        rwa [hl, show k + 1 = ((k : Int) + 1).toNat by omega] at this
      have rX : ∀ {bx : Bx} {hp : List Seg} (m : Nat) (v : Value), (hdC x)[m]? = some v → nth hp 2 = some (Seg.row (some qh) 55 6 H.length hc (H.flatMap hdC)) → RdW ⟨w, kys [] []⟩ bx hp qh (0 + (k : Int).toNat * 6 + m) [v] := fun {_ _} m v hv h => RdW.row h fun j u hu => by
        have hj := (List.getElem?_eq_some_iff.1 hu).1
        obtain rfl : j = 0 := by simpa using hj
        rw [show 0 + (k : Int).toNat * 6 + m + 0 = k * 6 + m by omega]
        rw [List.getElem?_cons_zero, Option.some.injEq] at hu
        subst hu
        exact flat_get (f := hdC) (sz := 6) (fun _ _ => rfl) hxk m v hv
      have fR : ∀ {bx : Bx} {hp : List Seg}, nth hp 0 = some (Seg.row gs 9 1 r.length cs (r.map str)) → CallOb Tryz.prog ⟨w, kys [] []⟩ bx hp 40 [.agg ⟨keyC⟩, .slice (svA gs) r.length cs, .int .i64 n] (str (rootB n r)) := fun {_ _} h w' hw' =>
        Tryz.rRoot_w n hn.2 r.length r (svA gs) cs w' (Nat.le_refl _) (by omega) hrc (fun y h => by have := hsm y h; omega) (SlOk.row (hw'.hp _ (nth_mem h)))
      obtain ⟨bc, hbc⟩ : ∃ b, (chainB n (H.take (k + 1))).2 = b := ⟨_, rfl⟩
      rw [hbc] at fC hsE
      cases bc with
      | false =>
        rw [if_pos rfl] at hsE
        have he : segE S c1 n H k ≠ 0 := by rw [hsE]; decide
        refine At.go [false] [] rfl (by and_intros <;> first | exact fC rfl | exact Tryz.key_ld (i := 3) rfl | exact hd0 | omega | exact rX 2 (.int .i64 x.c) rfl rfl | exact rX 3 (.int .i64 x.b) rfl rfl | exact rX 5 (str x.r) rfl rfl | exact fR rfl | (simp; done) | exact oK) ?_
        refine At.qt [] [hK (.agg { toList := keyC }), hB 2, hC (.tuple { toList := [.string { data := (chainB n (List.take (k + 1) H)).fst.toArray }, .bool false] })] rfl rfl (by and_intros <;> first | exact fC rfl | exact Tryz.key_ld (i := 3) rfl | exact hd0 | omega | exact rX 2 (.int .i64 x.c) rfl rfl | exact rX 3 (.int .i64 x.b) rfl rfl | exact rX 5 (str x.r) rfl rfl | exact fR rfl | (simp; done) | exact oK) ?_
        refine At.go [true] [hB 1] rfl (by and_intros <;> first | exact fC rfl | exact Tryz.key_ld (i := 3) rfl | exact hd0 | omega | exact rX 2 (.int .i64 x.c) rfl rfl | exact rX 3 (.int .i64 x.b) rfl rfl | exact rX 5 (str x.r) rfl rfl | exact fR rfl | (simp; done) | exact oK) ?_
        rw [hX1 k (by rw [hf]; exact fstE_hit hlt he), hsE]
        refine At.nilRow 55 6 ?_
        refine At.nilRow 9 1 ?_
        refine At.nilRow 9 1 ?_
        refine At.rt [false, false, false, false] [true, true, true, false, false, false] [hB 1] Tryz.func16 ?_
        exact ⟨none, 0, none, 0, none, 0, rfl, rfl, rfl⟩
      | true =>
        rw [if_neg (by simp)] at hsE
        by_cases h2 : x.c = c1
        · rw [if_neg (by simpa using h2)] at hsE
          cases wh with
          | false =>
            rw [if_pos rfl] at hsE
            have he : segE S c1 n H k ≠ 0 := by rw [hsE]; decide
            refine At.go [false] [] rfl (by and_intros <;> first | exact fC rfl | exact Tryz.key_ld (i := 3) rfl | exact hd0 | omega | exact rX 2 (.int .i64 x.c) rfl rfl | exact rX 3 (.int .i64 x.b) rfl rfl | exact rX 5 (str x.r) rfl rfl | exact fR rfl | (simp; done) | exact oK) ?_
            refine At.qt [] [hK (.agg { toList := keyC }), hB 2, hC (.tuple { toList := [.string { data := (chainB n (List.take (k + 1) H)).fst.toArray }, .bool true] })] rfl rfl (by and_intros <;> first | exact fC rfl | exact Tryz.key_ld (i := 3) rfl | exact hd0 | omega | exact rX 2 (.int .i64 x.c) rfl rfl | exact rX 3 (.int .i64 x.b) rfl rfl | exact rX 5 (str x.r) rfl rfl | exact fR rfl | (simp; done) | exact oK) ?_
            refine At.go [false] [] rfl (by and_intros <;> first | exact fC rfl | exact Tryz.key_ld (i := 3) rfl | exact hd0 | omega | exact rX 2 (.int .i64 x.c) rfl rfl | exact rX 3 (.int .i64 x.b) rfl rfl | exact rX 5 (str x.r) rfl rfl | exact fR rfl | (simp; done) | exact oK) ?_
            refine At.qt [] [hR [.int .i64 x.c], hB 2] rfl rfl (by and_intros <;> first | exact fC rfl | exact Tryz.key_ld (i := 3) rfl | exact hd0 | omega | exact rX 2 (.int .i64 x.c) rfl rfl | exact rX 3 (.int .i64 x.b) rfl rfl | exact rX 5 (str x.r) rfl rfl | exact fR rfl | (simp; done) | exact oK) ?_
            refine At.go [false, true] [hB 1] rfl (by and_intros <;> first | exact fC rfl | exact Tryz.key_ld (i := 3) rfl | exact hd0 | omega | exact rX 2 (.int .i64 x.c) rfl rfl | exact rX 3 (.int .i64 x.b) rfl rfl | exact rX 5 (str x.r) rfl rfl | exact fR rfl | (simp [h2]; done) | exact oK) ?_
            rw [hX1 k (by rw [hf]; exact fstE_hit hlt he), hsE]
            refine At.nilRow 55 6 ?_
            refine At.nilRow 9 1 ?_
            refine At.nilRow 9 1 ?_
            refine At.rt [false, false, false, false] [true, true, true, false, false, false] [hB 1] Tryz.func16 ?_
            exact ⟨none, 0, none, 0, none, 0, rfl, rfl, rfl⟩
          | true =>
            rw [if_neg (by simp)] at hsE
            by_cases h4 : (r.length : Int) = x.c
            · rw [if_neg (by simpa using h4)] at hsE
              by_cases h5 : (sumL r : Int) = x.b
              · rw [if_neg (by simpa using h5)] at hsE
                by_cases h6 : rootB n r = x.r
                · rw [if_neg (by simpa using h6)] at hsE
                  refine At.go [false] [] rfl (by and_intros <;> first | exact fC rfl | exact Tryz.key_ld (i := 3) rfl | exact hd0 | omega | exact rX 2 (.int .i64 x.c) rfl rfl | exact rX 3 (.int .i64 x.b) rfl rfl | exact rX 5 (str x.r) rfl rfl | exact fR rfl | (simp; done) | exact oK) ?_
                  refine At.qt [] [hK (.agg { toList := keyC }), hB 2, hC (.tuple { toList := [.string { data := (chainB n (List.take (k + 1) H)).fst.toArray }, .bool true] })] rfl rfl (by and_intros <;> first | exact fC rfl | exact Tryz.key_ld (i := 3) rfl | exact hd0 | omega | exact rX 2 (.int .i64 x.c) rfl rfl | exact rX 3 (.int .i64 x.b) rfl rfl | exact rX 5 (str x.r) rfl rfl | exact fR rfl | (simp; done) | exact oK) ?_
                  refine At.go [false] [] rfl (by and_intros <;> first | exact fC rfl | exact Tryz.key_ld (i := 3) rfl | exact hd0 | omega | exact rX 2 (.int .i64 x.c) rfl rfl | exact rX 3 (.int .i64 x.b) rfl rfl | exact rX 5 (str x.r) rfl rfl | exact fR rfl | (simp; done) | exact oK) ?_
                  refine At.qt [] [hR [.int .i64 x.c], hB 2] rfl rfl (by and_intros <;> first | exact fC rfl | exact Tryz.key_ld (i := 3) rfl | exact hd0 | omega | exact rX 2 (.int .i64 x.c) rfl rfl | exact rX 3 (.int .i64 x.b) rfl rfl | exact rX 5 (str x.r) rfl rfl | exact fR rfl | (simp; done) | exact oK) ?_
                  refine At.go [false, false, false, false] [hR [.int .i64 x.c], hR [.int .i64 x.b]] rfl (by and_intros <;> first | exact fC rfl | exact Tryz.key_ld (i := 3) rfl | exact hd0 | omega | exact rX 2 (.int .i64 x.c) rfl rfl | exact rX 3 (.int .i64 x.b) rfl rfl | exact rX 5 (str x.r) rfl rfl | exact fR rfl | (simp [h2, h4, h5]; done) | exact oK) ?_
                  refine At.qt [] [hK (.agg { toList := keyC }), hB 2, hC (.string { data := (rootB n r).toArray }), hR [.string { data := x.r.toArray }]] rfl rfl (by and_intros <;> first | exact fC rfl | exact Tryz.key_ld (i := 3) rfl | exact hd0 | omega | exact rX 2 (.int .i64 x.c) rfl rfl | exact rX 3 (.int .i64 x.b) rfl rfl | exact rX 5 (str x.r) rfl rfl | exact fR rfl | (simp; done) | exact oK) ?_
                  refine At.go [false] [hB 0] rfl (by and_intros <;> first | exact fC rfl | exact Tryz.key_ld (i := 3) rfl | exact hd0 | omega | exact rX 2 (.int .i64 x.c) rfl rfl | exact rX 3 (.int .i64 x.b) rfl rfl | exact rX 5 (str x.r) rfl rfl | exact fR rfl | (simp [h6]; done) | exact oK) ?_
                  refine At.step [] rfl rfl rfl rfl rfl trivial (OpOk.appendS (m := r.length) 1 1 16 (r.map str) rfl rfl rfl rfl rfl rfl rfl rfl (fun w' hw' => SlOk.row (hw'.hp _ (nth_mem (i := 0) rfl))) (by simp) (fun v hv => by obtain ⟨y, -, rfl⟩ := List.mem_map.1 hv; rfl) (by omega) (by omega) fun a2 c2 => ?_)
                  rw [show R.length + r.length = (R ++ r).length by simp, show R.map str ++ r.map str = (R ++ r).map str by simp]
                  refine At.go [] [hB 0] rfl (by and_intros <;> first | (simp [Value.oneCell', sv]; done) | exact oK) ?_
                  refine At.keep [true, true, true, true] [false, true, true] rfl ?_
                  exact At.weak (ih1 _ _ _ _ (by omega) ⟨k + 1, R ++ r, a2, c2, rfl, by omega, by rw [eR, hRk], by rw [hf, fstE_step hlt hsE], rfl, rfl, rfl⟩) sB
                · rw [if_pos h6] at hsE
                  have he : segE S c1 n H k ≠ 0 := by rw [hsE]; decide
                  refine At.go [false] [] rfl (by and_intros <;> first | exact fC rfl | exact Tryz.key_ld (i := 3) rfl | exact hd0 | omega | exact rX 2 (.int .i64 x.c) rfl rfl | exact rX 3 (.int .i64 x.b) rfl rfl | exact rX 5 (str x.r) rfl rfl | exact fR rfl | (simp; done) | exact oK) ?_
                  refine At.qt [] [hK (.agg { toList := keyC }), hB 2, hC (.tuple { toList := [.string { data := (chainB n (List.take (k + 1) H)).fst.toArray }, .bool true] })] rfl rfl (by and_intros <;> first | exact fC rfl | exact Tryz.key_ld (i := 3) rfl | exact hd0 | omega | exact rX 2 (.int .i64 x.c) rfl rfl | exact rX 3 (.int .i64 x.b) rfl rfl | exact rX 5 (str x.r) rfl rfl | exact fR rfl | (simp; done) | exact oK) ?_
                  refine At.go [false] [] rfl (by and_intros <;> first | exact fC rfl | exact Tryz.key_ld (i := 3) rfl | exact hd0 | omega | exact rX 2 (.int .i64 x.c) rfl rfl | exact rX 3 (.int .i64 x.b) rfl rfl | exact rX 5 (str x.r) rfl rfl | exact fR rfl | (simp; done) | exact oK) ?_
                  refine At.qt [] [hR [.int .i64 x.c], hB 2] rfl rfl (by and_intros <;> first | exact fC rfl | exact Tryz.key_ld (i := 3) rfl | exact hd0 | omega | exact rX 2 (.int .i64 x.c) rfl rfl | exact rX 3 (.int .i64 x.b) rfl rfl | exact rX 5 (str x.r) rfl rfl | exact fR rfl | (simp; done) | exact oK) ?_
                  refine At.go [false, false, false, false] [hR [.int .i64 x.c], hR [.int .i64 x.b]] rfl (by and_intros <;> first | exact fC rfl | exact Tryz.key_ld (i := 3) rfl | exact hd0 | omega | exact rX 2 (.int .i64 x.c) rfl rfl | exact rX 3 (.int .i64 x.b) rfl rfl | exact rX 5 (str x.r) rfl rfl | exact fR rfl | (simp [h2, h4, h5]; done) | exact oK) ?_
                  refine At.qt [] [hK (.agg { toList := keyC }), hB 2, hC (.string { data := (rootB n r).toArray }), hR [.string { data := x.r.toArray }]] rfl rfl (by and_intros <;> first | exact fC rfl | exact Tryz.key_ld (i := 3) rfl | exact hd0 | omega | exact rX 2 (.int .i64 x.c) rfl rfl | exact rX 3 (.int .i64 x.b) rfl rfl | exact rX 5 (str x.r) rfl rfl | exact fR rfl | (simp; done) | exact oK) ?_
                  refine At.go [true] [hB 1] rfl (by and_intros <;> first | exact fC rfl | exact Tryz.key_ld (i := 3) rfl | exact hd0 | omega | exact rX 2 (.int .i64 x.c) rfl rfl | exact rX 3 (.int .i64 x.b) rfl rfl | exact rX 5 (str x.r) rfl rfl | exact fR rfl | (simp [h6]; done) | exact oK) ?_
                  rw [hX1 k (by rw [hf]; exact fstE_hit hlt he), hsE]
                  refine At.nilRow 55 6 ?_
                  refine At.nilRow 9 1 ?_
                  refine At.nilRow 9 1 ?_
                  refine At.rt [false, false, false, false] [true, true, true, false, false, false] [hB 1] Tryz.func16 ?_
                  exact ⟨none, 0, none, 0, none, 0, rfl, rfl, rfl⟩
              · rw [if_pos h5] at hsE
                have he : segE S c1 n H k ≠ 0 := by rw [hsE]; decide
                refine At.go [false] [] rfl (by and_intros <;> first | exact fC rfl | exact Tryz.key_ld (i := 3) rfl | exact hd0 | omega | exact rX 2 (.int .i64 x.c) rfl rfl | exact rX 3 (.int .i64 x.b) rfl rfl | exact rX 5 (str x.r) rfl rfl | exact fR rfl | (simp; done) | exact oK) ?_
                refine At.qt [] [hK (.agg { toList := keyC }), hB 2, hC (.tuple { toList := [.string { data := (chainB n (List.take (k + 1) H)).fst.toArray }, .bool true] })] rfl rfl (by and_intros <;> first | exact fC rfl | exact Tryz.key_ld (i := 3) rfl | exact hd0 | omega | exact rX 2 (.int .i64 x.c) rfl rfl | exact rX 3 (.int .i64 x.b) rfl rfl | exact rX 5 (str x.r) rfl rfl | exact fR rfl | (simp; done) | exact oK) ?_
                refine At.go [false] [] rfl (by and_intros <;> first | exact fC rfl | exact Tryz.key_ld (i := 3) rfl | exact hd0 | omega | exact rX 2 (.int .i64 x.c) rfl rfl | exact rX 3 (.int .i64 x.b) rfl rfl | exact rX 5 (str x.r) rfl rfl | exact fR rfl | (simp; done) | exact oK) ?_
                refine At.qt [] [hR [.int .i64 x.c], hB 2] rfl rfl (by and_intros <;> first | exact fC rfl | exact Tryz.key_ld (i := 3) rfl | exact hd0 | omega | exact rX 2 (.int .i64 x.c) rfl rfl | exact rX 3 (.int .i64 x.b) rfl rfl | exact rX 5 (str x.r) rfl rfl | exact fR rfl | (simp; done) | exact oK) ?_
                refine At.go [false, false, false, true] [hR [.int .i64 x.c], hR [.int .i64 x.b], hB 1] rfl (by and_intros <;> first | exact fC rfl | exact Tryz.key_ld (i := 3) rfl | exact hd0 | omega | exact rX 2 (.int .i64 x.c) rfl rfl | exact rX 3 (.int .i64 x.b) rfl rfl | exact rX 5 (str x.r) rfl rfl | exact fR rfl | (simp [h2, h4, h5]; done) | exact oK) ?_
                rw [hX1 k (by rw [hf]; exact fstE_hit hlt he), hsE]
                refine At.nilRow 55 6 ?_
                refine At.nilRow 9 1 ?_
                refine At.nilRow 9 1 ?_
                refine At.rt [false, false, false, false] [true, true, true, false, false, false] [hB 1] Tryz.func16 ?_
                exact ⟨none, 0, none, 0, none, 0, rfl, rfl, rfl⟩
            · rw [if_pos h4] at hsE
              have he : segE S c1 n H k ≠ 0 := by rw [hsE]; decide
              refine At.go [false] [] rfl (by and_intros <;> first | exact fC rfl | exact Tryz.key_ld (i := 3) rfl | exact hd0 | omega | exact rX 2 (.int .i64 x.c) rfl rfl | exact rX 3 (.int .i64 x.b) rfl rfl | exact rX 5 (str x.r) rfl rfl | exact fR rfl | (simp; done) | exact oK) ?_
              refine At.qt [] [hK (.agg { toList := keyC }), hB 2, hC (.tuple { toList := [.string { data := (chainB n (List.take (k + 1) H)).fst.toArray }, .bool true] })] rfl rfl (by and_intros <;> first | exact fC rfl | exact Tryz.key_ld (i := 3) rfl | exact hd0 | omega | exact rX 2 (.int .i64 x.c) rfl rfl | exact rX 3 (.int .i64 x.b) rfl rfl | exact rX 5 (str x.r) rfl rfl | exact fR rfl | (simp; done) | exact oK) ?_
              refine At.go [false] [] rfl (by and_intros <;> first | exact fC rfl | exact Tryz.key_ld (i := 3) rfl | exact hd0 | omega | exact rX 2 (.int .i64 x.c) rfl rfl | exact rX 3 (.int .i64 x.b) rfl rfl | exact rX 5 (str x.r) rfl rfl | exact fR rfl | (simp; done) | exact oK) ?_
              refine At.qt [] [hR [.int .i64 x.c], hB 2] rfl rfl (by and_intros <;> first | exact fC rfl | exact Tryz.key_ld (i := 3) rfl | exact hd0 | omega | exact rX 2 (.int .i64 x.c) rfl rfl | exact rX 3 (.int .i64 x.b) rfl rfl | exact rX 5 (str x.r) rfl rfl | exact fR rfl | (simp; done) | exact oK) ?_
              refine At.go [false, false, true] [hR [.int .i64 x.c], hB 1] rfl (by and_intros <;> first | exact fC rfl | exact Tryz.key_ld (i := 3) rfl | exact hd0 | omega | exact rX 2 (.int .i64 x.c) rfl rfl | exact rX 3 (.int .i64 x.b) rfl rfl | exact rX 5 (str x.r) rfl rfl | exact fR rfl | (simp [h2]; done) | exact oK) ?_
              rw [hX1 k (by rw [hf]; exact fstE_hit hlt he), hsE]
              refine At.nilRow 55 6 ?_
              refine At.nilRow 9 1 ?_
              refine At.nilRow 9 1 ?_
              refine At.rt [false, false, false, false] [true, true, true, false, false, false] [hB 1] Tryz.func16 ?_
              exact ⟨none, 0, none, 0, none, 0, rfl, rfl, rfl⟩
        · rw [if_pos h2] at hsE
          have he : segE S c1 n H k ≠ 0 := by rw [hsE]; decide
          refine At.go [false] [] rfl (by and_intros <;> first | exact fC rfl | exact Tryz.key_ld (i := 3) rfl | exact hd0 | omega | exact rX 2 (.int .i64 x.c) rfl rfl | exact rX 3 (.int .i64 x.b) rfl rfl | exact rX 5 (str x.r) rfl rfl | exact fR rfl | (simp; done) | exact oK) ?_
          refine At.qt [] [hK (.agg { toList := keyC }), hB 2, hC (.tuple { toList := [.string { data := (chainB n (List.take (k + 1) H)).fst.toArray }, .bool true] })] rfl rfl (by and_intros <;> first | exact fC rfl | exact Tryz.key_ld (i := 3) rfl | exact hd0 | omega | exact rX 2 (.int .i64 x.c) rfl rfl | exact rX 3 (.int .i64 x.b) rfl rfl | exact rX 5 (str x.r) rfl rfl | exact fR rfl | (simp; done) | exact oK) ?_
          refine At.go [false] [] rfl (by and_intros <;> first | exact fC rfl | exact Tryz.key_ld (i := 3) rfl | exact hd0 | omega | exact rX 2 (.int .i64 x.c) rfl rfl | exact rX 3 (.int .i64 x.b) rfl rfl | exact rX 5 (str x.r) rfl rfl | exact fR rfl | (simp; done) | exact oK) ?_
          refine At.qt [] [hR [.int .i64 x.c], hB 2] rfl rfl (by and_intros <;> first | exact fC rfl | exact Tryz.key_ld (i := 3) rfl | exact hd0 | omega | exact rX 2 (.int .i64 x.c) rfl rfl | exact rX 3 (.int .i64 x.b) rfl rfl | exact rX 5 (str x.r) rfl rfl | exact fR rfl | (simp; done) | exact oK) ?_
          refine At.go [true] [hB 1] rfl (by and_intros <;> first | exact fC rfl | exact Tryz.key_ld (i := 3) rfl | exact hd0 | omega | exact rX 2 (.int .i64 x.c) rfl rfl | exact rX 3 (.int .i64 x.b) rfl rfl | exact rX 5 (str x.r) rfl rfl | exact fR rfl | (simp [h2]; done) | exact oK) ?_
          rw [hX1 k (by rw [hf]; exact fstE_hit hlt he), hsE]
          refine At.nilRow 55 6 ?_
          refine At.nilRow 9 1 ?_
          refine At.nilRow 9 1 ?_
          refine At.rt [false, false, false, false] [true, true, true, false, false, false] [hB 1] Tryz.func16 ?_
          exact ⟨none, 0, none, 0, none, 0, rfl, rfl, rfl⟩
  · obtain rfl : k = H.length := by omega
    have hXe := hX2 (by rw [hf]; exact fstE_end _ _)
    refine At.go [false] [] rfl (by and_intros <;> first | exact decide_eq_false (by omega) | exact oK) ?_
    refine At.step [] rfl rfl rfl rfl rfl trivial (OpOk.call rfl (fun w' hw' => Tryz.rfSegment_w S H.length fa fc w' hlen hSb (hfr.ext hw'.ext (by simp [kys]))) ?_)
    rintro _ _ _ ⟨gt, tc, rfl, rfl, rfl⟩
    have htf := segF_few (k := (H.length : Int)) hSb
    obtain ⟨tl, htl⟩ : ∃ tl, (segF S H.length).1 = tl := ⟨_, rfl⟩
    obtain ⟨wh, hwh⟩ : ∃ wh, (segF S H.length).2 = wh := ⟨_, rfl⟩
    rw [htl] at htf
    rw [htl, hwh] at hXe ⊢
    cases just with
    | false =>
      rw [if_pos (.inl rfl)] at hXe
      refine At.go [true, true] [hB 1] rfl (by and_intros <;> first | exact trivial | exact oK) ?_
      rw [hXe]
      refine At.nilRow 55 6 ?_
      refine At.nilRow 9 1 ?_
      refine At.nilRow 9 1 ?_
      refine At.rt [false, false, false, false] [true, true, true, false, false, false] [hB 1] Tryz.func16 ?_
      exact ⟨none, 0, none, 0, none, 0, rfl, rfl, rfl⟩
    | true =>
      cases wh with
      | false =>
        rw [if_pos (.inr rfl)] at hXe
        refine At.go [false, true] [hB 1] rfl (by and_intros <;> first | exact trivial | exact oK) ?_
        rw [hXe]
        refine At.nilRow 55 6 ?_
        refine At.nilRow 9 1 ?_
        refine At.nilRow 9 1 ?_
        refine At.rt [false, false, false, false] [true, true, true, false, false, false] [hB 1] Tryz.func16 ?_
        exact ⟨none, 0, none, 0, none, 0, rfl, rfl, rfl⟩
      | true =>
        rw [if_neg (by simp)] at hXe
        by_cases h2 : c1 ≤ tl.length
        · rw [if_pos h2] at hXe
          refine At.go [false, false, true] [hB 2, hB 1] rfl (by and_intros <;> first | exact decide_eq_true h2 | exact oK) ?_
          rw [hXe]
          refine At.nilRow 55 6 ?_
          refine At.nilRow 9 1 ?_
          refine At.nilRow 9 1 ?_
          refine At.rt [false, false, false, false] [true, true, true, false, false, false] [hB 1] Tryz.func16 ?_
          exact ⟨none, 0, none, 0, none, 0, rfl, rfl, rfl⟩
        rw [if_neg h2] at hXe
        refine At.go [false, false, false] [hB 2] rfl (by and_intros <;> first | exact decide_eq_false h2 | exact oK) ?_
        refine At.loop (env0 := [(1, .slice fa (List.length S) fc), (6, .pointer (some ⟨b6, 0, none⟩)), (9, .pointer (some ⟨b9, 0, none⟩)), (17, .int .i64 ↑H.length), (18, .slice (svA gt) tl.length tc), (20, .int .i64 (-1)), (21, .int .i64 0)]) (fun m_ env bx hp => ∃ (i : Nat), m_ = S.length - i ∧ (i ≤ S.length) ∧ env = [(1, .slice fa (List.length S) fc), (6, .pointer (some ⟨b6, 0, none⟩)), (9, .pointer (some ⟨b9, 0, none⟩)), (17, .int .i64 ↑H.length), (18, .slice (svA gt) tl.length tc), (20, .int .i64 (nxtL H.length (kindsF 1 (S.take i)))), (21, .int .i64 i)] ∧ bx = [(b9, 43, [.slice (svA gh) H.length hc, .slice (svA g) R.length c, .slice none 0 0, .int .i64 (-1), .int .i64 0]), (b6, 43, [.slice none 0 0, .slice none 0 0, .slice none 0 0, .int .i64 0, .int .i64 0]), (b5, 24, [.int .i64 c1, .int .i64 ↑n, .int .i64 c3, .int .i64 c4]), (b3, 38, keyC)] ∧ hp = [Seg.row gt 9 1 tl.length tc (List.map str tl), Seg.row g 9 1 R.length c (List.map str R), Seg.row gh 55 6 H.length hc (List.flatMap hdC H)]) rfl
          ⟨0, rfl, (by omega), rfl, rfl, rfl⟩ sB ?_
        rintro m_ env bx hp ⟨i, rfl, hi, rfl, rfl, rfl⟩ ih3
        by_cases hlt : i < S.length
        · obtain ⟨p, hp⟩ : ∃ p, S[i]? = some p := ⟨_, List.getElem?_eq_getElem hlt⟩
          obtain ⟨ga, o, rfl, hca⟩ := hfr.get (fl_ne (by intro h; rw [h] at hlt; simp at hlt))
          have rN : ∀ {bx : Bx} {hp : List Seg}, RdW ⟨w, kys [] []⟩ bx hp ga (o + (i : Int).toNat * 2 + 0) [str p.1] := fun {_ _} => RdW.fileN hca (by simp [kys]) hp (by omega)
          have hsn : kindsF 1 (S.take (i + 1)) = kindsF 1 (S.take i) ++ if (kindB p.1).1 = 1 then [(kindB p.1).2.1] else [] := by rw [List.take_add_one, hp]; exact kindsF_snoc 1 _ p
          obtain ⟨kd, m, ok, hK⟩ : ∃ kd m ok, kindB p.1 = (kd, m, ok) := ⟨_, _, _, rfl⟩
          have fC : ∀ {S : Base} {bx : Bx} {hp : List Seg}, CallOb Tryz.prog S bx hp 41 [str p.1] (.tuple #[.int .i64 kd, .int .i64 m, .bool ok]) := fun {_ _ _} w' _ => by
            have := Tryz.rKind_w p.1 w' (hns p (List.mem_of_getElem? hp)); rwa [hK] at this
          rw [hK] at hsn
          simp only at hsn
          have hd1 : decide ((i : Int) < (S.length : Int)) = true := decide_eq_true (by omega)
          by_cases hk1 : kd = 1
          · rw [if_pos hk1] at hsn
            have hnx := nxtL_snoc H.length (kindsF 1 (S.take i)) m
            rw [← hsn] at hnx
            obtain ⟨b, hb⟩ : ∃ b, nxtL H.length (kindsF 1 (S.take i)) = b := ⟨_, rfl⟩
            rw [hb] at hnx ⊢
            unfold nxtS at hnx
            by_cases hm : (H.length : Int) < m
            · by_cases hb0 : b < 0
              · rw [if_pos ⟨hm, .inl hb0⟩] at hnx
                refine At.go [true, true, true, true, true] [hR [.string { data := p.fst.toArray }], hC (.tuple ⟨[.int .i64 kd, .int .i64 m, .bool ok]⟩)] rfl (by and_intros <;> first | exact rN | exact fC | exact hd1 | exact decide_eq_true hk1 | exact decide_eq_true hm | exact decide_eq_true hb0 | exact oK) ?_
                rw [← hnx]
                exact At.weak (ih3 _ _ _ _ (by omega) ⟨i + 1, rfl, by omega, rfl, rfl, rfl⟩) sB
              · by_cases hmb : m < b
                · rw [if_pos ⟨hm, .inr hmb⟩] at hnx
                  refine At.go [true, true, true, false, true] [hR [.string { data := p.fst.toArray }], hC (.tuple ⟨[.int .i64 kd, .int .i64 m, .bool ok]⟩)] rfl (by and_intros <;> first | exact rN | exact fC | exact hd1 | exact decide_eq_true hk1 | exact decide_eq_true hm | exact decide_eq_false hb0 | exact decide_eq_true hmb | exact oK) ?_
                  rw [← hnx]
                  exact At.weak (ih3 _ _ _ _ (by omega) ⟨i + 1, rfl, by omega, rfl, rfl, rfl⟩) sB
                · rw [if_neg (by omega)] at hnx
                  refine At.go [true, true, true, false, false] [hR [.string { data := p.fst.toArray }], hC (.tuple ⟨[.int .i64 kd, .int .i64 m, .bool ok]⟩)] rfl (by and_intros <;> first | exact rN | exact fC | exact hd1 | exact decide_eq_true hk1 | exact decide_eq_true hm | exact decide_eq_false hb0 | exact decide_eq_false hmb | exact oK) ?_
                  rw [← hnx]
                  exact At.weak (ih3 _ _ _ _ (by omega) ⟨i + 1, rfl, by omega, rfl, rfl, rfl⟩) sB
            · rw [if_neg (fun h => hm h.1)] at hnx
              refine At.go [true, true, false, false] [hR [.string { data := p.fst.toArray }], hC (.tuple ⟨[.int .i64 kd, .int .i64 m, .bool ok]⟩)] rfl (by and_intros <;> first | exact rN | exact fC | exact hd1 | exact decide_eq_true hk1 | exact decide_eq_false hm | exact oK) ?_
              rw [← hnx]
              exact At.weak (ih3 _ _ _ _ (by omega) ⟨i + 1, rfl, by omega, rfl, rfl, rfl⟩) sB
          · rw [if_neg hk1, List.append_nil] at hsn
            refine At.go [true, false, false, false] [hR [.string { data := p.fst.toArray }], hC (.tuple ⟨[.int .i64 kd, .int .i64 m, .bool ok]⟩)] rfl (by and_intros <;> first | exact rN | exact fC | exact hd1 | exact decide_eq_false hk1 | exact oK) ?_
            rw [← hsn]
            exact At.weak (ih3 _ _ _ _ (by omega) ⟨i + 1, rfl, by omega, rfl, rfl, rfl⟩) sB
        · obtain rfl : i = S.length := by omega
          rw [List.take_length]
          have hd0 : decide ((S.length : Int) < (S.length : Int)) = false := decide_eq_false (by omega)
          by_cases h3 : 0 ≤ nxtL H.length (kindsF 1 S)
          · rw [if_pos h3] at hXe
            refine At.go [false, true] [hB 1] rfl (by and_intros <;> first | exact hd0 | exact decide_eq_true h3 | exact oK) ?_
            rw [hXe]
            refine At.nilRow 55 6 ?_
            refine At.nilRow 9 1 ?_
            refine At.nilRow 9 1 ?_
            refine At.rt [false, false, false, false] [true, true, true, false, false, false] [hB 1] Tryz.func16 ?_
            exact ⟨none, 0, none, 0, none, 0, rfl, rfl, rfl⟩
          · rw [if_neg h3] at hXe
            rw [hXe, ← eR]
            refine At.go [false, false] [hB 0, hB 0, hB 1] rfl (by and_intros <;> first | exact hd0 | exact decide_eq_false h3 | (simp [Value.oneCell']; done) | exact oK) ?_
            refine At.rt [false, false, false, false] [true, true, true] [hB 1] Tryz.func16 ?_
            exact ⟨gh, hc, g, c, gt, tc, rfl, rfl, rfl⟩
end Go.Proofs

/-
  Walks of layer 22's document and of the statements' example: the answer; alive.
-/
namespace Go.Proofs
open Go Go.Eng
set_option maxRecDepth 100000
set_option maxHeartbeats 4000000
attribute [local irreducible] Tri

theorem Tryz.r22Sealed_w (X : FndB) (n : Nat) (c1 c3 c4 : Int) (gh : Option Nat) (hc : Nat) (g : Option Nat) (c : Nat) (gt : Option Nat) (tc : Nat) (w : World) (hn : 1 ≤ n ∧ n ≤ 32) (hl : X.H.length ≤ 6000) (hx : ∀ x, x ∈ X.H → x.p.length ≤ 9223372036854775807 ∧ x.r.length ≤ 9223372036854775807) (hr : SlOk w (svA gh) (X.H.flatMap hdC)) :
    Fun Tryz.prog 17 [.agg ⟨keyC⟩, .agg ⟨[.int .i64 c1, .int .i64 n, .int .i64 c3, .int .i64 c4]⟩, .agg ⟨fndV X gh hc g c gt tc⟩] w (.agg ⟨sdC (sealD n X)⟩) := by
  have fC : ∀ {bx : Bx} {hp : List Seg}, CallOb Tryz.prog ⟨w, kys [] []⟩ bx hp 39 [.agg ⟨keyC⟩, .slice (svA gh) X.H.length hc, .int .i64 n] (.tuple #[str (chainB n X.H).1, .bool (chainB n X.H).2]) := fun {_ _} w' hw' => Tryz.rhChain_w X.H n (svA gh) hc w' (by omega) hx hn.2 (hr.ext hw'.ext (by simp [kys]))
  unfold fndV sealD
  refine Tri.enter (bx := []) (hp := []) Tryz.func17 rfl (by kernel_rfl) rfl (Own.nil w) ?_
  by_cases he : X.e = 0
  · rw [if_neg (by simpa using he)]
    refine At.go [] [] rfl (by and_intros <;> first | exact fC | exact Tryz.key_ld (i := 3) rfl | (simp; done) | exact oK) ?_
    refine At.bo fun b3 hb3 => ?_
    refine At.bo fun b4 hb4 => ?_
    refine At.bo fun b5 hb5 => ?_
    refine At.al fun b6 hb6 => ?_
    refine At.go [false] [hB 1, hK (.agg { toList := keyC }), hB 1, hB 2, hC (.tuple { toList := [.string { data := (chainB n X.H).fst.toArray }, .bool (chainB n X.H).snd] }), hB 1, hB 1, hB 0] rfl (by and_intros <;> first | exact fC | exact Tryz.key_ld (i := 3) rfl | (simp [he]; done) | exact oK) ?_
    refine At.rt [] [] [hB 0] Tryz.func17 ?_
    exact ⟨rfl, rfl, rfl⟩
  · rw [if_pos he]
    refine At.go [] [] rfl (by and_intros <;> first | (simp; done) | exact oK) ?_
    refine At.bo fun b3 hb3 => ?_
    refine At.bo fun b4 hb4 => ?_
    refine At.bo fun b5 hb5 => ?_
    refine At.al fun b6 hb6 => ?_
    refine At.go [true] [hB 1, hB 0] rfl (by and_intros <;> first | (simp [he]; done) | exact oK) ?_
    refine At.rt [] [] [hB 0] Tryz.func17 ?_
    exact ⟨rfl, rfl, rfl⟩
theorem ex_nm0 : nmB 115 0 = [115, 48] := by
  unfold nmB Lib.itoa
  rw [if_pos (by decide), if_neg (by decide), Lib.decDigits, dif_pos (by decide)]; rfl
def exV : FL := [([115, 48], [113])]
theorem ex_ver0 : verF [] 2 4 = ⟨[], [], [], -1, 0⟩ := by
  have h1 : headsF [] (4 : Nat) = ([], true) := rfl
  have h2 : segF [] ((0 : Nat) : Int) = ([], true) := by
    show segF [] 0 = _
    unfold segF; rw [ex_nm0]; rfl
  have := verF_end (S := []) (per := 2) (n := 4) (by rw [h1]; rfl)
  rw [this, h1]
  simp only [List.length_nil]
  rw [h2]; rfl
theorem ex_ver1 : verF exV 2 4 = ⟨[], [], [], 0, 3⟩ := by
  have h1 : headsF exV (4 : Nat) = ([], true) := by
    unfold headsF; rw [show readN exV headsB = [] from rfl]; rfl
  have h2 : segF exV ((0 : Nat) : Int) = ([], false) := by
    show segF exV 0 = _
    unfold segF; rw [ex_nm0]; decide +kernel
  have := verF_end (S := exV) (per := 2) (n := 4) (by rw [h1]; rfl)
  rw [this, h1]
  simp only [List.length_nil]
  rw [h2]; rfl
set_option maxRecDepth 100000 in
theorem ex_cut : cutH 4 [] = [227, 176, 196, 66] := by
  unfold cutH shaH; decide +kernel
theorem Tryz.alive22_w (w : World) (hT : Tryz.Tabs w) : Fun Tryz.prog 10 [] w (.bool true) := by
  have fV : ∀ {bx : Bx} {hp : List Seg}, CallOb Tryz.prog ⟨w, kys [] []⟩ bx hp 12 [.slice none 0 0, .agg ⟨[.int .i64 2, .int .i64 4, .int .i64 0, .int .i64 9]⟩] (.tuple #[.agg ⟨[str [227, 176, 196, 66], .int .i64 0, .int .i64 0]⟩, .int .i64 (-1), .int .i64 0]) := fun {_ _} w' hw' => by
    have := Tryz.Verify_w [] 4 2 0 9 none 0 w' (by decide) (fun p hp => by cases hp) (fun p hp => by cases hp) (by decide) (.inl rfl) (Tryz.tabs_ext0 hT hw'.ext)
    rw [ex_ver0, show sealD 4 ⟨[], [], [], -1, 0⟩ = (cutH 4 [], 0, 0) from rfl, ex_cut] at this
    exact this
  have fW : ∀ {bx : Bx} {hp : List Seg} (b : Nat), nth bx 0 = some (b, 71, [str [115, 48], str [113]]) → CallOb Tryz.prog ⟨w, kys [] []⟩ bx hp 12 [.slice (some ⟨b, 0, none⟩) 1 1, .agg ⟨[.int .i64 2, .int .i64 4, .int .i64 0, .int .i64 9]⟩] (.tuple #[.agg ⟨[str [], .int .i64 0, .int .i64 0]⟩, .int .i64 0, .int .i64 3]) := fun {_ _} b h w' hw' => by
    have := Tryz.Verify_w exV 4 2 0 9 (some ⟨b, 0, none⟩) 1 w' (by decide) (fun p hp => by simp [exV] at hp; subst hp; decide) (fun p hp => by simp [exV] at hp; subst hp; decide) (by decide) (SlOk.blk (hw'.bx _ (nth_mem h))) (Tryz.tabs_ext0 hT hw'.ext)
    rw [ex_ver1, show sealD 4 ⟨[], [], [], 0, 3⟩ = ([], 0, 0) from rfl] at this
    exact this
  refine Tri.enter (bx := []) (hp := []) Tryz.func10 rfl (by kernel_rfl) rfl (Own.nil w) ?_
  refine At.go [] [] rfl (by and_intros <;> first | exact fV | exact oK) ?_
  refine At.al fun b1 hb1 => ?_
  refine At.go [] [hB 0, hB 0, hC (.tuple { toList := [.agg { toList := [.string { data := #[227, 176, 196, 66] }, .int .i64 0, .int .i64 0] }, .int .i64 (-1), .int .i64 0] })] rfl (by and_intros <;> first | exact fV | exact oK) ?_
  refine At.al fun b2 hb2 => ?_
  refine At.go [] [hB 0] rfl (by and_intros <;> first | exact fV | exact oK) ?_
  refine At.st [] (OpOk.buildSlice rfl rfl rfl rfl rfl rfl rfl (fun bs hbs => ?_))
  refine At.go [] [hB 2, hC (.tuple { toList := [.agg { toList := [.string { data := #[] }, .int .i64 0, .int .i64 0] }, .int .i64 0, .int .i64 3] })] rfl (by and_intros <;> first | exact fW bs rfl | (simp; done) | exact oK) ?_
  refine At.al fun b5 hb5 => ?_
  refine At.go [true, true, true, true] [hB 0, hB 2] rfl (by and_intros <;> first | exact fW bs rfl | (simp; done) | exact oK) ?_
  refine At.rt [] [] [] Tryz.func10 ?_
  exact ⟨rfl, rfl, rfl⟩
end Go.Proofs

/-
  Walk of the statement VerifyTells.
-/
namespace Go.Proofs
open Go Go.Eng
set_option maxRecDepth 100000
set_option maxHeartbeats 4000000
attribute [local irreducible] Tri

theorem Tryz.key_cells : cellsT Tryz.prog 38 (.agg ⟨keyC⟩) = some (keyC, ∀ u, u ∈ keyC → u.oneCell' = true) := by
  unfold cellsT
  rw [show aggT Tryz.prog 38 = some true by rfl, show szT Tryz.prog 38 = some 72 by rfl]
  simp only [keyC_len]; rfl
theorem key_ones : ∀ u, u ∈ keyC → u.oneCell' = true := by
  rw [keyC_eq]; exact all1 rfl
theorem key_put {l : List Value} (h : l.length = 72) : putL l 0 keyC = keyC := by
  rw [putL_eq keyC l 0 (by rw [keyC_len]; omega), keyC_len, List.drop_of_length_le (by omega)]; simp
theorem Tryz.verifyTells_w (S : FL) (c1 n c3 c4 : Int) (hs : List UInt8) (sg : Int) (fa : Option Addr) (fc : Nat) (w : World) (hlen : S.length ≤ 9223372036854775807) (hfr : SlOk w fa (fl S)) (hns : ∀ p, p ∈ S → p.1.length ≤ 9223372036854775807 ∧ p.2.length ≤ 9223372036854775807) (hhs : hs.length ≤ 9223372036854775807) (hT : Tryz.Tabs w) :
    Fun Tryz.prog 3 [.slice fa S.length fc, .agg ⟨[.int .i64 c1, .int .i64 n, .int .i64 c3, .int .i64 c4]⟩, str hs, .int .i64 sg] w (.bool true) := by
  have hA : ∀ {bx : Bx} {hp : List Seg}, CallOb Tryz.prog ⟨w, kys [] []⟩ bx hp 10 [] (.bool true) := fun {_ _} w' hw' => Tryz.alive22_w w' (Tryz.tabs_ext0 hT hw'.ext)
  obtain ⟨gr, hgr⟩ : ∃ gr, greatF S = gr := ⟨_, rfl⟩
  have hG : ∀ {bx : Bx} {hp : List Seg}, CallOb Tryz.prog ⟨w, kys [] []⟩ bx hp 11 [.slice fa S.length fc] (.bool gr) := fun {_ _} w' hw' => by
    rw [← hgr]; exact Tryz.great09_w S fa fc w' hlen (hfr.ext hw'.ext (by simp [kys])) hns
  have hbl := len_str hs
  refine Tri.enter (bx := []) (hp := []) Tryz.func3 rfl (by kernel_rfl) rfl (Own.nil w) ?_
  cases gr with
  | true =>
    refine At.go [] [] rfl (by and_intros <;> first | exact hA | exact hG | exact oK) ?_
    refine At.bo fun b5 hb5 => ?_
    refine At.go [false, true, true] [hC (.bool true), hC (.bool true)] rfl (by and_intros <;> first | exact hA | exact hG | exact oK) ?_
    refine At.rt [] [] [] Tryz.func3 ?_
    exact ⟨rfl, rfl, rfl⟩
  | false =>
    obtain ⟨h60, hSb⟩ := greatF_lens hgr
    by_cases h100 : 100 < hs.length
    · refine At.go [] [] rfl (by and_intros <;> first | exact hA | exact hG | (rw [bl_of]; exact decide_eq_true (by omega)) | exact oK) ?_
      refine At.bo fun b5 hb5 => ?_
      refine At.go [false, false, true] [hC (.bool true), hC (.bool false)] rfl (by and_intros <;> first | exact hA | exact hG | (rw [bl_of]; exact decide_eq_true (by omega)) | exact oK) ?_
      refine At.rt [] [] [] Tryz.func3 ?_
      exact ⟨rfl, rfl, rfl⟩
    have hd : decide ((100 : Int) < ((bl ⟨hs.toArray⟩).length : Int)) = false := by rw [bl_of]; exact decide_eq_false (by omega)
    have fY : ∀ {S : Base} {bx : Bx} {hp : List Seg}, CallOb Tryz.prog S bx hp 14 [.agg ⟨[.int .i64 c1, .int .i64 n, .int .i64 c3, .int .i64 c4]⟩] (.bool (mayCf c1 n c3 c4)) := fun {_ _ _} w' _ => Tryz.r19May_w c1 n c3 c4 w'
    cases hmay : mayCf c1 n c3 c4 with
    | false =>
      rw [hmay] at fY
      have fV : ∀ {bx : Bx} {hp : List Seg}, CallOb Tryz.prog ⟨w, kys [] []⟩ bx hp 12 [.slice fa S.length fc, .agg ⟨[.int .i64 c1, .int .i64 n, .int .i64 c3, .int .i64 c4]⟩] (.tuple #[.agg ⟨[str [], .int .i64 0, .int .i64 0]⟩, .int .i64 0, .int .i64 1]) := fun {_ _} w' hw' => Tryz.VerifyNo_w S n c1 c3 c4 fa fc w' hmay
      have fA : ∀ {bx : Bx} {hp : List Seg}, CallOb Tryz.prog ⟨w, kys [] []⟩ bx hp 13 [.slice fa S.length fc, .agg ⟨[.int .i64 c1, .int .i64 n, .int .i64 c3, .int .i64 c4]⟩, str hs, .int .i64 sg] (.bool false) := fun {_ _} w' hw' => by
        have := Tryz.Accepts_w S n c1 c3 c4 hs sg ([], 0, 0) 0 1 fa fc w' fun w2 _ => Tryz.VerifyNo_w S n c1 c3 c4 fa fc w2 hmay
        rwa [decide_eq_false (by simp)] at this
      refine At.go [] [] rfl (by and_intros <;> first | exact hA | exact hG | exact hd | exact fV | exact fA | exact fY | (simp; done) | exact oK) ?_
      refine At.bo fun b5 hb5 => ?_
      refine At.go [false, false, false] [hC (.bool true), hC (.bool false), hB 0, hC (.tuple { toList := [.agg { toList := [.string { data := #[] }, .int .i64 0, .int .i64 0] }, .int .i64 0, .int .i64 1] })] rfl (by and_intros <;> first | exact hA | exact hG | exact hd | exact fV | exact fA | exact fY | (simp; done) | exact oK) ?_
      refine At.al fun b9 hb9 => ?_
      refine At.go [true, true, true, true] [hB 0, hB 1, hC (.bool false), hB 1, hC (.bool false), hB 0] rfl (by and_intros <;> first | exact hA | exact hG | exact hd | exact fV | exact fA | exact fY | (simp; done) | exact oK) ?_
      refine At.rt [] [] [] Tryz.func3 ?_
      exact ⟨rfl, rfl, rfl⟩
    | true =>
      rw [hmay] at fY
      have hin := mayCf_in hmay
      obtain ⟨N, rfl⟩ : ∃ N : Nat, n = N := ⟨n.toNat, by omega⟩
      have hV := fun (w' : World) (hw' : Ext [] w w') => Tryz.Verify_w S N c1 c3 c4 fa fc w' h60 hSb (fun p hp => (hns p hp).1) hmay (hfr.ext hw' (by simp)) (Tryz.tabs_ext0 hT hw')
      have hHl := headsF_few (n := (N : Int)) hSb
      have hok := verF_ok (S := S) (per := c1) (n := N)
      have hbad := verF_bad (S := S) (per := c1) (n := N)
      have hmy := fun x (h : x ∈ (headsF S N).1) => mayH_in (headsF_may h)
      have hXl : (verF S c1 N).H.length ≤ 6000 ∧ ∀ x, x ∈ (verF S c1 N).H → x.p.length ≤ 9223372036854775807 ∧ x.r.length ≤ 9223372036854775807 := by
        by_cases he : (verF S c1 N).e = 0
        · rw [(hok he).1]; exact ⟨hHl, fun x hx => by have := hmy x hx; omega⟩
        · rw [(hbad he).1]; exact ⟨Nat.zero_le _, fun x hx => by cases hx⟩
      have hRv := fun (w' : World) (hw' : Ext [] w w') => Tryz.r22Verify_w S N c1 c3 c4 fa fc w' h60 hSb (fun p hp => (hns p hp).1) hmay (hfr.ext hw' (by simp))
      generalize verF S c1 N = X at hV hXl hRv
      clear hok hbad hmy
      have fV : ∀ {bx : Bx} {hp : List Seg}, CallOb Tryz.prog ⟨w, kys [] []⟩ bx hp 12 [.slice fa S.length fc, .agg ⟨[.int .i64 c1, .int .i64 N, .int .i64 c3, .int .i64 c4]⟩] (.tuple #[.agg ⟨sdC (sealD N X)⟩, .int .i64 X.at_, .int .i64 X.e]) := fun {_ _} w' hw' => hV w' hw'.ext
      have fA : ∀ {bx : Bx} {hp : List Seg}, CallOb Tryz.prog ⟨w, kys [] []⟩ bx hp 13 [.slice fa S.length fc, .agg ⟨[.int .i64 c1, .int .i64 N, .int .i64 c3, .int .i64 c4]⟩, str hs, .int .i64 sg] (.bool (decide (X.e = 0 ∧ (sealD N X).1 = hs ∧ ((sealD N X).2.1 : Int) = sg))) := fun {_ _} w' hw' =>
        Tryz.Accepts_w S N c1 c3 c4 hs sg (sealD N X) X.at_ X.e fa fc w' fun w2 he => hV w2 (hw'.ext.trans he)
      have fS := fun (gh : Option Nat) (hc : Nat) (g : Option Nat) (c : Nat) (gt : Option Nat) (tc : Nat) (w' : World) => Tryz.r22Sealed_w X N c1 c3 c4 gh hc g c gt tc w' (by omega) hXl.1 hXl.2
      generalize sealD N X = Y at fV fA fS
      obtain ⟨y1, y2, y3⟩ := Y
      simp only [sdC] at fV fA fS
      refine At.go [] [] rfl (by and_intros <;> first | exact hA | exact hG | exact hd | exact fV | exact fA | exact fY | (simp; done) | exact oK) ?_
      refine At.bo fun b5 hb5 => ?_
      refine At.go [false, false, false] [hC (.bool true), hC (.bool false), hB 0, hC (.tuple { toList := [.agg { toList := [.string { data := y1.toArray }, .int .i64 ↑y2, .int .i64 ↑y3] }, .int .i64 X.at_, .int .i64 X.e] })] rfl (by and_intros <;> first | exact hA | exact hG | exact hd | exact fV | exact fA | exact fY | (simp; done) | exact oK) ?_
      refine At.al fun b9 hb9 => ?_
      refine At.go [false] [hB 0, hB 1, hC (.bool (decide (X.e = 0 ∧ y1 = hs ∧ ↑y2 = sg))), hB 1, hC (.bool true)] rfl (by and_intros <;> first | exact hA | exact hG | exact hd | exact fV | exact fA | exact fY | (simp; done) | exact oK) ?_
      have fK : ∀ {S : Base} {bx : Bx} {hp : List Seg}, CallOb Tryz.prog S bx hp 15 [] (.agg ⟨keyC⟩) := fun {_ _ _} w' _ => Tryz.makeKeyC_w w'
      refine At.go [] [hC (.agg ⟨keyC⟩)] rfl (by and_intros <;> first | exact fK | exact oK) ?_
      refine At.al fun b13 hb13 => ?_
      refine At.step0 [] rfl rfl rfl rfl trivial (OpOk.storeBlk 0 rfl rfl rfl Tryz.key_cells key_ones rfl (by rw [keyC_len]; decide) ?_)
      rw [key_put rfl]
      refine At.go [] [hK (.agg { toList := keyC }), hB 2] rfl (by and_intros <;> first | exact Tryz.key_ld (i := 0) rfl | exact oK) ?_
      refine At.step [] rfl rfl rfl rfl rfl trivial (OpOk.call rfl (fun w' hw' => hRv w' hw'.ext) ?_)
      rintro _ _ _ ⟨gh, hc, g, c, gt, tc, rfl, rfl, rfl⟩
      have fS2 : ∀ {bx : Bx} {hp : List Seg}, nth hp 2 = some (Seg.row gh 55 6 X.H.length hc (X.H.flatMap hdC)) → CallOb Tryz.prog ⟨w, kys [] []⟩ bx hp 17 [.agg ⟨keyC⟩, .agg ⟨[.int .i64 c1, .int .i64 N, .int .i64 c3, .int .i64 c4]⟩, .agg ⟨[sv gh X.H.length hc, sv g X.R.length c, sv gt X.T.length tc, .int .i64 X.at_, .int .i64 X.e]⟩] (.agg ⟨[str y1, .int .i64 y2, .int .i64 y3]⟩) := fun {_ _} h w' hw' =>
        fS gh hc g c gt tc w' (SlOk.row (hw'.hp _ (nth_mem h)))
      by_cases h1 : X.e = 0
      · by_cases h2 : y1 = hs
        · refine At.al fun b14 hb14 => ?_
          refine At.go [] [hB 0, hK (.agg { toList := keyC }), hB 3, hB 0, hC (.agg { toList := [.string { data := y1.toArray }, .int .i64 ↑y2, .int .i64 ↑y3] })] rfl (by and_intros <;> first | exact Tryz.key_ld (i := 1) rfl | exact fS2 rfl | (simp [Value.oneCell', sv, fndV]; done) | (simp [h1, h2, bl_of]; done) | exact oK) ?_
          refine At.al fun b15 hb15 => ?_
          refine At.go [true, true, true, true, true] [hB 0, hB 3, hB 0, hB 1, hB 1, hB 1, hB 0, hB 0] rfl (by and_intros <;> first | exact Tryz.key_ld (i := 1) rfl | exact fS2 rfl | (simp [Value.oneCell']; done) | (simp [h1, h2]; done) | exact oK) ?_
          refine At.rt [] [] [] Tryz.func3 ?_
          exact ⟨by by_cases h3 : (y2 : Int) = sg <;> first | (simp [tupV, h1, h2, h3]; done) | (simp [tupV, h1, h2, h3, Ne.symm h3]; done), rfl, rfl⟩
        · refine At.al fun b14 hb14 => ?_
          refine At.go [] [hB 0, hK (.agg { toList := keyC }), hB 3, hB 0, hC (.agg { toList := [.string { data := y1.toArray }, .int .i64 ↑y2, .int .i64 ↑y3] })] rfl (by and_intros <;> first | exact Tryz.key_ld (i := 1) rfl | exact fS2 rfl | (simp [Value.oneCell', sv, fndV]; done) | (simp [h1, h2, bl_of, Ne.symm h2]; done) | exact oK) ?_
          refine At.al fun b15 hb15 => ?_
          refine At.go [true, true, true, true, false] [hB 0, hB 3, hB 0, hB 1, hB 1, hB 1, hB 0] rfl (by and_intros <;> first | exact Tryz.key_ld (i := 1) rfl | exact fS2 rfl | (simp [Value.oneCell']; done) | (simp [h1, Ne.symm h2]; done) | exact oK) ?_
          refine At.rt [] [] [] Tryz.func3 ?_
          exact ⟨by simp [tupV, h1, h2], rfl, rfl⟩
      · refine At.al fun b14 hb14 => ?_
        refine At.go [] [hB 0, hK (.agg { toList := keyC }), hB 3, hB 0, hC (.agg { toList := [.string { data := y1.toArray }, .int .i64 ↑y2, .int .i64 ↑y3] })] rfl (by and_intros <;> first | exact Tryz.key_ld (i := 1) rfl | exact fS2 rfl | (simp [Value.oneCell', sv, fndV]; done) | (simp [h1]; done) | exact oK) ?_
        refine At.al fun b15 hb15 => ?_
        refine At.go [true, true, true, false, false] [hB 0, hB 3, hB 0, hB 1, hB 1, hB 1] rfl (by and_intros <;> first | exact Tryz.key_ld (i := 1) rfl | exact fS2 rfl | (simp [Value.oneCell']; done) | (simp [h1]; done) | exact oK) ?_
        refine At.rt [] [] [] Tryz.func3 ?_
        exact ⟨by simp [tupV, h1], rfl, rfl⟩
end Go.Proofs

/-
  Walks: lists of strings alike; the statement's example of layer 21.
-/
namespace Go.Proofs
open Go Go.Eng
set_option maxRecDepth 100000
set_option maxHeartbeats 4000000
attribute [local irreducible] Tri

theorem same_no {A B : List (List UInt8)} (hl : A.length = B.length) (h : ∀ j, j < A.length → A[j]? = B[j]?) : A = B := by
  apply List.ext_getElem?
  intro j
  by_cases hj : j < A.length
  · exact h j hj
  · rw [List.getElem?_eq_none (by omega), List.getElem?_eq_none (by omega)]
theorem Tryz.same03_w (A B : List (List UInt8)) (a b : Option Addr) (ca cb : Nat) (w : World) (hla : A.length ≤ 1000000) (_hlb : B.length ≤ 1000000) (ha : SlOk w a (A.map str)) (hb : SlOk w b (B.map str)) :
    Fun Tryz.prog 19 [.slice a A.length ca, .slice b B.length cb] w (.bool (decide (A = B))) := by
  refine Tri.enter (bx := []) (hp := []) Tryz.func19 rfl (by kernel_rfl) rfl (Own.nil w) ?_
  by_cases hl : A.length = B.length
  · refine At.go [false] [] rfl (by and_intros <;> first | (simp [hl]; done) | exact oK) ?_
    refine At.loop (env0 := [(0, .slice a A.length ca), (1, .slice b B.length cb), (5, .int .i64 0)]) (fun m_ env bx hp => ∃ (i : Nat), m_ = A.length - i ∧ (i ≤ A.length) ∧ (∀ j, j < i → A[j]? = B[j]?) ∧ env = [(0, .slice a A.length ca), (1, .slice b B.length cb), (5, .int .i64 i)] ∧ bx = [] ∧ hp = []) rfl
      ⟨0, rfl, (by omega), (fun j h => absurd h (Nat.not_lt_zero j)), rfl, rfl, rfl⟩ sB ?_
    rintro m_ env bx hp ⟨i, rfl, hi, hno, rfl, rfl, rfl⟩ ih
    by_cases hlt : i < A.length
    · obtain ⟨x, hx⟩ : ∃ x, A[i]? = some x := ⟨_, List.getElem?_eq_getElem hlt⟩
      obtain ⟨y, hy⟩ : ∃ y, B[i]? = some y := ⟨_, List.getElem?_eq_getElem (by omega)⟩
      have ex : (A.map str)[i]? = some (str x) := by rw [List.getElem?_map, hx]; rfl
      have ey : (B.map str)[i]? = some (str y) := by rw [List.getElem?_map, hy]; rfl
      obtain ⟨g, o, rfl, hc⟩ := ha.get (by intro h; rw [h] at ex; simp at ex)
      obtain ⟨g', o', rfl, hc'⟩ := hb.get (by intro h; rw [h] at ey; simp at ey)
      have rA : ∀ {bx : Bx} {hp : List Seg}, RdW ⟨w, kys [] []⟩ bx hp g (o + (i : Int).toNat * 1) [str x] := fun {_ _} => RdW.base1 (by simp [kys]) (by rw [Int.toNat_natCast, Nat.mul_one]; exact hc _ _ ex)
      have rB : ∀ {bx : Bx} {hp : List Seg}, RdW ⟨w, kys [] []⟩ bx hp g' (o' + (i : Int).toNat * 1) [str y] := fun {_ _} => RdW.base1 (by simp [kys]) (by rw [Int.toNat_natCast, Nat.mul_one]; exact hc' _ _ ey)
      by_cases hxy : x = y
      · have q1 : (!decide (bl ⟨x.toArray⟩ = bl ⟨y.toArray⟩)) = false := by rw [bl_of, bl_of, decide_eq_true hxy]; rfl
        refine At.go [true] [] rfl (by and_intros <;> first | exact rA | exact rB | exact q1 | exact decide_eq_true (by omega) | exact oK) ?_
        refine At.qt [] [hR [.string { data := x.toArray }], hR [.string { data := y.toArray }]] rfl rfl (by and_intros <;> first | exact rA | exact rB | exact q1 | exact decide_eq_true (by omega) | exact oK) ?_
        refine At.go [false] [] rfl (by and_intros <;> first | exact rA | exact rB | exact q1 | exact decide_eq_true (by omega) | exact oK) ?_
        exact At.weak (ih _ _ _ _ (by omega) ⟨i + 1, rfl, by omega, fun j hj => by by_cases hji : j = i; subst hji; rw [hx, hy, hxy]; exact hno j (by omega), rfl, rfl, rfl⟩) sB
      · have q1 : (!decide (bl ⟨x.toArray⟩ = bl ⟨y.toArray⟩)) = true := by rw [bl_of, bl_of, decide_eq_false hxy]; rfl
        have hne : decide (A = B) = false := decide_eq_false fun h => by rw [h, hy] at hx; exact hxy (Option.some.inj hx).symm
        rw [hne]
        refine At.go [true] [] rfl (by and_intros <;> first | exact rA | exact rB | exact q1 | exact decide_eq_true (by omega) | exact oK) ?_
        refine At.qt [] [hR [.string { data := x.toArray }], hR [.string { data := y.toArray }]] rfl rfl (by and_intros <;> first | exact rA | exact rB | exact q1 | exact decide_eq_true (by omega) | exact oK) ?_
        refine At.go [true] [] rfl (by and_intros <;> first | exact rA | exact rB | exact q1 | exact decide_eq_true (by omega) | exact oK) ?_
        refine At.rt [] [] [] Tryz.func19 ?_
        exact ⟨rfl, rfl, rfl⟩
    · obtain rfl : i = A.length := by omega
      rw [decide_eq_true (same_no hl hno)]
      refine At.go [false] [] rfl (by and_intros <;> first | exact decide_eq_false (by omega) | exact oK) ?_
      refine At.rt [] [] [] Tryz.func19 ?_
      exact ⟨rfl, rfl, rfl⟩
  · rw [decide_eq_false (fun h => hl (by rw [h]) : ¬ A = B)]
    refine At.go [true] [] rfl (by and_intros <;> first | (simp; omega) | exact oK) ?_
    refine At.rt [] [] [] Tryz.func19 ?_
    exact ⟨rfl, rfl, rfl⟩
end Go.Proofs

/-
  Walks of layer 22 and of the statement VerifyRows.
-/
namespace Go.Proofs
open Go Go.Eng
set_option maxRecDepth 100000
set_option maxHeartbeats 4000000
attribute [local irreducible] Tri

theorem rowsK_few {S : FL} {per : Int} {n : Nat} (h : fstE (segE S per n (headsF S n).1) (headsF S n).1.length 0 = none) : ∀ k, k ≤ (headsF S n).1.length → (rowsK S k).length ≤ 64 * k
  | 0, _ => by simp [rowsK]
  | k + 1, hk => by
    have h0 := segE_zero (fstE_none h k (Nat.zero_le _) (by omega))
    have h1 := seg_few (S := S) (n := n) (show k < (headsF S n).1.length by omega) h0.1
    have ih := rowsK_few h k (by omega)
    rw [rowsK_succ, List.length_append]
    omega
theorem verF_few {S : FL} {per : Int} {n : Nat} (hS : ∀ p, p ∈ S → p.2.length ≤ 6000) : (verF S per n).R.length ≤ 384000 ∧ (verF S per n).T.length ≤ 6000 ∧ (verF S per n).H.length ≤ 6000 := by
  by_cases he : (verF S per n).e = 0
  · obtain ⟨h1, -, h2, h3, h4⟩ := verF_ok he
    have hl := headsF_few (n := (n : Int)) hS
    have := rowsK_few h2 _ (Nat.le_refl _)
    have := segF_few (k := ((headsF S n).1.length : Int)) hS
    rw [h1, h3, h4]; omega
  · obtain ⟨h1, h2, h3⟩ := verF_bad he
    rw [h1, h2, h3]; simp
theorem fnd_one (X : FndB) (gh : Option Nat) (hc : Nat) (g : Option Nat) (c : Nat) (gt : Option Nat) (tc : Nat) : ∀ u, u ∈ fndV X gh hc g c gt tc → u.oneCell' = true := by simp [fndV, Value.oneCell', sv]
/-- A place, and where what was found lies. -/
structure FndI where
  b : Nat
  gh : Option Nat
  hc : Nat
  g : Option Nat
  c : Nat
  gt : Option Nat
  tc : Nat
theorem Tryz.vRows_w (S : FL) (n : Nat) (c1 c3 c4 : Int) (fa : Option Addr) (fc : Nat) (w : World) (hlen : S.length ≤ 60) (hSb : ∀ p, p ∈ S → p.2.length ≤ 6000) (hns : ∀ p, p ∈ S → p.1.length ≤ 9223372036854775807) (hmay : mayCf c1 n c3 c4 = true) (hfr : SlOk w fa (fl S)) (hT : Tryz.Tabs w) :
    Tri Tryz.prog 18 [.slice fa S.length fc, .agg ⟨[.int .i64 c1, .int .i64 n, .int .i64 c3, .int .i64 c4]⟩] w [] (fun v bx hp => ∃ (g : Option Nat) (c : Nat) (gt : Option Nat) (tc : Nat), v = .tuple #[sv g (verF S c1 n).R.length c, sv gt (verF S c1 n).T.length tc, .int .i64 (verF S c1 n).e] ∧ bx = [] ∧ hp = [Seg.row gt 9 1 (verF S c1 n).T.length tc ((verF S c1 n).T.map str), Seg.row g 9 1 (verF S c1 n).R.length c ((verF S c1 n).R.map str)]) := by
  have hin := mayCf_in hmay
  have hn : 1 ≤ n ∧ n ≤ 32 := by omega
  have fM : ∀ {S : Base} {bx : Bx} {hp : List Seg}, CallOb Tryz.prog S bx hp 33 [.agg ⟨[.int .i64 c1, .int .i64 n, .int .i64 c3, .int .i64 c4]⟩] (.bool true) := fun {_ _ _} w' _ => by
    have := Tryz.logMay_w c1 n c3 c4 w'; rwa [hmay] at this
  have hflt := hfr.ltR
  have htlt := Tryz.tabs_lt hT
  have hbad := verF_bad (S := S) (per := c1) (n := n)
  refine Tri.enter (bx := []) (hp := []) Tryz.func18 rfl (by kernel_rfl) rfl (Own.nil w) ?_
  refine At.go [] [] rfl (by and_intros <;> first | exact fM | exact oK) ?_
  refine At.bo fun b3 hb3 => ?_
  refine At.go [false] [hB 0, hC (.bool true), hB 0] rfl (by and_intros <;> first | exact fM | exact oK) ?_
  refine At.bo fun b17 hb17 => ?_
  refine At.go [] [] rfl (by and_intros <;> first | exact fM | exact oK) ?_
  have h17 : w.heap.size ≤ b17 := hb17
  refine At.step [] rfl rfl rfl rfl rfl trivial (OpOk.callO [true, false] [] rfl rfl (fun w' hw' ho => Tryz.run_w S n c1 c3 c4 fa fc b17 w' hlen hSb hns hn (hfr.ext hw'.ext (by simp [kys])) (Tryz.tabs_ext0 hT hw'.ext) ho (fun q hq => by have := hflt q hq; omega) (fun q hq => by have := htlt q hq; omega)) ?_)
  rintro v bx hp h
  rcases h with ⟨he, rfl, ⟨cs, rfl⟩, rfl⟩ | ⟨he, gh, hc, g, c, gt, tc, rfl, rfl, rfl⟩
  · obtain ⟨-, h2, h3⟩ := hbad he
    rw [h2, h3]
    generalize (verF S c1 n).e = e at he
    refine At.go [true] [] rfl (by and_intros <;> first | (simp [he]; done) | exact oK) ?_
    refine At.nilRow 9 1 ?_
    refine At.nilRow 9 1 ?_
    refine At.rt [] [true, true] [] Tryz.func18 ?_
    exact ⟨none, 0, none, 0, rfl, rfl, rfl⟩
  · rw [he]
    generalize verF S c1 n = X at he
    refine At.go [false] [hB 0] rfl (by and_intros <;> first | (simp; done) | exact oK) ?_
    refine At.rt [false, false] [true, true, false] [] Tryz.func18 ?_
    exact ⟨g, c, gt, tc, rfl, rfl, rfl⟩
theorem Tryz.vRowsNo_w (S : FL) (n c1 c3 c4 : Int) (fa : Option Addr) (fc : Nat) (w : World) (hmay : mayCf c1 n c3 c4 = false) :
    Fun Tryz.prog 18 [.slice fa S.length fc, .agg ⟨[.int .i64 c1, .int .i64 n, .int .i64 c3, .int .i64 c4]⟩] w (.tuple #[.slice none 0 0, .slice none 0 0, .int .i64 1]) := by
  have fM : ∀ {S : Base} {bx : Bx} {hp : List Seg}, CallOb Tryz.prog S bx hp 33 [.agg ⟨[.int .i64 c1, .int .i64 n, .int .i64 c3, .int .i64 c4]⟩] (.bool false) := fun {_ _ _} w' _ => by
    have := Tryz.logMay_w c1 n c3 c4 w'; rwa [hmay] at this
  refine Tri.enter (bx := []) (hp := []) Tryz.func18 rfl (by kernel_rfl) rfl (Own.nil w) ?_
  refine At.go [] [] rfl (by and_intros <;> first | exact fM | exact oK) ?_
  refine At.bo fun b3 hb3 => ?_
  refine At.go [true] [hB 0, hC (.bool false)] rfl (by and_intros <;> first | exact fM | exact oK) ?_
  refine At.rt [] [] [] Tryz.func18 ?_
  exact ⟨rfl, rfl, rfl⟩
theorem Tryz.verifyRows_w (S : FL) (c1 n c3 c4 : Int) (fa : Option Addr) (fc : Nat) (w : World) (hlen : S.length ≤ 9223372036854775807) (hfr : SlOk w fa (fl S)) (hns : ∀ p, p ∈ S → p.1.length ≤ 9223372036854775807 ∧ p.2.length ≤ 9223372036854775807) (hT : Tryz.Tabs w) :
    Fun Tryz.prog 4 [.slice fa S.length fc, .agg ⟨[.int .i64 c1, .int .i64 n, .int .i64 c3, .int .i64 c4]⟩] w (.bool true) := by
  have hA : ∀ {bx : Bx} {hp : List Seg}, CallOb Tryz.prog ⟨w, kys [] []⟩ bx hp 10 [] (.bool true) := fun {_ _} w' hw' => Tryz.alive22_w w' (Tryz.tabs_ext0 hT hw'.ext)
  obtain ⟨gr, hgr⟩ : ∃ gr, greatF S = gr := ⟨_, rfl⟩
  have hG : ∀ {bx : Bx} {hp : List Seg}, CallOb Tryz.prog ⟨w, kys [] []⟩ bx hp 11 [.slice fa S.length fc] (.bool gr) := fun {_ _} w' hw' => by
    rw [← hgr]; exact Tryz.great09_w S fa fc w' hlen (hfr.ext hw'.ext (by simp [kys])) hns
  refine Tri.enter (bx := []) (hp := []) Tryz.func4 rfl (by kernel_rfl) rfl (Own.nil w) ?_
  cases gr with
  | true =>
    refine At.go [] [] rfl (by and_intros <;> first | exact hA | exact hG | exact oK) ?_
    refine At.bo fun b3 hb3 => ?_
    refine At.go [false, true] [hC (.bool true), hC (.bool true)] rfl (by and_intros <;> first | exact hA | exact hG | exact oK) ?_
    refine At.rt [] [] [] Tryz.func4 ?_
    exact ⟨rfl, rfl, rfl⟩
  | false =>
    obtain ⟨h60, hSb⟩ := greatF_lens hgr
    have fY : ∀ {S : Base} {bx : Bx} {hp : List Seg}, CallOb Tryz.prog S bx hp 14 [.agg ⟨[.int .i64 c1, .int .i64 n, .int .i64 c3, .int .i64 c4]⟩] (.bool (mayCf c1 n c3 c4)) := fun {_ _ _} w' _ => Tryz.r19May_w c1 n c3 c4 w'
    cases hmay : mayCf c1 n c3 c4 with
    | false =>
      rw [hmay] at fY
      have fV : ∀ {bx : Bx} {hp : List Seg}, CallOb Tryz.prog ⟨w, kys [] []⟩ bx hp 18 [.slice fa S.length fc, .agg ⟨[.int .i64 c1, .int .i64 n, .int .i64 c3, .int .i64 c4]⟩] (.tuple #[.slice none 0 0, .slice none 0 0, .int .i64 1]) := fun {_ _} w' hw' => Tryz.vRowsNo_w S n c1 c3 c4 fa fc w' hmay
      refine At.go [] [] rfl (by and_intros <;> first | exact hA | exact hG | exact fV | exact fY | (simp; done) | exact oK) ?_
      refine At.bo fun b3 hb3 => ?_
      refine At.go [false, false, true, true] [hC (.bool true), hC (.bool false), hB 0, hC (.tuple ⟨[.slice none 0 0, .slice none 0 0, .int .i64 1]⟩), hB 0, hC (.bool false)] rfl (by and_intros <;> first | exact hA | exact hG | exact fV | exact fY | (simp; done) | exact oK) ?_
      refine At.rt [] [] [] Tryz.func4 ?_
      exact ⟨rfl, rfl, rfl⟩
    | true =>
      rw [hmay] at fY
      have hin := mayCf_in hmay
      obtain ⟨N, rfl⟩ : ∃ N : Nat, n = N := ⟨n.toNat, by omega⟩
      have hV := fun (w' : World) (hw' : Ext [] w w') => Tryz.vRows_w S N c1 c3 c4 fa fc w' h60 hSb (fun p hp => (hns p hp).1) hmay (hfr.ext hw' (by simp)) (Tryz.tabs_ext0 hT hw')
      have hRv := fun (w' : World) (hw' : Ext [] w w') => Tryz.r22Verify_w S N c1 c3 c4 fa fc w' h60 hSb (fun p hp => (hns p hp).1) hmay (hfr.ext hw' (by simp))
      have hfw := verF_few (per := c1) (n := N) hSb
      generalize verF S c1 N = X at hV hRv hfw
      refine At.go [] [] rfl (by and_intros <;> first | exact hA | exact hG | exact oK) ?_
      refine At.bo fun b3 hb3 => ?_
      refine At.go [false, false] [hC (.bool true), hC (.bool false), hB 0] rfl (by and_intros <;> first | exact hA | exact hG | exact oK) ?_
      refine At.step [] rfl rfl rfl rfl rfl trivial (OpOk.call rfl (fun w' hw' => hV w' hw'.ext) ?_)
      rintro _ _ _ ⟨g, c, gt, tc, rfl, rfl, rfl⟩
      refine At.gn 13 [false] [hB 0, hC (.bool true)] rfl (by and_intros <;> first | exact fY | exact oK) ?_
      have fK : ∀ {S : Base} {bx : Bx} {hp : List Seg}, CallOb Tryz.prog S bx hp 15 [] (.agg ⟨keyC⟩) := fun {_ _ _} w' _ => Tryz.makeKeyC_w w'
      refine At.cutS (ι := FndI) ⟨0, [0, 1, 1, 1, 1, 1, 1], []⟩ (fun e => [(5, sv g X.R.length c), (6, sv gt X.T.length tc), (7, .int .i64 X.e), (8, .pointer (some ⟨e.b, 0, none⟩))])
        (fun e => [(e.b, 43, fndV X e.gh e.hc e.g e.c e.gt e.tc), (b3, 24, [.int .i64 c1, .int .i64 N, .int .i64 c3, .int .i64 c4])]) (fun e => Tryz.fndR X e.gh e.hc e.g e.c e.gt e.tc ++ [Seg.row gt 9 1 X.T.length tc (X.T.map str), Seg.row g 9 1 X.R.length c (X.R.map str)]) ?_ fun hk0 => ?_
      rotate_left
      · refine At.dr 6 ?_
        refine AtD.pu [1] 5 rfl (by and_intros <;> first | exact trivial | exact oK) ?_
        refine AtH.readsK [true] [false, false] [2] [hB 0] rfl rfl (by and_intros <;> first | exact trivial | exact oK) rfl rfl (fuel := 4) ?_
        refine AtH.fork2 0 4 (by kernel_rfl) rfl rfl rfl rfl rfl rfl (OpOk.one true [] [hC (.agg ⟨keyC⟩)] rfl fK ⟨fun w hw => hw.selK [true] [false, false], ?_⟩) (OpOk.alloc rfl rfl fun b8 hb8 => ⟨fun w hw => hw.selK [false, true] [false, false], ?_⟩)
        · refine AtH.fork2 3 4 (by kernel_rfl) rfl rfl rfl rfl rfl rfl (OpOk.call rfl (fun w' hw' => hRv w' hw'.ext) ?_) (OpOk.alloc rfl rfl fun b8 hb8 => ⟨fun w hw => hw.selK [false, true] [false, false], ?_⟩)
          · rintro _ _ _ ⟨gh2, hc2, g2, c2, gt2, tc2, rfl, rfl, rfl⟩
            refine ⟨fun w hw => hw.selK [true] [false, false, false, false, false], ?_⟩
            refine AtH.f1 4 rfl (OpOk.alloc rfl rfl fun b8 hb8 => ⟨fun w hw => hw.selK [false, true] [false, false, false, false, false], ?_⟩)
            refine AtH.f1 5 rfl (OpOk.one true [] [hB 0] rfl ⟨rfl, fnd_one X gh2 hc2 g2 c2 gt2 tc2⟩ ⟨fun w hw => hw.selK [false, true] [false, false, false, false, false], ?_⟩)
            refine AtH.dn ?_
            refine At.gn 2 [true] [hB 0, hB 0] rfl (by and_intros <;> first | exact trivial | exact oK) ?_
            exact At.weak (hk0 ⟨b8, gh2, hc2, g2, c2, gt2, tc2⟩) sB
          · refine AtH.f1 3 rfl (OpOk.call rfl (fun w' hw' => hRv w' hw'.ext) ?_)
            rintro _ _ _ ⟨gh2, hc2, g2, c2, gt2, tc2, rfl, rfl, rfl⟩
            refine ⟨fun w hw => hw.selK [false, true] [false, false, false, false, false], ?_⟩
            refine AtH.f1 5 rfl (OpOk.one true [] [hB 0] rfl ⟨rfl, fnd_one X gh2 hc2 g2 c2 gt2 tc2⟩ ⟨fun w hw => hw.selK [false, true] [false, false, false, false, false], ?_⟩)
            refine AtH.dn ?_
            refine At.gn 2 [true] [hB 0, hB 0] rfl (by and_intros <;> first | exact trivial | exact oK) ?_
            exact At.weak (hk0 ⟨b8, gh2, hc2, g2, c2, gt2, tc2⟩) sB
        · refine AtH.f1 0 rfl (OpOk.one true [] [hC (.agg ⟨keyC⟩)] rfl fK ⟨fun w hw => hw.selK [false, true] [false, false], ?_⟩)
          refine AtH.f1 3 rfl (OpOk.call rfl (fun w' hw' => hRv w' hw'.ext) ?_)
          rintro _ _ _ ⟨gh2, hc2, g2, c2, gt2, tc2, rfl, rfl, rfl⟩
          refine ⟨fun w hw => hw.selK [false, true] [false, false, false, false, false], ?_⟩
          refine AtH.f1 5 rfl (OpOk.one true [] [hB 0] rfl ⟨rfl, fnd_one X gh2 hc2 g2 c2 gt2 tc2⟩ ⟨fun w hw => hw.selK [false, true] [false, false, false, false, false], ?_⟩)
          refine AtH.dn ?_
          refine At.gn 2 [true] [hB 0, hB 0] rfl (by and_intros <;> first | exact trivial | exact oK) ?_
          exact At.weak (hk0 ⟨b8, gh2, hc2, g2, c2, gt2, tc2⟩) sB
      rintro ⟨b8, gh2, hc2, g2, c2, gt2, tc2⟩
      dsimp only
      have fS : ∀ {bx : Bx} {hp : List Seg}, nth hp 4 = some (Seg.row g 9 1 X.R.length c (X.R.map str)) → nth hp 1 = some (Seg.row g2 9 1 X.R.length c2 (X.R.map str)) → CallOb Tryz.prog ⟨w, kys [] []⟩ bx hp 19 [.slice (svA g) X.R.length c, .slice (svA g2) X.R.length c2] (.bool true) := fun {_ _} h1 h2 w' hw' => by
        have := Tryz.same03_w X.R X.R (svA g) (svA g2) c c2 w' (by omega) (by omega) (SlOk.row (hw'.hp _ (nth_mem h1))) (SlOk.row (hw'.hp _ (nth_mem h2)))
        rwa [decide_eq_true rfl] at this
      have fS2 : ∀ {bx : Bx} {hp : List Seg}, nth hp 3 = some (Seg.row gt 9 1 X.T.length tc (X.T.map str)) → nth hp 0 = some (Seg.row gt2 9 1 X.T.length tc2 (X.T.map str)) → CallOb Tryz.prog ⟨w, kys [] []⟩ bx hp 19 [.slice (svA gt) X.T.length tc, .slice (svA gt2) X.T.length tc2] (.bool true) := fun {_ _} h1 h2 w' hw' => by
        have := Tryz.same03_w X.T X.T (svA gt) (svA gt2) tc tc2 w' (by omega) (by omega) (SlOk.row (hw'.hp _ (nth_mem h1))) (SlOk.row (hw'.hp _ (nth_mem h2)))
        rwa [decide_eq_true rfl] at this
      refine At.go [true, true] [hB 0, hB 0, hC (.bool true), hB 0, hC (.bool true)] rfl (by and_intros <;> first | exact fS rfl rfl | exact fS2 rfl rfl | (simp; done) | exact oK) ?_
      refine At.rt [] [] [] Tryz.func4 ?_
      exact ⟨rfl, rfl, rfl⟩
end Go.Proofs

/-
  Plain laws: the rows of sealed segments, each as many; a row's place.
-/
namespace Go.Proofs
open Go Go.Eng
set_option maxRecDepth 100000
set_option maxHeartbeats 4000000
attribute [local irreducible] Tri

theorem rowsK_per {S : FL} {P n : Nat} {H : List HdB} (h : fstE (segE S P n H) H.length 0 = none) : ∀ k, k ≤ H.length → (rowsK S k).length = P * k
  | 0, _ => by simp [rowsK]
  | k + 1, hk => by
    have h0 := segE_zero (fstE_none h k (Nat.zero_le _) (by omega))
    have ih := rowsK_per h k (by omega)
    have h1 : (segF S k).1.length = P := by have h2 := h0.2.1; have h3 := h0.2.2.2.1; omega
    rw [rowsK_succ, List.length_append, ih, h1, Nat.mul_succ]
theorem rowsK_more (S : FL) (k : Nat) : ∀ j, ∃ r, rowsK S (k + j) = rowsK S k ++ r
  | 0 => ⟨[], by simp⟩
  | j + 1 => by
    obtain ⟨r, hr⟩ := rowsK_more S k j
    exact ⟨r ++ (segF S ((k + j : Nat) : Int)).1, by rw [← Nat.add_assoc, rowsK_succ, hr, List.append_assoc]⟩
/-- Where a row of sealed segments lies. -/
structure PlaceOk (S : FL) (P n i : Nat) (R : List (List UInt8)) (H : List HdB) : Prop where
  kH : i / P < H.length
  seg : (R.drop (i / P * P)).take P = (segF S ((i / P : Nat) : Int)).1
  len : (segF S ((i / P : Nat) : Int)).1.length = P
  fit : (i / P + 1) * P ≤ R.length
  row : R[i]? = (segF S ((i / P : Nat) : Int)).1[i % P]?
  root : rootB n (segF S ((i / P : Nat) : Int)).1 = (hdAt H (i / P)).r
  can : mayH (hdAt H (i / P)) n = true
theorem placeOk {S : FL} {P n i : Nat} (hP : 1 ≤ P) (he : (verF S P n).e = 0) (hi : i < (verF S P n).R.length) : PlaceOk S P n i (verF S P n).R (verF S P n).H := by
  obtain ⟨h1, -, h2, h3, -⟩ := verF_ok he
  have hl := rowsK_per h2 _ (Nat.le_refl _)
  rw [h3] at hi ⊢
  rw [h1]
  generalize (headsF S n).1 = H at *
  have hk : i / P < H.length := Nat.div_lt_of_lt_mul (by rw [← hl]; exact hi)
  have h0 := segE_zero (fstE_none h2 (i / P) (Nat.zero_le _) (by omega))
  have hs : (segF S ((i / P : Nat) : Int)).1.length = P := by have h4 := h0.2.1; have h5 := h0.2.2.2.1; omega
  have hm : i % P < P := Nat.mod_lt _ (by omega)
  have hd : i = P * (i / P) + i % P := (Nat.div_add_mod i P).symm
  have hc := chB_may h0.1 (hdAt H (i / P)) (List.mem_of_getElem? (i := i / P) (by rw [List.getElem?_take_of_lt (by omega), hdAt_get hk]))
  obtain ⟨r, hr⟩ := rowsK_more S (i / P + 1) (H.length - (i / P + 1))
  rw [show i / P + 1 + (H.length - (i / P + 1)) = H.length by omega, rowsK_succ] at hr
  obtain ⟨k, hk'⟩ : ∃ k, i / P = k := ⟨_, rfl⟩
  obtain ⟨j, hj'⟩ : ∃ j, i % P = j := ⟨_, rfl⟩
  have hkl : (rowsK S k).length = P * k := by
    subst hk'
    have e : rowsK S H.length = (rowsK S (i / P) ++ (segF S ((i / P : Nat) : Int)).1) ++ r := hr
    exact rowsK_per h2 _ (by omega)
  rw [hk'] at hk h0 hs hd hc hr
  rw [hj'] at hm hd
  have hR : rowsK S H.length = rowsK S k ++ ((segF S (k : Int)).1 ++ r) := by rw [hr, List.append_assoc]
  refine ⟨by rw [hk']; exact hk, ?_, by rw [hk']; exact hs, ?_, ?_, by rw [hk']; exact h0.2.2.2.2.2, by rw [hk']; exact hc⟩
  · rw [hk', hR, show k * P = (rowsK S k).length by rw [hkl, Nat.mul_comm], List.drop_left, ← hs, List.take_left]
  · rw [hk', hR, List.length_append, List.length_append, hs, hkl, Nat.add_mul, Nat.mul_comm]; omega
  · rw [hk', hj', hR, List.getElem?_append_right (by rw [hkl]; omega), List.getElem?_append_left (by rw [hkl]; omega), hkl]
    congr 1; omega
end Go.Proofs

/-
  Walks of layer 22: Inclusion.
-/
namespace Go.Proofs
open Go Go.Eng
set_option maxRecDepth 100000
set_option maxHeartbeats 4000000
attribute [local irreducible] Tri

theorem Tryz.inclNo_w (S : FL) (n c1 c3 c4 i : Int) (fa : Option Addr) (fc : Nat) (w : World) (hmay : mayCf c1 n c3 c4 = false) :
    Fun Tryz.prog 23 [.slice fa S.length fc, .agg ⟨[.int .i64 c1, .int .i64 n, .int .i64 c3, .int .i64 c4]⟩, .int .i64 i] w (.tuple #[.agg ⟨hdC hd0⟩, .slice none 0 0, .int .i64 1]) := by
  have fV : ∀ {bx : Bx} {hp : List Seg}, CallOb Tryz.prog ⟨w, kys [] []⟩ bx hp 18 [.slice fa S.length fc, .agg ⟨[.int .i64 c1, .int .i64 n, .int .i64 c3, .int .i64 c4]⟩] (.tuple #[.slice none 0 0, .slice none 0 0, .int .i64 1]) := fun {_ _} w' hw' => Tryz.vRowsNo_w S n c1 c3 c4 fa fc w' hmay
  refine Tri.enter (bx := []) (hp := []) Tryz.func23 rfl (by kernel_rfl) rfl (Own.nil w) ?_
  refine At.go [] [] rfl (by and_intros <;> first | exact fV | (simp; done) | exact oK) ?_
  refine At.bo fun b4 hb4 => ?_
  refine At.al fun b6 hb6 => ?_
  refine At.go [true] [hB 1, hC (.tuple ⟨[.slice none 0 0, .slice none 0 0, .int .i64 1]⟩), hB 0] rfl (by and_intros <;> first | exact fV | (simp; done) | exact oK) ?_
  refine At.rt [] [] [hB 0] Tryz.func23 ?_
  exact ⟨rfl, rfl, rfl⟩
theorem Tryz.inclBad_w (S : FL) (n : Nat) (c1 c3 c4 i : Int) (fa : Option Addr) (fc : Nat) (w : World) (hlen : S.length ≤ 60) (hSb : ∀ p, p ∈ S → p.2.length ≤ 6000) (hns : ∀ p, p ∈ S → p.1.length ≤ 9223372036854775807) (hmay : mayCf c1 n c3 c4 = true) (hfr : SlOk w fa (fl S)) (hT : Tryz.Tabs w) (hx : (verF S c1 n).e ≠ 0 ∨ i < 0 ∨ (verF S c1 n).R.length ≤ i) :
    Tri Tryz.prog 23 [.slice fa S.length fc, .agg ⟨[.int .i64 c1, .int .i64 n, .int .i64 c3, .int .i64 c4]⟩, .int .i64 i] w [] (fun v bx hp => v = .tuple #[.agg ⟨hdC hd0⟩, .slice none 0 0, .int .i64 (if (verF S c1 n).e = 0 then 11 else (verF S c1 n).e)] ∧ bx = [] ∧ hp = []) := by
  have hV := fun (w' : World) (hw' : Ext [] w w') => Tryz.vRows_w S n c1 c3 c4 fa fc w' hlen hSb hns hmay (hfr.ext hw' (by simp)) (Tryz.tabs_ext0 hT hw')
  have hfw := verF_few (per := c1) (n := n) hSb
  generalize verF S c1 n = X at hV hfw hx ⊢
  refine Tri.enter (bx := []) (hp := []) Tryz.func23 rfl (by kernel_rfl) rfl (Own.nil w) ?_
  refine At.go [] [] rfl (by and_intros <;> first | exact trivial | exact oK) ?_
  refine At.bo fun b4 hb4 => ?_
  refine At.al fun b6 hb6 => ?_
  refine At.go [] [hB 1] rfl (by and_intros <;> first | exact trivial | exact oK) ?_
  refine At.step [] rfl rfl rfl rfl rfl trivial (OpOk.call rfl (fun w' hw' => hV w' hw'.ext) ?_)
  rintro _ _ _ ⟨g, c, gt, tc, rfl, rfl, rfl⟩
  by_cases he : X.e = 0
  · rw [he]
    by_cases h0 : i < 0
    · refine At.go [false, true, true] [hB 0] rfl (by and_intros <;> first | exact decide_eq_true h0 | (simp; done) | exact oK) ?_
      refine At.rt [] [] [hB 0] Tryz.func23 ?_
      exact ⟨rfl, rfl, rfl⟩
    · have h1 : (X.R.length : Int) ≤ i := by rcases hx with h | h | h <;> omega
      refine At.go [false, false, true] [hB 0] rfl (by and_intros <;> first | exact decide_eq_true h1 | exact decide_eq_false h0 | (simp; done) | exact oK) ?_
      refine At.rt [] [] [hB 0] Tryz.func23 ?_
      exact ⟨rfl, rfl, rfl⟩
  · rw [if_neg he]
    refine At.go [true] [hB 0] rfl (by and_intros <;> first | (simp [he]; done) | exact oK) ?_
    refine At.rt [] [] [hB 0] Tryz.func23 ?_
    exact ⟨rfl, rfl, rfl⟩
theorem Tryz.incl_w (S : FL) (n P i : Nat) (c3 c4 : Int) (fa : Option Addr) (fc : Nat) (w : World) (hlen : S.length ≤ 60) (hSb : ∀ p, p ∈ S → p.2.length ≤ 6000) (hns : ∀ p, p ∈ S → p.1.length ≤ 9223372036854775807) (hmay : mayCf P n c3 c4 = true) (hfr : SlOk w fa (fl S)) (hT : Tryz.Tabs w) (he : (verF S P n).e = 0) (hi : i < (verF S P n).R.length) :
    Tri Tryz.prog 23 [.slice fa S.length fc, .agg ⟨[.int .i64 P, .int .i64 n, .int .i64 c3, .int .i64 c4]⟩, .int .i64 i] w [] (fun v bx hp => ∃ (g : Option Nat) (c : Nat), v = .tuple #[.agg ⟨hdC (hdAt (verF S P n).H (i / P))⟩, sv g (proofB n (segF S ((i / P : Nat) : Int)).1 (i % P)).length c, .int .i64 0] ∧ bx = [] ∧ hp = [Seg.row g 9 1 (proofB n (segF S ((i / P : Nat) : Int)).1 (i % P)).length c ((proofB n (segF S ((i / P : Nat) : Int)).1 (i % P)).map str)]) := by
  have hin := mayCf_in hmay
  have hpl := placeOk (by omega) he hi
  have hV := fun (w' : World) (hw' : Ext [] w w') => Tryz.vRows_w S n P c3 c4 fa fc w' hlen hSb hns hmay (hfr.ext hw' (by simp)) (Tryz.tabs_ext0 hT hw')
  have fHd := fun (w' : World) (hw' : Ext [] w w') => Tryz.imHeaders_w S P n c3 c4 fa fc w' hlen hSb (hfr.ext hw' (by simp))
  have hfw := verF_few (per := P) (n := n) hSb
  have hxs := fun x hx => @segF_mem S ((i / P : Nat) : Int) hSb x hx
  rw [← (verF_ok he).1] at fHd
  generalize verF S P n = X at hV hfw he hi hpl fHd ⊢
  obtain ⟨X1, X2, X3, X4, X5⟩ := X
  dsimp only at he hi hpl hfw fHd ⊢
  subst he
  dsimp only at hV
  have hkk : Int.tdiv (i : Int) (P : Int) = ((i / P : Nat) : Int) := rfl
  have hjj : Int.tmod (i : Int) (P : Int) = ((i % P : Nat) : Int) := rfl
  have hjP : i % P < P := Nat.mod_lt _ (by omega)
  obtain ⟨k, hk⟩ : ∃ k, i / P = k := ⟨_, rfl⟩
  obtain ⟨j, hj⟩ : ∃ j, i % P = j := ⟨_, rfl⟩
  obtain ⟨pH, pS, pL, pF, -, -, -⟩ := hpl
  rw [hk] at pH pS pL pF hxs hkk ⊢
  rw [hj] at hjj hjP ⊢
  generalize (segF S (k : Int)).1 = l at pS pL hxs ⊢
  refine Tri.enter (bx := []) (hp := []) Tryz.func23 rfl (by kernel_rfl) rfl (Own.nil w) ?_
  refine At.go [] [] rfl (by and_intros <;> first | exact trivial | exact oK) ?_
  refine At.bo fun b4 hb4 => ?_
  refine At.al fun b6 hb6 => ?_
  refine At.go [] [hB 1] rfl (by and_intros <;> first | exact trivial | exact oK) ?_
  refine At.step [] rfl rfl rfl rfl rfl trivial (OpOk.call rfl (fun w' hw' => hV w' hw'.ext) ?_)
  rintro _ _ _ ⟨g, c, gt, tc, rfl, rfl, rfl⟩
  refine At.go [false, false, false] [hB 1] rfl (by and_intros <;> first | exact decide_eq_false (by omega) | (simp; done) | exact oK) ?_
  refine At.step [] rfl rfl rfl rfl rfl trivial (OpOk.call rfl (fun w' hw' => fHd w' hw'.ext) ?_)
  rintro _ _ _ ⟨gH, cH, rfl, rfl, rfl⟩
  refine At.gn 7 [] [hB 1] rfl (by and_intros <;> first | exact decide_eq_false (by omega) | (simp; done) | exact oK) ?_
  rw [show (i : Int) / (P : Int) = ((k : Nat) : Int) from by rw [← hk]; rfl]
  refine At.rowCap 2 rfl fun hcp => ?_
  refine At.rowSome 2 rfl (by omega) fun q hq => ?_
  subst hq
  obtain ⟨A, hA⟩ : ∃ A, k * P = A := ⟨_, rfl⟩
  have hA1 : (k : Int) * (P : Int) = (A : Int) := by rw [← hA]; simp
  have hA2 : ((k : Int) + 1) * (P : Int) = ((A + P : Nat) : Int) := by rw [Int.add_mul, hA1]; simp
  have hA3 : A + P ≤ X2.length := by rw [Nat.add_mul, hA] at pF; omega
  rw [hA] at pS
  have hA4 : ((((k : Int) + 1) * (P : Int)).toNat - ((k : Int) * (P : Int)).toNat) = l.length := by rw [hA1, hA2, pL]; omega
  have hPr : ∀ (w' : World), Ext [] w w' → SlOk w' (svA (some q)) (X2.map str) → Tri Tryz.prog 50 [.slice (some ⟨q, 0 + ((k : Int) * (P : Int)).toNat * 1, none⟩) ((((k : Int) + 1) * (P : Int)).toNat - ((k : Int) * (P : Int)).toNat) (c - ((k : Int) * (P : Int)).toNat), .int .i64 (Int.tmod (i : Int) (P : Int)), .int .i64 n] w' [] (fun v bx hp => ∃ (g : Option Nat) (c : Nat), v = .tuple #[sv g (proofB n l j).length c, .int .i64 0] ∧ bx = [] ∧ hp = [Seg.row g 9 1 (proofB n l j).length c ((proofB n l j).map str)]) := fun w' hw' hs => by
    rw [hA4, hA1, hjj]
    have hs2 := SlOk.rowsT P (SlOk.rowsD A hs)
    rw [pS] at hs2
    have := Tryz.tProof_w n (by omega) l j (some ⟨q, 0 + A, none⟩) (c - A) w' (by omega) (by omega) (by omega) (fun x h => by have := hxs x h; omega) hs2 (Tryz.tabs_ext0 hT hw').1
    simpa using this
  refine At.dr 23 ?_
  refine AtH.readsK [false, true] [false, false, false] [0, 1, 2, 3, 4, 5, 6, 7, 8, 9, 10, 11, 12, 13, 14, 15, 16] [hB 0, hB 0, hB 0, hB 0] rfl rfl (by and_intros <;> first | omega | exact oK) rfl rfl (fuel := 6) ?_
  refine AtH.f1 17 rfl (OpOk.call rfl (fun w' hw' => hPr w' hw'.ext (SlOk.row (hw'.hp _ (nth_mem (i := 2) rfl)))) ?_)
  rintro _ _ _ ⟨g3, c3', rfl, rfl, rfl⟩
  refine ⟨fun w hw => hw.selK [false, true] [false, false, false, false], ?_⟩
  refine AtH.reK [18, 19, 20, 21, 22] [] rfl oK rfl rfl (fuel := 0) ?_
  refine AtH.dn ?_
  have hH := hdAt_get pH
  obtain ⟨x, hx⟩ : ∃ x, hdAt X1 k = x := ⟨_, rfl⟩
  rw [hx] at hH ⊢
  refine At.rowSome 1 rfl (by omega) fun qh hqh => ?_
  subst hqh
  have rX : ∀ {bx : Bx} {hp : List Seg}, nth hp 1 = some (Seg.row (some qh) 55 6 X1.length cH (X1.flatMap hdC)) → RdW ⟨w, kys [] []⟩ bx hp qh (0 + (k : Int).toNat * 6) (hdC x) := fun {_ _} h => RdW.row h fun j u hu => by
    rw [show 0 + (k : Int).toNat * 6 + j = k * 6 + j by omega]
    exact flat_get (f := hdC) (sz := 6) (fun _ _ => rfl) hH j u hu
  refine At.go [] [hR [.int .i64 x.i, .int .i64 x.f, .int .i64 x.c, .int .i64 x.b, .string { data := x.p.toArray }, .string { data := x.r.toArray }], hB 0] rfl (by and_intros <;> first | exact rX rfl | exact decide_eq_true (by omega) | exact oK) ?_
  refine At.rt [] [true] [hB 0] Tryz.func23 ?_
  exact ⟨g3, c3', rfl, rfl, rfl⟩
end Go.Proofs

/-
  Walk of the statement VerifyIncludes.
-/
namespace Go.Proofs
open Go Go.Eng
set_option maxRecDepth 100000
set_option maxHeartbeats 4000000
attribute [local irreducible] Tri

theorem proofB_mem {n : Nat} (hn : n ≤ 32) : ∀ (m : Nat) (l : List (List UInt8)) (k : Nat), l.length ≤ m → ∀ x, x ∈ proofB n l k → x.length = n
  | 0, l, k, h, x, hx => by rw [proofB_few n (by omega)] at hx; cases hx
  | m + 1, l, k, h, x, hx => by
    by_cases h2 : l.length < 2
    · rw [proofB_few n h2] at hx; cases hx
    have hs := splN_in (c := l.length) (by omega)
    by_cases hk : k < splN l.length
    · rw [proofB_left n (by omega) hk] at hx
      rcases List.mem_append.1 hx with h3 | h3
      · exact proofB_mem hn m _ _ (by rw [List.length_take]; omega) x h3
      · rw [List.mem_singleton.1 h3]; exact rootB_len hn _
    · rw [proofB_right n (by omega) hk] at hx
      rcases List.mem_append.1 hx with h3 | h3
      · exact proofB_mem hn m _ _ (by rw [List.length_drop]; omega) x h3
      · rw [List.mem_singleton.1 h3]; exact rootB_len hn _
theorem Tryz.verifyIncludes_w (S : FL) (c1 n c3 c4 i : Int) (fa : Option Addr) (fc : Nat) (w : World) (hlen : S.length ≤ 9223372036854775807) (hfr : SlOk w fa (fl S)) (hns : ∀ p, p ∈ S → p.1.length ≤ 9223372036854775807 ∧ p.2.length ≤ 9223372036854775807) (hT : Tryz.Tabs w) :
    Fun Tryz.prog 6 [.slice fa S.length fc, .agg ⟨[.int .i64 c1, .int .i64 n, .int .i64 c3, .int .i64 c4]⟩, .int .i64 i] w (.bool true) := by
  have hA : ∀ {bx : Bx} {hp : List Seg}, CallOb Tryz.prog ⟨w, kys [] []⟩ bx hp 10 [] (.bool true) := fun {_ _} w' hw' => Tryz.alive22_w w' (Tryz.tabs_ext0 hT hw'.ext)
  obtain ⟨gr, hgr⟩ : ∃ gr, greatF S = gr := ⟨_, rfl⟩
  have hG : ∀ {bx : Bx} {hp : List Seg}, CallOb Tryz.prog ⟨w, kys [] []⟩ bx hp 11 [.slice fa S.length fc] (.bool gr) := fun {_ _} w' hw' => by
    rw [← hgr]; exact Tryz.great09_w S fa fc w' hlen (hfr.ext hw'.ext (by simp [kys])) hns
  refine Tri.enter (bx := []) (hp := []) Tryz.func6 rfl (by kernel_rfl) rfl (Own.nil w) ?_
  cases gr with
  | true =>
    refine At.go [] [] rfl (by and_intros <;> first | exact hA | exact hG | exact oK) ?_
    refine At.bo fun b4 hb4 => ?_
    refine At.go [false, true] [hC (.bool true), hC (.bool true)] rfl (by and_intros <;> first | exact hA | exact hG | exact oK) ?_
    refine At.rt [] [] [] Tryz.func6 ?_
    exact ⟨rfl, rfl, rfl⟩
  | false =>
    obtain ⟨h60, hSb⟩ := greatF_lens hgr
    have fY : ∀ {S : Base} {bx : Bx} {hp : List Seg}, CallOb Tryz.prog S bx hp 14 [.agg ⟨[.int .i64 c1, .int .i64 n, .int .i64 c3, .int .i64 c4]⟩] (.bool (mayCf c1 n c3 c4)) := fun {_ _ _} w' _ => Tryz.r19May_w c1 n c3 c4 w'
    cases hmay : mayCf c1 n c3 c4 with
    | false =>
      rw [hmay] at fY
      have fV : ∀ {bx : Bx} {hp : List Seg}, CallOb Tryz.prog ⟨w, kys [] []⟩ bx hp 23 [.slice fa S.length fc, .agg ⟨[.int .i64 c1, .int .i64 n, .int .i64 c3, .int .i64 c4]⟩, .int .i64 i] (.tuple #[.agg ⟨hdC hd0⟩, .slice none 0 0, .int .i64 1]) := fun {_ _} w' hw' => Tryz.inclNo_w S n c1 c3 c4 i fa fc w' hmay
      simp only [hdC, hd0] at fV
      refine At.go [] [] rfl (by and_intros <;> first | exact hA | exact hG | exact fV | exact fY | (simp; done) | (simp [Value.oneCell', str]; done) | exact oK) ?_
      refine At.bo fun b4 hb4 => ?_
      refine At.go [false, false] [hC (.bool true), hC (.bool false), hB 0, hC (.tuple { toList := [.agg { toList := [.int .i64 0, .int .i64 0, .int .i64 0, .int .i64 0, .string { data := #[] }, .string { data := #[] }] }, .slice none 0 0, .int .i64 1] })] rfl (by and_intros <;> first | exact hA | exact hG | exact fV | exact fY | (simp; done) | (simp [Value.oneCell', str]; done) | exact oK) ?_
      refine At.al fun b7 hb7 => ?_
      refine At.go [true, true, true] [hB 0, hB 1, hC (.bool false), hB 0] rfl (by and_intros <;> first | exact hA | exact hG | exact fV | exact fY | (simp; done) | (simp [Value.oneCell']; done) | exact oK) ?_
      refine At.rt [] [] [] Tryz.func6 ?_
      exact ⟨rfl, rfl, rfl⟩
    | true =>
      rw [hmay] at fY
      have hin := mayCf_in hmay
      obtain ⟨N, rfl⟩ : ∃ N : Nat, n = N := ⟨n.toNat, by omega⟩
      obtain ⟨P, rfl⟩ : ∃ P : Nat, c1 = P := ⟨c1.toNat, by omega⟩
      have hRv := fun (w' : World) (hw' : Ext [] w w') => Tryz.r22Verify_w S N P c3 c4 fa fc w' h60 hSb (fun p hp => (hns p hp).1) hmay (hfr.ext hw' (by simp))
      have fK : ∀ {S : Base} {bx : Bx} {hp : List Seg}, CallOb Tryz.prog S bx hp 15 [] (.agg ⟨keyC⟩) := fun {_ _ _} w' _ => Tryz.makeKeyC_w w'
      by_cases hx : (verF S P N).e ≠ 0 ∨ i < 0 ∨ ((verF S P N).R.length : Int) ≤ i
      · have hI := fun (w' : World) (hw' : Ext [] w w') => Tryz.inclBad_w S N P c3 c4 i fa fc w' h60 hSb (fun p hp => (hns p hp).1) hmay (hfr.ext hw' (by simp)) (Tryz.tabs_ext0 hT hw') hx
        generalize verF S P N = X at hI hRv hx
        obtain ⟨E, hE⟩ : ∃ E : Int, (if X.e = 0 then (11 : Int) else X.e) = E := ⟨_, rfl⟩
        simp only [hdC, hd0] at hI
        rw [hE] at hI
        refine At.go [] [] rfl (by and_intros <;> first | exact hA | exact hG | exact oK) ?_
        refine At.bo fun b4 hb4 => ?_
        refine At.go [false, false] [hC (.bool true), hC (.bool false), hB 0] rfl (by and_intros <;> first | exact hA | exact hG | exact oK) ?_
        refine At.step [] rfl rfl rfl rfl rfl trivial (OpOk.call rfl (fun w' hw' => hI w' hw'.ext) ?_)
        rintro _ _ _ ⟨rfl, rfl, rfl⟩
        refine At.go [] [] rfl (by and_intros <;> first | exact fY | (simp; done) | (simp; done) | exact oK) ?_
        refine At.al fun b7 hb7 => ?_
        refine At.gn 13 [false] [hB 0, hB 1, hC (.bool true), hC (.agg { toList := keyC })] rfl (by and_intros <;> first | exact fY | (simp [Value.oneCell', str]; done) | (simp; done) | exact oK) ?_
        refine At.go [] [hC (.agg ⟨keyC⟩)] rfl (by and_intros <;> first | exact fK | exact oK) ?_
        refine At.al fun b10 hb10 => ?_
        refine At.step0 [] rfl rfl rfl rfl trivial (OpOk.storeBlk 0 rfl rfl rfl Tryz.key_cells key_ones rfl (by rw [keyC_len]; decide) ?_)
        rw [key_put rfl]
        refine At.go [] [hK (.agg { toList := keyC }), hB 2] rfl (by and_intros <;> first | exact Tryz.key_ld (i := 0) rfl | exact oK) ?_
        refine At.step [] rfl rfl rfl rfl rfl trivial (OpOk.call rfl (fun w' hw' => hRv w' hw'.ext) ?_)
        rintro _ _ _ ⟨gh, hc, g, c, gt, tc, rfl, rfl, rfl⟩
        by_cases he : X.e = 0
        · rw [if_pos he] at hE
          subst hE
          by_cases h0 : i < 0
          · refine At.al fun b11 hb11 => ?_
            refine At.go [false, true, true, true, true, true] [hB 0, hB 0, hB 0, hB 2] rfl (by and_intros <;> first | (simp [Value.oneCell', sv, fndV, he, h0]; done) | exact oK) ?_
            refine At.rt [] [] [] Tryz.func6 ?_
            exact ⟨rfl, rfl, rfl⟩
          · have h1 : (X.R.length : Int) ≤ i := by rcases hx with h | h | h <;> omega
            refine At.al fun b11 hb11 => ?_
            refine At.go [false, false, true, true, true, true] [hB 0, hB 0, hB 0, hB 0, hB 2] rfl (by and_intros <;> first | (simp [Value.oneCell', sv, fndV, he, h0, h1]; done) | exact oK) ?_
            refine At.rt [] [] [] Tryz.func6 ?_
            exact ⟨rfl, rfl, rfl⟩
        · rw [if_neg he] at hE
          subst hE
          refine At.al fun b11 hb11 => ?_
          refine At.go [true, true, true, false, true, true] [hB 0, hB 0, hB 0, hB 2] rfl (by and_intros <;> first | (simp [Value.oneCell', sv, fndV, he]; done) | exact oK) ?_
          refine At.rt [] [] [] Tryz.func6 ?_
          exact ⟨by simp [tupV], rfl, rfl⟩
      · have he : (verF S P N).e = 0 := Classical.byContradiction fun h => hx (.inl h)
        have h0 : ¬ i < 0 := fun h => hx (.inr (.inl h))
        have h1 : ¬ ((verF S P N).R.length : Int) ≤ i := fun h => hx (.inr (.inr h))
        obtain ⟨i, rfl⟩ : ∃ j : Nat, i = j := ⟨i.toNat, by omega⟩
        have hi : i < (verF S P N).R.length := by omega
        have hpl := placeOk (by omega) he hi
        have hI := fun (w' : World) (hw' : Ext [] w w') => Tryz.incl_w S N P i c3 c4 fa fc w' h60 hSb (fun p hp => (hns p hp).1) hmay (hfr.ext hw' (by simp)) (Tryz.tabs_ext0 hT hw') he hi
        have hfw := verF_few (per := P) (n := N) hSb
        have hxs := fun x hx => @segF_mem S ((i / P : Nat) : Int) hSb x hx
        generalize verF S P N = X at hI hRv he hi h1 hpl hfw
        clear hx
        obtain ⟨X1, X2, X3, X4, X5⟩ := X
        simp only [fndV, Tryz.fndR] at hRv
        dsimp only at he hi h1 hpl hfw hI hRv
        subst he
        have hkk : Int.tdiv (i : Int) (P : Int) = ((i / P : Nat) : Int) := rfl
        have hjj : Int.tmod (i : Int) (P : Int) = ((i % P : Nat) : Int) := rfl
        have hjP : i % P < P := Nat.mod_lt _ (by omega)
        obtain ⟨k, hk⟩ : ∃ k, i / P = k := ⟨_, rfl⟩
        obtain ⟨j, hj⟩ : ∃ j, i % P = j := ⟨_, rfl⟩
        obtain ⟨pH, pS, pL, pF, pR, pT, pC⟩ := hpl
        rw [hk] at pH pS pL pF hxs hkk hI pR pT pC
        rw [hj] at hjj hjP hI pR
        generalize (segF S (k : Int)).1 = l at pS pL hxs hI pR pT
        obtain ⟨x, hxk⟩ : ∃ x, hdAt X1 k = x := ⟨_, rfl⟩
        have hH := hdAt_get pH
        rw [hxk] at hH pT pC hI
        simp only [hdC] at hI
        refine At.go [] [] rfl (by and_intros <;> first | exact hA | exact hG | exact oK) ?_
        refine At.bo fun b4 hb4 => ?_
        refine At.go [false, false] [hC (.bool true), hC (.bool false), hB 0] rfl (by and_intros <;> first | exact hA | exact hG | exact oK) ?_
        refine At.step [] rfl rfl rfl rfl rfl trivial (OpOk.call rfl (fun w' hw' => hI w' hw'.ext) ?_)
        rintro _ _ _ ⟨g1, k1, rfl, rfl, rfl⟩
        refine At.go [] [] rfl (by and_intros <;> first | exact fY | (simp; done) | (simp; done) | exact oK) ?_
        refine At.al fun b7 hb7 => ?_
        refine At.gn 13 [false] [hB 0, hB 1, hC (.bool true), hC (.agg { toList := keyC })] rfl (by and_intros <;> first | exact fY | (simp [Value.oneCell', str]; done) | (simp; done) | exact oK) ?_
        refine At.go [] [hC (.agg ⟨keyC⟩)] rfl (by and_intros <;> first | exact fK | exact oK) ?_
        refine At.al fun b10 hb10 => ?_
        refine At.step0 [] rfl rfl rfl rfl trivial (OpOk.storeBlk 0 rfl rfl rfl Tryz.key_cells key_ones rfl (by rw [keyC_len]; decide) ?_)
        rw [key_put rfl]
        refine At.go [] [hK (.agg { toList := keyC }), hB 2] rfl (by and_intros <;> first | exact Tryz.key_ld (i := 0) rfl | exact oK) ?_
        refine At.step [] rfl rfl rfl rfl rfl trivial (OpOk.call rfl (fun w' hw' => hRv w' hw'.ext) ?_)
        rintro _ _ _ ⟨gh, hc, g, c, gt, tc, rfl, rfl, rfl⟩
        refine At.rowCap 1 rfl fun hcp => ?_
        refine At.rowSome 1 rfl (by omega) fun q hq => ?_
        subst hq
        refine At.rowSome 2 rfl (by omega) fun qh hqh => ?_
        subst hqh
        have hkk2 : (i : Int) / (P : Int) = ((k : Nat) : Int) := by rw [← hk]; rfl
        obtain ⟨A, hA'⟩ : ∃ A, k * P = A := ⟨_, rfl⟩
        have hA1 : (k : Int) * (P : Int) = (A : Int) := by rw [← hA']; simp
        have hA2 : ((k : Int) + 1) * (P : Int) = ((A + P : Nat) : Int) := by rw [Int.add_mul, hA1]; simp
        have hA3 : A + P ≤ X2.length := by rw [Nat.add_mul, hA'] at pF; omega
        have rX : ∀ {bx : Bx} {hp : List Seg}, nth hp 2 = some (Seg.row (some qh) 55 6 X1.length hc (X1.flatMap hdC)) → RdW ⟨w, kys [] []⟩ bx hp qh (0 + (k : Int).toNat * 6) (hdC x) := fun {_ _} h => RdW.row h fun j u hu => by
          rw [show 0 + (k : Int).toNat * 6 + j = k * 6 + j by omega]
          exact flat_get (f := hdC) (sz := 6) (fun _ _ => rfl) hH j u hu
        have d0 : decide ((i : Int) < 0) = false := decide_eq_false h0
        have d1 : decide ((X2.length : Int) ≤ (i : Int)) = false := decide_eq_false h1
        refine At.al fun b11 hb11 => ?_
        refine At.gn 17 [false, false, false] [hB 0, hB 0, hB 0, hB 3, hB 0, hB 3, hB 3] rfl (by and_intros <;> first | (simp [Value.oneCell', sv]; done) | exact d0 | exact d1 | exact oK) ?_
        rw [hkk2]
        refine At.gn 5 [] [hB 0, hB 3, hB 3] rfl (by and_intros <;> first | omega | exact oK) ?_
        refine At.dr 25 ?_
        refine AtD.lx [0, 1, 2, 3, 4, 5, 6, 7, 8, 9, 10, 11] 13 [false] [hB 2, hB 0, hR (hdC x)] rfl (by and_intros <;> first | exact rX rfl | (simp; done) | omega | exact oK) ?_
        refine AtD.pureG (i := 12) true [false] (by kernel_rfl) (by kernel_rfl) rfl rfl rfl rfl (by simp) rfl trivial ?_
        refine AtD.lx [13, 14, 15, 16, 17, 18, 19, 20] 4 [false] [hK (.agg ⟨keyC⟩), hB 3, hB 3] rfl (by and_intros <;> first | exact Tryz.key_ld (i := 1) rfl | (simp; done) | omega | exact oK) ?_
        have hA4 : ((((k : Int) + 1) * (P : Int)).toNat - ((k : Int) * (P : Int)).toNat) = l.length := by rw [hA1, hA2, pL]; omega
        rw [hA'] at pS
        have hPr : ∀ (w' : World), Ext [] w w' → SlOk w' (svA (some q)) (X2.map str) → Tri Tryz.prog 24 [.agg ⟨keyC⟩, .slice (some ⟨q, 0 + ((k : Int) * (P : Int)).toNat * 1, none⟩) ((((k : Int) + 1) * (P : Int)).toNat - ((k : Int) * (P : Int)).toNat) (c - ((k : Int) * (P : Int)).toNat), .int .i64 (Int.tmod (i : Int) (P : Int)), .int .i64 N] w' [] (fun v bx hp => ∃ (g : Option Nat) (c : Nat), v = sv g (proofB N l j).length c ∧ bx = [] ∧ hp = [Seg.row g 9 1 (proofB N l j).length c ((proofB N l j).map str)]) := fun w' hw' hs => by
          rw [hA4, hA1, hjj]
          have hs2 := SlOk.rowsT P (SlOk.rowsD A hs)
          rw [pS] at hs2
          have := Tryz.rProof_w N (by omega) l.length l j (some ⟨q, 0 + A, none⟩) (c - A) w' (Nat.le_refl _) (by omega) (by omega) (by omega) (fun x h => by have := hxs x h; omega) hs2
          simpa using this
        refine AtD.fork1 21 (by kernel_rfl) (StepD.by [false] rfl rfl rfl rfl (by simp) (OpOk.call rfl (fun w' hw' => hPr w' hw'.ext (SlOk.row (hw'.hp _ (nth_mem (i := 1) rfl)))) ?_))
        rintro _ _ _ ⟨g4, k4, rfl, rfl, rfl⟩
        have hpl2 := proofB_len N _ l j (Nat.le_refl _)
        have fS : ∀ {bx : Bx} {hp : List Seg}, nth hp 4 = some (Seg.row g1 9 1 (proofB N l j).length k1 ((proofB N l j).map str)) → nth hp 0 = some (Seg.row g4 9 1 (proofB N l j).length k4 ((proofB N l j).map str)) → CallOb Tryz.prog ⟨w, kys [] []⟩ bx hp 19 [.slice (svA g1) (proofB N l j).length k1, .slice (svA g4) (proofB N l j).length k4] (.bool true) := fun {_ _} h1 h2 w' hw' => by
          have := Tryz.same03_w (proofB N l j) (proofB N l j) (svA g1) (svA g4) k1 k4 w' (by omega) (by omega) (SlOk.row (hw'.hp _ (nth_mem h1))) (SlOk.row (hw'.hp _ (nth_mem h2)))
          rwa [decide_eq_true rfl] at this
        refine AtD.lx [22, 23, 24] 0 [false, false] [hC (.bool true)] rfl (by and_intros <;> first | exact fS rfl rfl | (simp; done) | exact oK) ?_
        refine AtD.dn ?_
        refine At.rowCap 4 rfl fun hcp1 => ?_
        obtain ⟨y, hy⟩ : ∃ y, l[j]? = some y := ⟨_, List.getElem?_eq_getElem (by omega)⟩
        rw [hy] at pR
        have hyl := hxs y (List.mem_of_getElem? hy)
        have hcm := comes_proof (n := N) (by omega) l.length l j y (Nat.le_refl _) hy
        have rY : ∀ {bx : Bx} {hp : List Seg}, nth hp 2 = some (Seg.row (some q) 9 1 X2.length c (X2.map str)) → RdW ⟨w, kys [] []⟩ bx hp q (0 + (i : Int).toNat * 1) [str y] := fun {_ _} h => RdW.row1 h (i := i) (by rw [List.getElem?_map, pR]; rfl) (by omega)
        have fL : ∀ {S : Base} {bx : Bx} {hp : List Seg}, CallOb Tryz.prog S bx hp 26 [.agg ⟨keyC⟩, str y, .int .i64 N] (str (cutH N (0 :: y))) := fun {_ _ _} w' _ => Tryz.rLeaf_w y N w' (by omega) (by omega)
        have fC : ∀ {bx : Bx} {hp : List Seg}, nth hp 4 = some (Seg.row g1 9 1 (proofB N l j).length k1 ((proofB N l j).map str)) → CallOb Tryz.prog ⟨w, kys [] []⟩ bx hp 25 [.agg ⟨keyC⟩, str (cutH N (0 :: y)), .int .i64 (Int.tmod (i : Int) (P : Int)), .int .i64 P, .slice (svA g1) (proofB N l j).length k1, .int .i64 N] (.tuple #[str (rootB N l), .bool true]) := fun {_ _} h w' hw' => by
          have := Tryz.rComes_w N (by omega) (cutH N (0 :: y)) (Nat.le_of_eq (cutH_len (by omega) _)) l.length j l.length (proofB N l j) (svA g1) k1 w' (by omega) (Nat.le_refl _) (by omega) (by omega) (by omega) hcp1 (fun x h => by rw [proofB_mem (by omega) _ l j (Nat.le_refl _) x h]; omega) (SlOk.row (hw'.hp _ (nth_mem h)))
          rw [hcm, pL] at this
          rwa [hjj]
        refine At.go [false] [] rfl (by and_intros <;> first | exact fL | exact fC rfl | exact rY rfl | exact Tryz.key_ld (i := 1) rfl | omega | (simp; done) | exact oK) ?_
        refine At.qt [] [hK (.agg { toList := keyC }), hK (.agg { toList := keyC }), hB 0, hR [.string { data := y.toArray }], hB 3, hC (.string { data := (cutH N (0 :: y)).toArray }), hB 3, hB 3, hB 3, hC (.tuple { toList := [.string { data := (rootB N l).toArray }, .bool true] })] rfl rfl (by and_intros <;> first | exact fL | exact fC rfl | exact rY rfl | exact Tryz.key_ld (i := 1) rfl | omega | (simp; done) | exact oK) ?_
        refine At.go [true] [hB 2] rfl (by and_intros <;> first | exact fL | exact fC rfl | exact rY rfl | exact Tryz.key_ld (i := 1) rfl | omega | (simp; done) | exact oK) ?_
        refine At.rt [] [] [] Tryz.func6 ?_
        exact ⟨by simp [tupV, pT], rfl, rfl⟩
end Go.Proofs

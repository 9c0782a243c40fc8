/-
  Walks of layer 22: the least number of a segment's file above one.
-/
import Derived.Test.YtacpcbobkeedbaaGreatDoorM16
import Derived.Test.YtacpcbobkeedbaaGreatDoorM7
import Derived.Test.YtacpcbobkeedbaaGreatDoorM38
import Derived.Test.YtacpcbobkeedbaaGreatDoorM41
import Derived.Test.YtacpcbobkeedbaaGreatDoorM37
import Derived.Test.YtacpcbobkeedbaaGreatDoorM19
import Derived.Test.YtacpcbobkeedbaaGreatDoorM21
import Derived.Test.YtacpcbobkeedbaaGreatDoorM17
import Derived.Test.YtacpcbobkeedbaaGreatDoorM12
import Derived.Test.YtacpcbobkeedbaaGreatDoorM11
import Derived.Test.YtacpcbobkeedbaaGreatDoorM30
import Derived.Test.YtacpcbobkeedbaaGreatDoorM32
/-
  Walks of layer 22: the least number of a segment's file above one.
-/
namespace Go.Proofs
open Go Go.Eng
set_option maxRecDepth 100000
set_option maxHeartbeats 4000000
attribute [local irreducible] Tri

def encN (x : Int) : List Value := [.int .i64 x]
def segY (s : List UInt8) : List Int := if (kindB s).1 = 1 then [(kindB s).2.1] else []
theorem Tryz.segments_w (s : List UInt8) (w : World) : Tri Tryz.prog 142 [str s] w [] (fun v bx hp => ∃ b, v = .func (.func 172) #[] #[.pointer (some ⟨b, 0, none⟩)] ∧ bx = [(b, 9, [str s])] ∧ hp = []) := by
  refine Tri.enter (bx := []) (hp := []) Tryz.func142 rfl (by kernel_rfl) rfl (Own.nil w) ?_
  refine At.go [] [] rfl oK ?_
  refine At.bo fun b1 hb1 => ?_
  refine At.go [] [] rfl oK ?_
  refine At.rt [true] [] [] Tryz.func142 ?_
  exact ⟨_, rfl, rfl, rfl⟩
theorem Tryz.segs1_w (s : List UInt8) (b : Nat) (w : World) (hl : s.length ≤ 9223372036854775807) :
    Iter Tryz.prog 172 [.pointer (some ⟨b, 0, none⟩)] [(b, 9, [str s])] [] encN (segY s) w := by
  intro y s0 J hJ hown hfree hyield
  obtain ⟨kd, n, ok, hK⟩ : ∃ kd n ok, kindB s = (kd, n, ok) := ⟨_, _, _, rfl⟩
  have fC : ∀ {S : Base} {bx : Bx} {hp : List Seg}, CallOb Tryz.prog S bx hp 113 [str s] (.tuple #[.int .i64 kd, .int .i64 n, .bool ok]) := fun {_ _ _} w' _ => by
    have := Tryz.shKind_w s w' hl; rwa [hK] at this
  have hY : segY s = if kd = 1 then [n] else [] := by unfold segY; rw [hK]
  rw [hY] at hyield ⊢
  clear hY hK
  refine Tri.enter Tryz.func172 rfl (by kernel_rfl) rfl hown ?_
  by_cases hk : kd = 1
  · rw [if_pos hk] at hyield ⊢
    refine At.go [true] [hB 0, hC (.tuple ⟨[.int .i64 kd, .int .i64 n, .bool ok]⟩)] rfl (by and_intros <;> first | exact fC | exact decide_eq_true hk | exact oK) ?_
    refine At.yield [] rfl rfl rfl rfl rfl trivial (lp := y) (args := encN n) rfl [] [true] (bm := []) (hm := [s0]) (br := [(b, 9, [str s])]) (hr := []) (Q := fun bx hp => bx = [] ∧ ∃ s', hp = [s'] ∧ J ([] ++ [n]) s') rfl
      (fun w' hw' => hyield [] n s0 w' (List.prefix_rfl) hJ (Own.tailF hw'.toOwn) hw'.ext) ?_
    rintro _ _ ⟨rfl, s', rfl, hJ'⟩
    refine At.go [] [] rfl oK ?_
    refine At.rt [true] [true] [] Tryz.func172 ?_
    exact ⟨rfl, s', rfl, hJ'⟩
  · rw [if_neg hk]
    refine At.go [false] [hB 0, hC (.tuple ⟨[.int .i64 kd, .int .i64 n, .bool ok]⟩)] rfl (by and_intros <;> first | exact fC | exact decide_eq_false hk | exact oK) ?_
    refine At.rt [true] [true] [] Tryz.func172 ?_
    exact ⟨rfl, s0, rfl, hJ⟩
theorem Tryz.further_w (S : FL) (k : Int) (fa : Option Addr) (fc bv : Nat) (rv : List Value) (w : World) (hlen : S.length ≤ 60) (hns : ∀ p, p ∈ S → p.1.length ≤ 9223372036854775807) (hk0 : 0 ≤ k) (hfr : SlOk w fa (fl S)) (hv : SlOk w (some ⟨bv, 0, none⟩) (.slice fa S.length fc :: rv)) :
    Fun Tryz.prog 99 [.pointer (some ⟨bv, 0, none⟩), .int .i64 k] w (.int .i64 (nxtL k (kindsF 1 S))) := by
  have fL : ∀ {bx : Bx} {hp : List Seg}, CallOb Tryz.prog ⟨w, kys [] []⟩ bx hp 141 [.slice fa S.length fc] (.int .i64 (lastF S)) := fun {_ _} w' hw' => Tryz.imLast_w S fa fc w' hlen (hfr.ext hw'.ext (by simp [kys])) hns
  have h0 : ∀ x, x ∈ kindsF 1 S → 0 ≤ x := fun x hx => (kindsF_in hx).1
  refine Tri.enter (bx := []) (hp := []) Tryz.func99 rfl (by kernel_rfl) rfl (Own.nil w) ?_
  by_cases hle : lastF S ≤ k
  · have e := nxt_none h0 (by rw [← lastF_max]; exact hle)
    refine At.go [] [] rfl (by and_intros <;> first | exact rdS hv 0 rfl | exact fL | exact decide_eq_true hle | exact oK) ?_
    refine At.bo fun b3 hb3 => ?_
    refine At.go [true] [hR [.slice fa (List.length S) fc], hC (.int .i64 (lastF S)), hB 0] rfl (by and_intros <;> first | exact rdS hv 0 rfl | exact fL | exact decide_eq_true hle | exact oK) ?_
    rw [e]
    refine At.rt [false] [] [] Tryz.func99 ?_
    exact ⟨rfl, rfl, rfl⟩
  have hm := minK_nxt h0 (by rw [← lastF_max]; omega) hk0
  rw [← lastF_max] at hm
  refine At.go [] [] rfl (by and_intros <;> first | exact rdS hv 0 rfl | exact fL | exact decide_eq_false hle | exact oK) ?_
  refine At.bo fun b3 hb3 => ?_
  refine At.go [false] [hR [.slice fa (List.length S) fc], hC (.int .i64 (lastF S)), hB 0] rfl (by and_intros <;> first | exact rdS hv 0 rfl | exact fL | exact decide_eq_false hle | exact oK) ?_
  refine At.al fun b6 hb6 => ?_
  refine At.go [] [hB 0, hR [.slice fa (List.length S) fc]] rfl (by and_intros <;> first | exact rdS hv 0 rfl | exact fL | exact decide_eq_false hle | exact oK) ?_
  refine At.noMarks ?_
  refine At.loopC (n := S.length) (env0 := [(3, .pointer (some ⟨b3, 0, none⟩)), (6, .pointer (some ⟨b6, 0, none⟩)), (22, .slice fa S.length fc), (23, .int .i64 (S.length : Int)), (24, .int .i64 0)]) (fun m_ Ds env bx hp => ∃ i : Nat, m_ = S.length - i ∧ i ≤ S.length ∧ env = [(3, .pointer (some ⟨b3, 0, none⟩)), (6, .pointer (some ⟨b6, 0, none⟩)), (22, .slice fa S.length fc), (23, .int .i64 (S.length : Int)), (24, .int .i64 (i : Int))] ∧ bx = [(b6, 3, [.int .i64 (minK k (lastF S) (kindsF 1 (S.take i)))]), (b3, 3, [.int .i64 k])] ∧ hp = [Seg.marks Ds]) rfl
    ⟨0, by omega, by omega, rfl, rfl, rfl⟩ sB ?_
  rintro m_ Ds env bx hp ⟨i, rfl, hi, rfl, rfl, rfl⟩ ih
  by_cases hlt : i < S.length
  · obtain ⟨p, hp⟩ : ∃ p, S[i]? = some p := ⟨_, List.getElem?_eq_getElem hlt⟩
    obtain ⟨g, o, rfl, hc⟩ := hfr.get (fl_ne (by intro h; rw [h] at hlt; simp at hlt))
    have rE : ∀ {bx : Bx} {hp : List Seg}, RdW ⟨w, kys [] []⟩ bx hp g (o + (i : Int).toNat * 2) [str p.1, str p.2] := fun {_ _} => RdW.fileE hc (by simp [kys]) hp (by omega)
    have hsn : kindsF 1 (S.take (i + 1)) = kindsF 1 (S.take i) ++ segY p.1 := by rw [List.take_add_one, hp]; exact kindsF_snoc 1 _ p
    refine At.go [true] [hR [.string { data := p.fst.toArray }, .string { data := p.snd.toArray }]] rfl (by and_intros <;> first | exact rE | exact decide_eq_true (by omega) | exact oK) ?_
    refine At.al fun b8 hb8 => ?_
    refine At.go [] [hB 0, hB 0] rfl (by and_intros <;> first | exact rE | exact decide_eq_true (by omega) | exact oK) ?_
    refine At.step [] rfl rfl rfl rfl rfl trivial (OpOk.call rfl (fun w' _ => Tryz.segments_w p.1 w') ?_)
    rintro _ _ _ ⟨b, rfl, rfl, rfl⟩
    refine At.go [] [] rfl oK ?_
    refine At.rangeI (bi := [(b, 9, [str p.1])]) (bc := [(b8, 65, [str p.1, str p.2]), (b6, 3, [.int .i64 (minK k (lastF S) (kindsF 1 (S.take i)))]), (b3, 3, [.int .i64 k])]) (hp := [Seg.marks Ds]) rfl rfl rfl (rd := []) (by simp) (enc := encN) (xs := segY p.1) (fun _ => rfl) rfl
      (fun pre bx hp => bx = [(b8, 65, [str p.1, str p.2]), (b6, 3, [.int .i64 (minK k (lastF S) (kindsF 1 (S.take i) ++ pre))]), (b3, 3, [.int .i64 k])] ∧ hp = [Seg.marks Ds]) ⟨by rw [List.append_nil], rfl⟩ (fun w' _ => Tryz.segs1_w p.1 b w' (hns p (List.mem_of_getElem? hp))) ?_ ?_
    · rintro lp D tm pre x bx hp w' hpre ⟨rfl, rfl⟩ hext
      have hmk := minK_snoc k (lastF S) (kindsF 1 (S.take i) ++ pre) x
      rw [List.append_assoc] at hmk
      refine At.run 100 true [] [] rfl trivial ?_
      refine At.begin ?_
      by_cases hx : k < x
      · rw [if_pos hx] at hmk
        refine At.go [true] [hB 2, hB 1, hB 1] rfl (by and_intros <;> first | exact decide_eq_true hx | exact oK) ?_

        exact At.roundEnd ⟨_, rfl, by rw [hmk], rfl⟩
      · rw [if_neg hx] at hmk
        refine At.go [false] [hB 2] rfl (by and_intros <;> first | exact decide_eq_false hx | exact oK) ?_
        exact At.roundEnd ⟨_, rfl, by rw [hmk], rfl⟩
    · rintro D bx' hp' ⟨rfl, rfl⟩
      refine At.markIn (hp := []) ?_
      refine At.go [] [] rfl oK ?_
      refine At.keep [false, false, true, true] [true] rfl ?_
      rw [← hsn]
      exact At.weak (ih (S.length - (i + 1)) _ _ _ _ (by omega) ⟨i + 1, rfl, by omega, rfl, rfl, rfl⟩) sB
  · obtain rfl : i = S.length := by omega
    rw [List.take_length, hm.1]
    refine At.go [false] [hB 0] rfl (by and_intros <;> first | exact decide_eq_false (by omega) | exact oK) ?_
    exact At.retCs [false, false] [] [] Tryz.func99 rfl trivial rfl ⟨rfl, rfl, rfl⟩
end Go.Proofs

/-
  Walks of layer 22: all that a verifier looks at.
-/
namespace Go.Proofs
open Go Go.Eng
set_option maxRecDepth 100000
set_option maxHeartbeats 4000000
attribute [local irreducible] Tri

theorem hdG_may {r : List UInt8} {n : Int} (h : (hdG r n).2 = 0) : mayH (hdG r n).1 n = true := by
  unfold hdG at h ⊢
  split
  · rename_i h1; rw [if_pos h1] at h; exact absurd h h1
  · rename_i h1
    rw [if_neg h1] at h
    split
    · rename_i h2; rw [if_pos h2] at h; exact absurd h (by decide)
    · rename_i h2
      cases hm : mayH (hdR r n).h n with
      | true => rfl
      | false => exact absurd (Or.inr hm) h2
theorem hsB_may {n : Int} : ∀ {l : List (List UInt8)} {x : HdB}, x ∈ (hsB n l).1 → mayH x n = true
  | [], x, h => by simp [hsB] at h
  | r :: l, x, h => by
    by_cases he : (hdG r n).2 = 0
    · rw [hsB_ok he] at h
      rcases List.mem_cons.1 h with rfl | h
      · exact hdG_may he
      · exact hsB_may h
    · rw [hsB_bad he] at h; simp at h
theorem headsF_may {S : FL} {n : Int} {x : HdB} (h : x ∈ (headsF S n).1) : mayH x n = true := by
  unfold headsF at h
  split at h
  · exact hsB_may h
  · simp at h
theorem headsF_few {S : FL} {n : Int} (h : ∀ p, p ∈ S → p.2.length ≤ 9000) : (headsF S n).1.length ≤ 9000 := by
  unfold headsF
  split
  · have h1 := hsB_len n (frowsB (readN S headsB))
    have h2 := (scan_len (readN S headsB)).1
    have h3 := readF_len (n := headsB) h
    have h4 : (frowsB (readN S headsB)).length = (scan (readN S headsB)).length := by unfold frowsB; rw [List.length_map]
    simp only; omega
  · exact Nat.zero_le _
theorem rowsK_len {S : FL} (h : ∀ p, p ∈ S → p.2.length ≤ 9000) : ∀ k, (rowsK S k).length ≤ 9000 * k
  | 0 => by simp [rowsK]
  | k + 1 => by
    rw [rowsK_succ, List.length_append]
    have := rowsK_len h k
    have := segF_few (k := k) h
    omega
theorem Tryz.run12_w (b : Bool) (b6 : Nat) (w : World) (h6 : SlOk w (some ⟨b6, 0, none⟩) [.bool b]) : Fun Tryz.prog 96 [.pointer (some ⟨b6, 0, none⟩)] w (.bool b) ∧ Fun Tryz.prog 97 [.pointer (some ⟨b6, 0, none⟩)] w (.bool b) := by
  constructor
  · refine Tri.enter (bx := []) (hp := []) Tryz.func96 rfl (by kernel_rfl) rfl (Own.nil w) ?_
    refine At.go [] [hR [.bool b]] rfl (by and_intros <;> first | exact rdS h6 0 rfl | exact oK) ?_
    refine At.rt [] [] [] Tryz.func96 ?_
    exact ⟨rfl, rfl, rfl⟩
  · refine Tri.enter (bx := []) (hp := []) Tryz.func97 rfl (by kernel_rfl) rfl (Own.nil w) ?_
    refine At.go [] [hR [.bool b]] rfl (by and_intros <;> first | exact rdS h6 0 rfl | exact oK) ?_
    refine At.rt [] [] [] Tryz.func97 ?_
    exact ⟨rfl, rfl, rfl⟩
theorem Tryz.run3_w (ra : Option Addr) (m rc : Nat) (fv : Value) (rv : List Value) (c1 : Int) (b10 b1 bv : Nat) (w : World) (h10 : SlOk w (some ⟨b10, 0, none⟩) [.slice ra m rc]) (h1 : SlOk w (some ⟨b1, 0, none⟩) [.pointer (some ⟨bv, 0, none⟩)]) (hv : SlOk w (some ⟨bv, 0, none⟩) (fv :: .int .i64 c1 :: rv)) :
    Fun Tryz.prog 98 [.pointer (some ⟨b10, 0, none⟩), .pointer (some ⟨b1, 0, none⟩)] w (.bool (decide ((m : Int) < c1))) := by
  refine Tri.enter (bx := []) (hp := []) Tryz.func98 rfl (by kernel_rfl) rfl (Own.nil w) ?_
  refine At.go [] [] rfl (by and_intros <;> first | exact rdS h10 0 rfl | exact rdS h1 0 rfl | exact rdS hv 1 rfl | exact oK) ?_
  refine At.qt [] [hR [.slice ra m rc], hR [.pointer (some ⟨bv, 0, none⟩)], hR [.int .i64 c1]] rfl rfl (by and_intros <;> first | exact rdS h10 0 rfl | exact rdS h1 0 rfl | exact rdS hv 1 rfl | exact oK) ?_
  refine At.go [] [] rfl (by and_intros <;> first | exact rdS h10 0 rfl | exact rdS h1 0 rfl | exact rdS hv 1 rfl | exact oK) ?_
  refine At.rt [] [] [] Tryz.func98 ?_
  exact ⟨rfl, rfl, rfl⟩
theorem not_sub {q : Nat} {bx bm : Bx} {hp hm : List Seg} (h : q ∉ kys bx hp) (hs : ∀ k, k ∈ kys bm hm → k ∈ kys bx hp) : q ∉ kys bm hm := fun hc => h (hs q hc)
theorem mem_slR_sv {q : Nat} {a : Option Nat} {xs : List Value} (h : q ∈ slR (svA a) xs) : a = some q := by
  cases xs with
  | nil => simp [slR] at h
  | cons x l =>
    cases a with
    | none => simp [slR, slB, svA] at h
    | some g => simp [slR, slB, svA] at h; rw [h]
theorem kys_in {b6 b1 bv t6 t1 tv tm : Nat} {c6 c1 cv cm : List Value} (g gh : Option Nat) {tr th sz n c nh ch : Nat} {xs ys : List Value} : ∀ z, z ∈ kys [(bv, tm, cm)] [Seg.row g tr sz n c xs] → z ∈ kys [(b6, t6, c6), (b1, t1, c1), (bv, tv, cv)] [Seg.row g tr sz n c xs, Seg.row gh th 6 nh ch ys] := by
  intro z hz
  simp only [kys, Seg.row, List.map_cons, List.map_nil, List.flatMap_cons, List.flatMap_nil, List.append_nil, List.mem_append, List.mem_cons, List.not_mem_nil, or_false] at hz ⊢
  rcases hz with h | h
  · exact .inl (.inr (.inr h))
  · exact .inr (.inl h)
theorem kys_out {q b6 b1 bv t6 t1 tv tm : Nat} {c6 c1 cv cm : List Value} {g gh : Option Nat} {tr th sz n c nh ch : Nat} {xs ys : List Value} (h : (kys [(b6, t6, c6), (b1, t1, c1), (bv, tv, cv)] [Seg.row g tr sz n c xs, Seg.row gh th 6 nh ch ys]).Nodup) (hq : gh = some q) : q ∉ kys [(bv, tm, cm)] [Seg.row g tr sz n c xs] := by
  subst hq
  intro hz
  simp only [kys, Seg.row, List.map_cons, List.map_nil, List.flatMap_cons, List.flatMap_nil, List.append_nil, List.mem_append, List.mem_cons, List.not_mem_nil, or_false] at hz
  simp only [kys, Seg.row, List.map_cons, List.map_nil, List.flatMap_cons, List.flatMap_nil, List.append_nil, Option.toList_some] at h
  rw [← List.append_assoc] at h
  exact (List.nodup_append.1 h).2.2 q (by rcases hz with rfl | hz; · simp
                                          · simp [hz]) q (by simp) rfl
def Tryz.looks3 (c1 : Int) (just wh : Bool) (m b6 b11 b10 b1 : Nat) : List LookE :=
  [(96, [.pointer (some ⟨b6, 0, none⟩)], just, 3), (97, [.pointer (some ⟨b11, 0, none⟩)], wh, 3), (98, [.pointer (some ⟨b10, 0, none⟩), .pointer (some ⟨b1, 0, none⟩)], decide ((m : Int) < c1), 11)]
/-- What a run tells. -/
def Tryz.RunQ (S : FL) (c1 c3 c4 : Int) (n : Nat) (fa : Option Addr) (fc bv : Nat) (v : Value) (bx : Bx) (hp : List Seg) : Prop :=
  ((verF S c1 n).e ≠ 0 ∧ v = .tuple #[.slice none 0 0, .int .i64 (verF S c1 n).at_, .int .i64 (verF S c1 n).e] ∧ (∃ cs, bx = [(bv, 104, cs)]) ∧ hp = []) ∨
  ((verF S c1 n).e = 0 ∧ ∃ (gh : Option Nat) (hc : Nat) (g : Option Nat) (c : Nat) (gt : Option Nat) (tc : Nat), v = .tuple #[sv gt (verF S c1 n).T.length tc, .int .i64 (verF S c1 n).at_, .int .i64 0] ∧ bx = [(bv, 104, [.slice fa S.length fc, .int .i64 c1, .int .i64 n, .int .i64 c3, .int .i64 c4, sv gh (verF S c1 n).H.length hc, sv g (verF S c1 n).R.length c])] ∧
    hp = [Seg.row gt 9 1 (verF S c1 n).T.length tc ((verF S c1 n).T.map str), Seg.row g 9 1 (verF S c1 n).R.length c ((verF S c1 n).R.map str), Seg.row gh 46 6 (verF S c1 n).H.length hc ((verF S c1 n).H.flatMap hdC)])
theorem verF_hit {S : FL} {per : Int} {n k : Nat} (h : fstE (segE S per n (headsF S n).1) (headsF S n).1.length 0 = some k) : verF S per n = ⟨[], [], [], k, segE S per n (headsF S n).1 k⟩ := by unfold verF; rw [h]
theorem verF_end {S : FL} {per : Int} {n : Nat} (h : fstE (segE S per n (headsF S n).1) (headsF S n).1.length 0 = none) : verF S per n =
    if (headsF S n).2 = false ∨ (segF S (headsF S n).1.length).2 = false then ⟨[], [], [], (headsF S n).1.length, 3⟩ else
    if per ≤ (segF S (headsF S n).1.length).1.length then ⟨[], [], [], (headsF S n).1.length, 11⟩ else
    if 0 ≤ nxtL (headsF S n).1.length (kindsF 1 S) then ⟨[], [], [], nxtL (headsF S n).1.length (kindsF 1 S), 4⟩ else
    ⟨(headsF S n).1, rowsK S (headsF S n).1.length, (segF S (headsF S n).1.length).1, -1, 0⟩ := by unfold verF; rw [h]
theorem Tryz.run_w (S : FL) (n : Nat) (c1 c3 c4 : Int) (fa : Option Addr) (fc bv : Nat) (w : World) (hlen : S.length ≤ 60) (hSb : ∀ p, p ∈ S → p.2.length ≤ 9000) (hns : ∀ p, p ∈ S → p.1.length ≤ 9223372036854775807) (hn : 1 ≤ n ∧ n ≤ 32) (hfr : SlOk w fa (fl S)) (hT : Tryz.Tabs w)
    (hown : Own [(bv, 104, [.slice fa S.length fc, .int .i64 c1, .int .i64 n, .int .i64 c3, .int .i64 c4, .slice none 0 0, .slice none 0 0])] [] w) (hd1 : ∀ q, q ∈ slR fa (fl S) → q ≠ bv) (hd3 : ∀ q, q ∈ Tryz.tabG → q ≠ bv) :
    Tri Tryz.prog 56 [.pointer (some ⟨bv, 0, none⟩)] w [bv] (Tryz.RunQ S c1 c3 c4 n fa fc bv) := by
  have hHf := headsF_few (n := (n : Int)) hSb
  have hHm : ∀ x, x ∈ (headsF S n).1 → x.p.length ≤ 9223372036854775807 ∧ x.r.length ≤ 9223372036854775807 := fun x hx => by have := mayH_in (headsF_may hx); omega
  have hfB : ∀ q, q ∈ slR fa (fl S) → q ∉ kys [(bv, 104, [.slice fa S.length fc, .int .i64 c1, .int .i64 n, .int .i64 c3, .int .i64 c4, .slice none 0 0, .slice none 0 0])] [] := fun q hq => by simpa [kys] using hd1 q hq
  have htB : ∀ q, q ∈ Tryz.tabG → q ∉ kys [(bv, 104, [.slice fa S.length fc, .int .i64 c1, .int .i64 n, .int .i64 c3, .int .i64 c4, .slice none 0 0, .slice none 0 0])] [] := fun q hq => by simpa [kys] using hd3 q hq
  have hflt := hfr.ltR
  have htlt := Tryz.tabs_lt hT
  unfold Tryz.RunQ
  obtain ⟨X, hX⟩ : ∃ X, verF S c1 n = X := ⟨_, rfl⟩
  rw [hX]
  obtain ⟨H, hH⟩ : ∃ H, (headsF S n).1 = H := ⟨_, rfl⟩
  obtain ⟨just, hj⟩ : ∃ j, (headsF S n).2 = j := ⟨_, rfl⟩
  rw [hH] at hHf hHm
  have fHd := fun (w' : World) (hr : SlOk w' fa (fl S)) => Tryz.imHeaders_w S c1 n c3 c4 fa fc w' hlen hSb hr
  rw [hH, hj] at fHd
  have hX1 := fun k => verF_hit (S := S) (per := c1) (n := n) (k := k)
  have hX2 := verF_end (S := S) (per := c1) (n := n)
  simp only [hH, hX] at hX1
  rw [hH, hX, hj] at hX2
  refine Tri.enter Tryz.func56 rfl (by kernel_rfl) rfl hown ?_
  refine At.go [] [] rfl oK ?_
  refine At.bo fun b1 hb1 => ?_
  refine At.gn 3 [] [] rfl oK ?_
  refine At.cutS (ι := Nat × Option Nat × Nat) ⟨0, [0, 1, 1], []⟩ (fun e => [(1, .pointer (some ⟨b1, 0, none⟩)), (5, sv e.2.1 H.length e.2.2), (6, .pointer (some ⟨e.1, 0, none⟩))])
    (fun e => [(e.1, 4, [.bool just]), (b1, 102, [.pointer (some ⟨bv, 0, none⟩)]), (bv, 104, [.slice fa S.length fc, .int .i64 c1, .int .i64 n, .int .i64 c3, .int .i64 c4, .slice none 0 0, .slice none 0 0])])
    (fun e => [Seg.row e.2.1 46 6 H.length e.2.2 (H.flatMap hdC)]) ?_ fun hk0 => ?_
  rotate_left
  · refine At.dr 15 ?_
    refine AtH.readsK [true, true] [] [0, 1, 2, 3, 4, 5, 6, 7] [hB 0, hB 1, hB 0, hB 1] rfl rfl (by and_intros <;> first | exact trivial | exact oK) rfl rfl (fuel := 7) ?_
    refine AtH.fork2 8 12 (by kernel_rfl) rfl rfl rfl rfl rfl rfl (OpOk.call rfl (fun w' hw' => fHd w' (SlOk.extR hfr hw'.ext hfB)) ?_) (OpOk.alloc rfl rfl fun b12 hb12 => ⟨fun w hw => hw.selK [false, true, true] [], ?_⟩)
    · rintro _ _ _ ⟨gh, hc, rfl, rfl, rfl⟩
      refine ⟨fun w hw => hw.selK [true, true] [false], ?_⟩
      refine AtH.reK [9, 10, 11] [] rfl oK rfl rfl (fuel := 3) ?_
      refine AtH.f1 12 rfl (OpOk.alloc rfl rfl fun b12 hb12 => ⟨fun w hw => hw.selK [false, true, true] [false], ?_⟩)
      refine AtH.reK [13] [] rfl oK rfl rfl (fuel := 1) ?_
      refine AtH.f1 14 rfl (OpOk.one true [] [hB 0] rfl ⟨rfl, rfl⟩ ⟨fun w hw => hw.selK [false, true, true] [false], ?_⟩)
      refine AtH.dn ?_
      refine At.gn 2 [] [hB 1, hB 2] rfl (by and_intros <;> first | exact trivial | exact oK) ?_
      exact At.weak (hk0 (b12, gh, hc)) sB
    · refine AtH.f1 8 rfl (OpOk.call rfl (fun w' hw' => fHd w' (SlOk.extR hfr hw'.ext hfB)) ?_)
      rintro _ _ _ ⟨gh, hc, rfl, rfl, rfl⟩
      refine ⟨fun w hw => hw.selK [false, true, true] [false], ?_⟩
      refine AtH.reK [9, 10, 11, 13] [] rfl oK rfl rfl (fuel := 1) ?_
      refine AtH.f1 14 rfl (OpOk.one true [] [hB 0] rfl ⟨rfl, rfl⟩ ⟨fun w hw => hw.selK [false, true, true] [false], ?_⟩)
      refine AtH.dn ?_
      refine At.gn 2 [] [hB 1, hB 2] rfl (by and_intros <;> first | exact trivial | exact oK) ?_
      exact At.weak (hk0 (b12, gh, hc)) sB
  rintro ⟨b6, gh, hc⟩
  dsimp only
  refine At.rowCap 0 rfl fun hcap => ?_
  refine At.go [] [hB 1, hB 2] rfl (by and_intros <;> first | exact trivial | exact oK) ?_
  refine At.nilRow 9 1 ?_
  refine At.loop (env0 := [(1, .pointer (some ⟨b1, 0, none⟩)), (5, .slice (svA gh) H.length hc), (6, .pointer (some ⟨b6, 0, none⟩)), (31, .int .i64 ↑H.length), (32, .int .i64 0)]) (fun m_ env bx hp => ∃ (k : Nat) (R : List (List UInt8)) (g : Option Nat) (c : Nat), m_ = H.length - k ∧ (k ≤ H.length) ∧ (R = rowsK S k) ∧ (fstE (segE S c1 n H) H.length 0 = fstE (segE S c1 n H) (H.length - k) k) ∧ env = [(1, .pointer (some ⟨b1, 0, none⟩)), (5, .slice (svA gh) H.length hc), (6, .pointer (some ⟨b6, 0, none⟩)), (31, .int .i64 ↑H.length), (32, .int .i64 k)] ∧ bx = [(b6, 4, [.bool just]), (b1, 102, [.pointer (some ⟨bv, 0, none⟩)]), (bv, 104, [.slice fa S.length fc, .int .i64 c1, .int .i64 n, .int .i64 c3, .int .i64 c4, sv gh H.length hc, sv g R.length c])] ∧ hp = [Seg.row g 9 1 R.length c (R.map str), Seg.row gh 46 6 H.length hc (List.flatMap hdC H)]) rfl
    ⟨0, [], none, 0, rfl, (by omega), (rfl), (rfl), rfl, rfl, rfl⟩ sB ?_
  rintro m_ env bx hp ⟨k, R, g, c, rfl, hk, hR, hf, rfl, rfl, rfl⟩ ih
  have hRl : R.length ≤ 81000000 := by have := rowsK_len hSb k; rw [← hR] at this; omega
  by_cases hlt : k < H.length
  · refine At.go [true] [hB 1] rfl (by and_intros <;> first | exact decide_eq_true (by omega) | exact oK) ?_
    refine At.step [] rfl rfl rfl rfl rfl trivial (OpOk.callO [false, false, true] [true, false] rfl rfl (fun w' hw' ho => Tryz.sealed_w S H R k n c1 c3 c4 fa (svA gh) fc hc g c bv w' hlen hSb hlt hcap hHf hHm hn (by omega) (SlOk.extR hfr hw'.ext hfB) (SlOk.row (hw'.hp _ (nth_mem (i := 1) rfl))) (Tryz.tabs_ext hT hw'.ext htB) ho ?_ ?_ ?_) ?_)
    · exact fun q hq => not_sub (WOk.free hw' (hflt q hq) (hfB q hq)) (kys_in g gh)
    · exact fun q hq => kys_out hw'.nd (mem_slR_sv hq)
    · exact fun q hq => not_sub (WOk.free hw' (htlt q hq) (htB q hq)) (kys_in g gh)
    rintro _ _ _ ⟨g2, c2, rfl, rfl, rfl⟩
    by_cases he : segE S c1 n H k = 0
    · refine At.go [false] [] rfl (by and_intros <;> first | exact decide_eq_false (by omega) | (simp [he]; done) | exact oK) ?_
      refine At.order [2, 2] [] rfl rfl ?_
      exact At.weak (ih _ _ _ _ (by omega) ⟨k + 1, R ++ (segF S k).1, g2, c2, rfl, by omega, by rw [hR, rowsK_succ], by rw [hf, fstE_step hlt he], rfl, rfl, rfl⟩) sB
    · refine At.go [true] [] rfl (by and_intros <;> first | exact decide_eq_true (by omega) | (simp [he]; done) | exact oK) ?_
      rw [hX1 k (by rw [hf]; exact fstE_hit hlt he)]
      refine At.rt [true, false, false] [false, false] [] Tryz.func56 ?_
      exact .inl ⟨he, rfl, ⟨_, rfl⟩, rfl⟩
  · obtain rfl : k = H.length := by omega
    have hXe := hX2 (by rw [hf]; exact fstE_end _ _)
    refine At.go [false] [hB 1, hB 2] rfl (by and_intros <;> first | exact decide_eq_false (by omega) | exact oK) ?_
    refine At.step [] rfl rfl rfl rfl rfl trivial (OpOk.call rfl (fun w' hw' => Tryz.imSegment_w S H.length fa fc w' hlen hSb (SlOk.extR hfr hw'.ext hfB) (by simp only [inK]; omega) (Tryz.tabs_ext hT hw'.ext htB).2) ?_)
    rintro _ _ _ ⟨gt, tc, rfl, rfl, rfl⟩
    obtain ⟨tl, htl⟩ : ∃ tl, (segF S H.length).1 = tl := ⟨_, rfl⟩
    obtain ⟨wh, hwh⟩ : ∃ wh, (segF S H.length).2 = wh := ⟨_, rfl⟩
    rw [htl, hwh] at hXe ⊢
    have htf := segF_few (k := (H.length : Int)) hSb
    rw [htl] at htf
    refine At.go [] [] rfl (by and_intros <;> first | exact trivial | exact oK) ?_
    refine At.al fun b10 hb10 => ?_
    refine At.al fun b11 hb11 => ?_
    refine At.go [] [hB 1, hB 0] rfl (by and_intros <;> first | exact trivial | exact oK) ?_
    refine At.step [] rfl rfl rfl rfl rfl trivial (OpOk.buildSlice rfl rfl rfl rfl rfl rfl rfl (fun bs hbs => ?_))
    have fF : ∀ {bx : Bx} {hp : List Seg}, nth bx 0 = some (bs, 159, (Tryz.looks3 c1 just wh tl.length b6 b11 b10 b1).flatMap lookC) → nth bx 1 = some (b11, 4, [.bool wh]) → nth bx 2 = some (b10, 22, [sv gt tl.length tc]) → nth bx 3 = some (b6, 4, [.bool just]) → nth bx 4 = some (b1, 102, [.pointer (some ⟨bv, 0, none⟩)]) → nth bx 5 = some (bv, 104, [.slice fa S.length fc, .int .i64 c1, .int .i64 n, .int .i64 c3, .int .i64 c4, sv gh H.length hc, sv g R.length c]) →
        CallOb Tryz.prog ⟨w, kys [(bv, 104, [.slice fa S.length fc, .int .i64 c1, .int .i64 n, .int .i64 c3, .int .i64 c4, .slice none 0 0, .slice none 0 0])] []⟩ bx hp 95 [.slice (some ⟨bs, 0, none⟩) 3 3] (.int .i64 (fstL (Tryz.looks3 c1 just wh tl.length b6 b11 b10 b1))) := fun {_ _} q0 q1 q2 q3 q4 q5 w' hw' => by
      refine Tryz.first_w (Tryz.looks3 c1 just wh tl.length b6 b11 b10 b1) (some ⟨bs, 0, none⟩) 3 w' (by show 3 ≤ 1000; decide) (SlOk.blk (hw'.bx _ (nth_mem q0))) ?_
      intro i y hy hok w2 he
      rcases i with _ | _ | _ | i
      · cases hy
        exact (Tryz.run12_w just b6 w2 ((SlOk.blk (hw'.bx _ (nth_mem q3))).ext he (by simp))).1
      · cases hy
        exact (Tryz.run12_w wh b11 w2 ((SlOk.blk (hw'.bx _ (nth_mem q1))).ext he (by simp))).2
      · cases hy
        exact Tryz.run3_w _ _ tc _ _ c1 b10 b1 bv w2 ((SlOk.blk (hw'.bx _ (nth_mem q2))).ext he (by simp)) ((SlOk.blk (hw'.bx _ (nth_mem q4))).ext he (by simp)) ((SlOk.blk (hw'.bx _ (nth_mem q5))).ext he (by simp))
      · exact absurd (List.getElem?_eq_some_iff.1 hy).1 (by simp [Tryz.looks3])
    have fU : ∀ {bx : Bx} {hp : List Seg}, nth bx 5 = some (bv, 104, [.slice fa S.length fc, .int .i64 c1, .int .i64 n, .int .i64 c3, .int .i64 c4, sv gh H.length hc, sv g R.length c]) → CallOb Tryz.prog ⟨w, kys [(bv, 104, [.slice fa S.length fc, .int .i64 c1, .int .i64 n, .int .i64 c3, .int .i64 c4, .slice none 0 0, .slice none 0 0])] []⟩ bx hp 99 [.pointer (some ⟨bv, 0, none⟩), .int .i64 H.length] (.int .i64 (nxtL H.length (kindsF 1 S))) := fun {_ _} h w' hw' =>
      Tryz.further_w S H.length fa fc bv _ w' hlen hns (by omega) (SlOk.extR hfr hw'.ext hfB) (SlOk.blk (hw'.bx _ (nth_mem h)))
    by_cases h1 : just = false ∨ wh = false
    · rw [if_pos h1] at hXe
      have e : fstL (Tryz.looks3 c1 just wh tl.length b6 b11 b10 b1) = 3 := by cases just <;> cases wh <;> first | rfl | (simp at h1; done)
      rw [e] at fF
      refine At.go [true] [hC (.int .i64 3)] rfl (by and_intros <;> first | exact fF rfl rfl rfl rfl rfl rfl | (simp; done) | exact oK) ?_
      rw [hXe]
      refine At.rt [false, false, false, false, false, true] [false, false, false] [] Tryz.func56 ?_
      exact .inl ⟨by simp, rfl, ⟨_, rfl⟩, rfl⟩
    rw [if_neg h1] at hXe
    obtain ⟨rfl, rfl⟩ : just = true ∧ wh = true := by cases just <;> cases wh <;> simp at h1 ⊢
    by_cases h2 : c1 ≤ tl.length
    · rw [if_pos h2] at hXe
      have e : fstL (Tryz.looks3 c1 true true tl.length b6 b11 b10 b1) = 11 := by simp only [Tryz.looks3, fstL, if_true]; rw [if_neg (by rw [decide_eq_true_eq]; omega)]
      rw [e] at fF
      refine At.go [true] [hC (.int .i64 11)] rfl (by and_intros <;> first | exact fF rfl rfl rfl rfl rfl rfl | (simp; done) | exact oK) ?_
      rw [hXe]
      refine At.rt [false, false, false, false, false, true] [false, false, false] [] Tryz.func56 ?_
      exact .inl ⟨by simp, rfl, ⟨_, rfl⟩, rfl⟩
    rw [if_neg h2] at hXe
    have e : fstL (Tryz.looks3 c1 true true tl.length b6 b11 b10 b1) = 0 := by simp only [Tryz.looks3, fstL, if_true]; rw [if_pos (by rw [decide_eq_true_eq]; omega)]
    rw [e] at fF
    by_cases h3 : 0 ≤ nxtL H.length (kindsF 1 S)
    · rw [if_pos h3] at hXe
      refine At.go [false, true] [hC (.int .i64 0), hB 4, hC (.int .i64 (nxtL (↑H.length) (kindsF 1 S)))] rfl (by and_intros <;> first | exact fF rfl rfl rfl rfl rfl rfl | exact fU rfl | exact decide_eq_true h3 | (simp; done) | exact oK) ?_
      rw [hXe]
      refine At.rt [false, false, false, false, false, true] [false, false, false] [] Tryz.func56 ?_
      exact .inl ⟨by simp, rfl, ⟨_, rfl⟩, rfl⟩
    · rw [if_neg h3] at hXe
      refine At.go [false, false] [hC (.int .i64 0), hB 4, hC (.int .i64 (nxtL (↑H.length) (kindsF 1 S))), hB 2] rfl (by and_intros <;> first | exact fF rfl rfl rfl rfl rfl rfl | exact fU rfl | exact decide_eq_false h3 | (simp; done) | exact oK) ?_
      rw [hXe, ← hR]
      refine At.rt [false, false, false, false, false, true] [true, true, true] [] Tryz.func56 ?_
      exact .inr ⟨rfl, gh, hc, g, c, gt, tc, rfl, rfl, rfl⟩
end Go.Proofs

/-
  Walks of layer 22: Verify, Accepts, Rows.
-/
namespace Go.Proofs
open Go Go.Eng
set_option maxRecDepth 100000
set_option maxHeartbeats 4000000
attribute [local irreducible] Tri

/-- The answer, as three values. -/
def sealD (n : Nat) (x : FndB) : List UInt8 × Nat × Nat := if x.e ≠ 0 then ([], 0, 0) else ((chainB n x.H).1, x.H.length, x.R.length)
def sdC (x : List UInt8 × Nat × Nat) : List Value := [str x.1, .int .i64 x.2.1, .int .i64 x.2.2]
theorem verF_ok {S : FL} {per : Int} {n : Nat} (h : (verF S per n).e = 0) : (verF S per n).H = (headsF S n).1 ∧ (verF S per n).at_ = -1 ∧ fstE (segE S per n (headsF S n).1) (headsF S n).1.length 0 = none ∧ (verF S per n).R = rowsK S (headsF S n).1.length ∧ (verF S per n).T = (segF S (headsF S n).1.length).1 := by
  cases hf : fstE (segE S per n (headsF S n).1) (headsF S n).1.length 0 with
  | some k =>
    rw [verF_hit hf] at h
    exact absurd h (fstE_some hf).2.2
  | none =>
    have hX := verF_end hf
    rw [hX] at h ⊢
    split at h
    · simp at h
    · rename_i h1
      split at h
      · simp at h
      · rename_i h2
        split at h
        · simp at h
        · rename_i h3
          rw [if_neg h1, if_neg h2, if_neg h3]
          exact ⟨rfl, rfl, rfl, rfl, rfl⟩
theorem verF_bad {S : FL} {per : Int} {n : Nat} (h : (verF S per n).e ≠ 0) : (verF S per n).H = [] ∧ (verF S per n).R = [] ∧ (verF S per n).T = [] := by
  cases hf : fstE (segE S per n (headsF S n).1) (headsF S n).1.length 0 with
  | some k => rw [verF_hit hf]; exact ⟨rfl, rfl, rfl⟩
  | none =>
    have hX := verF_end hf
    rw [hX] at h ⊢
    split
    · exact ⟨rfl, rfl, rfl⟩
    · rename_i h1
      rw [if_neg h1] at h
      split
      · exact ⟨rfl, rfl, rfl⟩
      · rename_i h2
        rw [if_neg h2] at h
        split
        · exact ⟨rfl, rfl, rfl⟩
        · rename_i h3
          rw [if_neg h3] at h; exact absurd rfl h
theorem Tryz.Verify_w (S : FL) (n : Nat) (c1 c3 c4 : Int) (fa : Option Addr) (fc : Nat) (w : World) (hlen : S.length ≤ 60) (hSb : ∀ p, p ∈ S → p.2.length ≤ 9000) (hns : ∀ p, p ∈ S → p.1.length ≤ 9223372036854775807) (hmay : mayCf c1 n c3 c4 = true) (hfr : SlOk w fa (fl S)) (hT : Tryz.Tabs w) :
    Fun Tryz.prog 46 [.slice fa S.length fc, .agg ⟨[.int .i64 c1, .int .i64 n, .int .i64 c3, .int .i64 c4]⟩] w (.tuple #[.agg ⟨sdC (sealD n (verF S c1 n))⟩, .int .i64 (verF S c1 n).at_, .int .i64 (verF S c1 n).e]) := by
  have hin := mayCf_in hmay
  have hn : 1 ≤ n ∧ n ≤ 32 := by omega
  have fM : ∀ {S : Base} {bx : Bx} {hp : List Seg}, CallOb Tryz.prog S bx hp 55 [.agg ⟨[.int .i64 c1, .int .i64 n, .int .i64 c3, .int .i64 c4]⟩] (.bool true) := fun {_ _ _} w' _ => by
    have := Tryz.logMay_w c1 n c3 c4 w'; rwa [hmay] at this
  have hflt := hfr.ltR
  have htlt := Tryz.tabs_lt hT
  refine Tri.enter (bx := []) (hp := []) Tryz.func46 rfl (by kernel_rfl) rfl (Own.nil w) ?_
  refine At.go [] [] rfl (by and_intros <;> first | exact fM | exact oK) ?_
  refine At.bo fun b3 hb3 => ?_
  refine At.al fun b4 hb4 => ?_
  refine At.go [false] [hB 1, hC (.bool true), hB 1] rfl (by and_intros <;> first | exact fM | exact oK) ?_
  refine At.bo fun b20 hb20 => ?_
  refine At.go [] [] rfl (by and_intros <;> first | exact fM | exact oK) ?_
  have h20 : w.heap.size ≤ b20 := hb20
  refine At.step [] rfl rfl rfl rfl rfl trivial (OpOk.callO [true, false, false] [] rfl rfl (fun w' hw' ho => Tryz.run_w S n c1 c3 c4 fa fc b20 w' hlen hSb hns hn (hfr.ext hw'.ext (by simp [kys])) (Tryz.tabs_ext0 hT hw'.ext) ho (fun q hq => by have := hflt q hq; omega) (fun q hq => by have := htlt q hq; omega)) ?_)
  have hok := verF_ok (S := S) (per := c1) (n := n)
  have hmy := fun x (h : x ∈ (headsF S n).1) => mayH_in (headsF_may h)
  have hHf := headsF_few (n := (n : Int)) hSb
  rintro v bx hp h
  rcases h with ⟨he, rfl, ⟨cs, rfl⟩, rfl⟩ | ⟨he, gh, hc, g, c, gt, tc, rfl, rfl, rfl⟩
  · rw [show sealD n (verF S c1 n) = ([], 0, 0) from if_pos he]
    generalize verF S c1 n = X at he
    refine At.go [true] [hB 1] rfl (by and_intros <;> first | (simp [he]; done) | exact oK) ?_
    refine At.rt [] [] [hB 1] Tryz.func46 ?_
    exact ⟨rfl, rfl, rfl⟩
  · rw [show sealD n (verF S c1 n) = ((chainB n (verF S c1 n).H).1, (verF S c1 n).H.length, (verF S c1 n).R.length) from if_neg (by simpa using he)]
    have hH := (hok he).1
    rw [← hH] at hmy hHf
    rw [he]
    generalize verF S c1 n = X at he hmy hHf
    clear hok hH
    have fC : ∀ {bx : Bx} {hp : List Seg}, nth hp 2 = some (Seg.row gh 46 6 X.H.length hc (X.H.flatMap hdC)) → CallOb Tryz.prog ⟨w, kys [] []⟩ bx hp 84 [.slice (svA gh) X.H.length hc, .int .i64 n] (.tuple #[str (chainB n X.H).1, .int .i64 (if (chainB n X.H).2 = true then 0 else 10)]) := fun {_ _} h w' hw' =>
      Tryz.hChain_w X.H n (svA gh) hc w' (by omega) (fun x hx => by have := hmy x hx; omega) hn (SlOk.row (hw'.hp _ (nth_mem h))) (Tryz.tabs_ext0 hT hw'.ext).1
    refine At.go [false] [] rfl (by and_intros <;> first | exact fC rfl | (simp; done) | exact oK) ?_
    refine At.qt [] [hB 0, hB 2, hC (.tuple { toList := [.string { data := (chainB n X.H).fst.toArray }, .int .i64 (if (chainB n X.H).snd = true then 0 else 10)] })] rfl rfl (by and_intros <;> first | exact fC rfl | (simp; done) | exact oK) ?_
    refine At.go [] [] rfl (by and_intros <;> first | exact fC rfl | (simp; done) | exact oK) ?_
    refine At.dr 16 ?_
    refine AtD.pu [0, 1, 6, 12] 12 rfl (by and_intros <;> first | exact fC rfl | (simp; done) | exact oK) ?_
    refine AtD.pu [2, 7] 10 rfl (by and_intros <;> first | exact fC rfl | (simp; done) | exact oK) ?_
    refine AtD.pu [3, 8] 8 rfl (by and_intros <;> first | exact fC rfl | (simp; done) | exact oK) ?_
    refine AtD.lx [4, 5, 9, 10, 11] 3 [] [hB 0, hB 0] rfl (by and_intros <;> first | exact fC rfl | (simp; done) | exact oK) ?_
    refine AtD.f1 13 [] [] [hB 1] rfl rfl rfl (by first | exact fC rfl | (simp; done) | exact oK) (by first | exact fC rfl | (simp; done) | exact oK) ?_
    refine AtD.pu [14] 1 rfl (by and_intros <;> first | exact fC rfl | (simp; done) | exact oK) ?_
    refine AtD.pu [15] 0 rfl (by and_intros <;> first | exact fC rfl | (simp; done) | exact oK) ?_
    refine AtD.dn ?_
    refine At.go [] [] rfl (by and_intros <;> first | exact fC rfl | (simp; done) | exact oK) ?_
    refine At.rt [] [] [hB 1] Tryz.func46 ?_
    exact ⟨rfl, rfl, rfl⟩
/-- Accepted? -/
theorem Tryz.Accepts_w (S : FL) (n c1 c3 c4 : Int) (hs : List UInt8) (sg : Int) (s : List UInt8 × Nat × Nat) (k e : Int) (fa : Option Addr) (fc : Nat) (w : World)
    (hV : ∀ w', Ext [] w w' → Fun Tryz.prog 46 [.slice fa S.length fc, .agg ⟨[.int .i64 c1, .int .i64 n, .int .i64 c3, .int .i64 c4]⟩] w' (.tuple #[.agg ⟨sdC s⟩, .int .i64 k, .int .i64 e])) :
    Fun Tryz.prog 14 [.slice fa S.length fc, .agg ⟨[.int .i64 c1, .int .i64 n, .int .i64 c3, .int .i64 c4]⟩, str hs, .int .i64 sg] w (.bool (decide (e = 0 ∧ s.1 = hs ∧ (s.2.1 : Int) = sg))) := by
  have fV : ∀ {bx : Bx} {hp : List Seg}, CallOb Tryz.prog ⟨w, kys [] []⟩ bx hp 46 [.slice fa S.length fc, .agg ⟨[.int .i64 c1, .int .i64 n, .int .i64 c3, .int .i64 c4]⟩] (.tuple #[.agg ⟨[str s.1, .int .i64 s.2.1, .int .i64 s.2.2]⟩, .int .i64 k, .int .i64 e]) := fun {_ _} w' hw' => hV w' hw'.ext
  obtain ⟨s1, s2, s3⟩ := s
  simp only at fV ⊢
  refine Tri.enter (bx := []) (hp := []) Tryz.func14 rfl (by kernel_rfl) rfl (Own.nil w) ?_
  by_cases h1 : e = 0
  · by_cases h2 : s1 = hs
    · refine At.go [] [] rfl (by and_intros <;> first | exact fV | exact decide_eq_true h1 | (simp; done) | exact oK) ?_
      refine At.bo fun b5 hb5 => ?_
      refine At.go [] [hB 0, hC (.tuple { toList := [.agg { toList := [.string { data := s1.toArray }, .int .i64 ↑s2, .int .i64 ↑s3] }, .int .i64 k, .int .i64 e] })] rfl (by and_intros <;> first | exact fV | exact decide_eq_true h1 | (simp; done) | exact oK) ?_
      refine At.al fun b9 hb9 => ?_
      refine At.go [true, true] [hB 0, hB 0, hB 0] rfl (by and_intros <;> first | exact fV | exact decide_eq_true h1 | (simp [h2]; done) | exact oK) ?_
      refine At.rt [] [] [] Tryz.func14 ?_
      exact ⟨by simp [tupV, h1, h2], rfl, rfl⟩
    · refine At.go [] [] rfl (by and_intros <;> first | exact fV | exact decide_eq_true h1 | (simp; done) | exact oK) ?_
      refine At.bo fun b5 hb5 => ?_
      refine At.go [] [hB 0, hC (.tuple { toList := [.agg { toList := [.string { data := s1.toArray }, .int .i64 ↑s2, .int .i64 ↑s3] }, .int .i64 k, .int .i64 e] })] rfl (by and_intros <;> first | exact fV | exact decide_eq_true h1 | (simp; done) | exact oK) ?_
      refine At.al fun b9 hb9 => ?_
      refine At.go [true, false] [hB 0, hB 0] rfl (by and_intros <;> first | exact fV | exact decide_eq_true h1 | (simp [h2]; done) | exact oK) ?_
      refine At.rt [] [] [] Tryz.func14 ?_
      exact ⟨by simp [tupV, h1, h2], rfl, rfl⟩
  · refine At.go [] [] rfl (by and_intros <;> first | exact fV | exact decide_eq_false h1 | (simp; done) | exact oK) ?_
    refine At.bo fun b5 hb5 => ?_
    refine At.go [] [hB 0, hC (.tuple { toList := [.agg { toList := [.string { data := s1.toArray }, .int .i64 ↑s2, .int .i64 ↑s3] }, .int .i64 k, .int .i64 e] })] rfl (by and_intros <;> first | exact fV | exact decide_eq_false h1 | (simp; done) | exact oK) ?_
    refine At.al fun b9 hb9 => ?_
    refine At.go [false, false] [hB 0] rfl (by and_intros <;> first | exact fV | exact decide_eq_false h1 | (simp; done) | exact oK) ?_
    refine At.rt [] [] [] Tryz.func14 ?_
    exact ⟨by simp [tupV, h1], rfl, rfl⟩
end Go.Proofs

/-
  Plain laws: the rows of sealed segments, each as many; a row's place.
-/
namespace Go.Proofs
open Go Go.Eng
set_option maxRecDepth 100000
set_option maxHeartbeats 4000000
attribute [local irreducible] Tri

/-- Where a row of sealed segments lies. -/
structure PlaceOk (S : FL) (P n i : Nat) (R : List (List UInt8)) (H : List HdB) : Prop where
  kH : i / P < H.length
  seg : (R.drop (i / P * P)).take P = (segF S ((i / P : Nat) : Int)).1
  len : (segF S ((i / P : Nat) : Int)).1.length = P
  fit : (i / P + 1) * P ≤ R.length
  row : R[i]? = (segF S ((i / P : Nat) : Int)).1[i % P]?
  root : rootB n (segF S ((i / P : Nat) : Int)).1 = (hdAt H (i / P)).r
  can : mayH (hdAt H (i / P)) n = true
end Go.Proofs

/-
  Plain laws of layers 4 and 25: a clash of two lists with one root, and of two images.
-/
namespace Go.Proofs
open Go Go.Eng
set_option maxRecDepth 100000
set_option maxHeartbeats 4000000
attribute [local irreducible] Tri

instance : DecidableEq HdB := fun x y => decidable_of_iff (x.i = y.i ∧ x.f = y.f ∧ x.c = y.c ∧ x.b = y.b ∧ x.p = y.p ∧ x.r = y.r) (by cases x; cases y; simp)
/-- Rows of one segment. -/
def segK (P : Nat) (R : List (List UInt8)) (k : Nat) : List (List UInt8) := (R.drop (k * P)).take P
/-- What the found rows of two images obey. -/
structure FndOk (P n : Nat) (X : FndB) : Prop where
  len : X.R.length = P * X.H.length
  ch : (chainB n X.H).2 = true
  can : ∀ k, k < X.H.length → mayH (hdAt X.H k) n = true
  root : ∀ k, k < X.H.length → rootB n (segK P X.R k) = (hdAt X.H k).r
  sl : ∀ k, k < X.H.length → (segK P X.R k).length = P
  fit : ∀ k, k < X.H.length → (k + 1) * P ≤ X.R.length
end Go.Proofs

/-
  Plain laws of layers 7, 8, 9, 19, 22: a log's files, written and read again.
-/
namespace Go.Proofs
open Go Go.Eng
set_option maxRecDepth 100000
set_option maxHeartbeats 4000000
attribute [local irreducible] Tri

theorem readN_cons (p : List UInt8 × List UInt8) (S : FL) (m : List UInt8) : readN (p :: S) m = if p.1 = m then p.2 else readN S m := by
  unfold readN; rw [List.find?_cons]; by_cases h : p.1 = m <;> simp [h]
theorem readN_nil (m : List UInt8) : readN [] m = [] := rfl
theorem readN_filter {n m : List UInt8} (h : m ≠ n) : ∀ S : FL, readN (S.filter fun q => !decide (q.1 = n)) m = readN S m
  | [] => rfl
  | p :: l => by
    rw [List.filter_cons, readN_cons]
    by_cases hp : p.1 = n
    · rw [if_neg (by simp [hp]), readN_filter h l, if_neg (fun e => h (e.symm.trans hp))]
    · rw [if_pos (by simp [hp]), readN_cons, readN_filter h l]
/-- What is read behind a file that was set. -/
theorem readN_set (n s m : List UInt8) : ∀ S : FL, readN (setN n s S) m = if m = n then s else readN S m
  | [] => by
    unfold setN
    by_cases hs : s = []
    · rw [if_pos hs, readN_nil, hs]; split <;> rfl
    · rw [if_neg hs, readN_cons, readN_nil]
      by_cases h : m = n
      · rw [if_pos h, if_pos h.symm]
      · rw [if_neg h, if_neg (Ne.symm h)]
  | p :: l => by
    unfold setN
    by_cases hp : Op.bytesLess p.1 n = true
    · rw [if_pos hp, readN_cons, readN_cons, readN_set n s m l]
      by_cases h : p.1 = m
      · have : m ≠ n := fun e => less_ne hp (h.trans e)
        rw [if_pos h, if_neg this, if_pos h]
      · rw [if_neg h, if_neg h]
    · rw [if_neg hp]
      by_cases h : m = n
      · rw [if_pos h]
        by_cases hs : s = []
        · rw [if_pos hs, List.nil_append, hs]
          exact readF_none fun q hq => by
            have := (List.mem_filter.1 hq).2
            simp only [Bool.not_eq_true', decide_eq_false_iff_not] at this
            rw [h]; exact this
        · rw [if_neg hs, List.singleton_append, readN_cons, if_pos h.symm]
      · rw [if_neg h, ← readN_filter h (p :: l)]
        by_cases hs : s = []
        · rw [if_pos hs, List.nil_append]
        · rw [if_neg hs, List.singleton_append, readN_cons, if_neg (Ne.symm h)]
/-- A row's frame. -/
def wrapL (s : List UInt8) : List UInt8 := rowL s ++ [165]
theorem wrapL_eq (s rest : List UInt8) : wrapL s ++ rest = numL s.length ++ (s ++ 165 :: rest) := by simp [wrapL, rowL]
theorem wrapL_len (s : List UInt8) : (wrapL s).length = (numL s.length).length + s.length + 1 := by simp [wrapL, rowL]; omega
theorem frB_wrap {s : List UInt8} (rest : List UInt8) (h1 : 1 ≤ s.length) (h2 : s.length ≤ 65536) : frB (wrapL s ++ rest) = (s, (wrapL s).length, 0) := by
  have e := wrapL_eq s rest
  have h := rdN_put (l := wrapL s ++ rest) (a := 0) (n := s.length) (most := 65536) (rest := s ++ 165 :: rest) (by omega) h2 (by rw [List.drop_zero, e])
  have hl : (wrapL s ++ rest).length = (numL s.length).length + s.length + 1 + rest.length := by rw [List.length_append, wrapL_len]
  unfold frB
  rw [if_neg (by intro h0; rw [h0] at hl; simp only [List.length_nil] at hl; omega), h]
  simp only [Nat.zero_add, ne_eq, not_true_eq_false, if_false]
  rw [if_neg (by omega), if_neg (by omega), e]
  rw [List.getElem?_append_right (by omega), Nat.add_sub_cancel_left, List.getElem?_append_right (Nat.le_refl _), Nat.sub_self, if_neg (by simp), List.drop_left, List.take_left, wrapL_len]
theorem scan_wraps : ∀ R : List (List UInt8), (∀ x, x ∈ R → 1 ≤ x.length ∧ x.length ≤ 65536) → scan (R.flatMap wrapL) = R.map fun s => (s, (wrapL s).length)
  | [], _ => rfl
  | x :: R, h => by
    have hx := h x (by simp)
    have hf := frB_wrap (R.flatMap wrapL) hx.1 hx.2
    rw [List.flatMap_cons, scan_next (by rw [hf]), hf]
    simp only [List.map_cons]
    rw [List.drop_left, scan_wraps R fun y hy => h y (List.mem_cons_of_mem _ hy)]
theorem frows_wraps {R : List (List UInt8)} (h : ∀ x, x ∈ R → 1 ≤ x.length ∧ x.length ≤ 65536) : frowsB (R.flatMap wrapL) = R := by
  unfold frowsB; rw [scan_wraps R h, List.map_map]; exact List.map_id R
theorem just_wraps {R : List (List UInt8)} (h : ∀ x, x ∈ R → 1 ≤ x.length ∧ x.length ≤ 65536) : justB (R.flatMap wrapL) = true := by
  unfold justB sizeB
  rw [scan_wraps R h, List.map_map, List.length_flatMap]
  exact decide_eq_true rfl
/-- A header's bytes, read again. -/
theorem rdW_put {l : List UInt8} {a : Nat} {m : Int} {x rest : List UInt8} (hx : x.length < 18446744073709551616) (hm : (x.length : Int) ≤ m) (h : l.drop a = rowL x ++ rest) : rdW l a 0 m = (x, a + (rowL x).length, 0) := by
  have e : rowL x ++ rest = numL x.length ++ (x ++ rest) := by simp [rowL]
  have hl := congrArg List.length h
  rw [List.length_drop, e, List.length_append, List.length_append] at hl
  have hd : l.drop (a + (numL x.length).length) = x ++ rest := by rw [← List.drop_drop, h, e, List.drop_left]
  unfold rdW
  rw [h, e, digP_put0 hx]
  simp only [ne_eq, not_true_eq_false, if_false]
  rw [if_neg (by omega), if_neg (by omega), hd, List.take_left]
  simp only [rowL, List.length_append, Nat.add_assoc]
theorem hdG_put {h : HdB} {n : Nat} (hm : mayH h n = true) (hn : n ≤ 32) : hdG (putH h) n = (h, 0) := by
  have mx := mayH_in hm
  obtain ⟨l, hl⟩ : ∃ l, putH h = l := ⟨_, rfl⟩
  have e0 : l.drop 0 = numL h.i.toNat ++ (numL h.f.toNat ++ (numL h.c.toNat ++ (numL h.b.toNat ++ (rowL h.p ++ (rowL h.r ++ []))))) := by rw [← hl]; simp [putH]
  have step : ∀ {a : Nat} {p q : List UInt8}, l.drop a = p ++ q → l.drop (a + p.length) = q := fun {a p q} e => by rw [← List.drop_drop, e, List.drop_left]
  have e1 := step e0
  have e2 := step e1
  have e3 := step e2
  have e4 := step e3
  have e5 := step e4
  have e6 := congrArg List.length (step e5)
  have r1 := rdN_put (most := 1099511627776) (by omega) (by omega) e0
  have r2 := rdN_put (most := 1099511627776) (by omega) (by omega) e1
  have r3 := rdN_put (most := 64) (by omega) (by omega) e2
  have r4 := rdN_put (most := 1099511627776) (by omega) (by omega) e3
  have r5 := rdW_put (m := (n : Int)) (by omega) (by omega) e4
  have r6 := rdW_put (m := (n : Int)) (by omega) (by omega) e5
  rw [List.length_drop] at e6
  simp only [List.length_nil] at e6
  obtain ⟨i, f, c, b, p, r⟩ := h
  simp only at *
  have hR : hdR (putH ⟨i, f, c, b, p, r⟩) n = ⟨⟨i, f, c, b, p, r⟩, 0 + (numL i.toNat).length + (numL f.toNat).length + (numL c.toNat).length + (numL b.toNat).length + (rowL p).length + (rowL r).length, 0⟩ := by
    rw [hl]
    unfold hdR
    simp only [r1, r2, r3, r4, r5, r6]
    simp only [HdR.mk.injEq, HdB.mk.injEq]
    exact ⟨⟨by omega, by omega, by omega, by omega, trivial, trivial⟩, trivial, trivial⟩
  unfold hdG
  rw [hR, hl]
  simp only [ne_eq, not_true_eq_false, if_false]
  rw [if_neg (by rw [hm]; intro h; rcases h with h | h; omega; cases h)]
theorem hsB_puts {n : Nat} (hn : n ≤ 32) : ∀ L : List HdB, (∀ x, x ∈ L → mayH x n = true) → hsB n (L.map putH) = (L, true)
  | [], _ => rfl
  | x :: L, h => by
    have hx := hdG_put (h x (by simp)) hn
    rw [List.map_cons, hsB, hx, hsB_puts hn L fun y hy => h y (List.mem_cons_of_mem _ hy)]
    simp
theorem numL_pos (k : Nat) : 1 ≤ (numL k).length := by
  by_cases h : k < 128
  · rw [numL_small h]; simp
  · rw [numL_big (by omega)]; simp
/-- Names of segments. -/
theorem nmB_inj {c : UInt8} {k j : Nat} (hk : k ≤ 1099511627776) (hj : j ≤ 1099511627776) (h : nmB c k = nmB c j) : k = j := by
  unfold nmB at h
  rw [if_pos (by omega), if_pos (by omega)] at h
  have := itoa_inj (by simp only [inK]; omega) (by simp only [inK]; omega) (List.cons.inj h).2
  omega
theorem nmB_ne {c : UInt8} {k : Nat} (hk : k ≤ 1099511627776) : nmB c k ≠ [] := by unfold nmB; rw [if_pos (by omega)]; simp
theorem nmB_heads {k : Nat} (hk : k ≤ 1099511627776) : nmB 115 k ≠ headsB := by
  unfold nmB headsB; rw [if_pos (by omega)]; intro h; cases h
theorem kindB_nm {k : Nat} (hk : k ≤ 1099511627776) : kindB (nmB 115 k) = (1, (k : Int), true) := by
  have h1 := nmB_heads hk
  unfold kindB
  rw [if_neg h1]
  unfold nmB
  rw [if_pos (by omega)]
  have : Lib.itoa (k : Int) = Lib.decDigits k := by unfold Lib.itoa; rw [if_neg (by omega)]; simp
  rw [this]
  simp [numS_dec hk]
/-- The segments' files of a log of the first rows. -/
def logF (P : Nat) (R : List (List UInt8)) : Nat → FL
  | 0 => []
  | i + 1 => setN (nmB 115 ((i / P : Nat) : Int)) (readN (logF P R i) (nmB 115 ((i / P : Nat) : Int)) ++ wrapL (R[i]?.getD [])) (logF P R i)
theorem segK_snoc {P i k : Nat} {R : List (List UInt8)} (hP : 1 ≤ P) (hi : i < R.length) : segK P (R.take (i + 1)) k = segK P (R.take i) k ++ if k = i / P then [R[i]?.getD []] else [] := by
  have hx : R[i]?.getD [] = R[i] := by rw [List.getElem?_eq_getElem hi]; rfl
  have ht : R.take (i + 1) = R.take i ++ [R[i]] := by rw [List.take_add_one, List.getElem?_eq_getElem hi]; rfl
  have hl : (R.take i).length = i := by rw [List.length_take]; omega
  have hd : i = P * (i / P) + i % P := (Nat.div_add_mod i P).symm
  have hm : i % P < P := Nat.mod_lt _ (by omega)
  rw [hx, ht]
  unfold segK
  by_cases h1 : k = i / P
  · rw [if_pos h1]
    have hk : k * P = P * (i / P) := by rw [h1, Nat.mul_comm]
    rw [List.drop_append_of_le_length (by rw [hl]; omega), List.take_of_length_le (l := List.drop (k * P) (List.take i R) ++ [R[i]]) (by rw [List.length_append, List.length_drop, hl, List.length_singleton]; omega), List.take_of_length_le (l := List.drop (k * P) (List.take i R)) (by rw [List.length_drop, hl]; omega)]
  · rw [if_neg h1, List.append_nil]
    by_cases h2 : k < i / P
    · have h3 : (k + 1) * P ≤ P * (i / P) := by rw [Nat.mul_comm P]; exact Nat.mul_le_mul_right P h2
      rw [Nat.add_mul] at h3
      rw [List.drop_append_of_le_length (by rw [hl]; omega), List.take_append_of_le_length (by rw [List.length_drop, hl]; omega)]
    · have h3 : (i / P + 1) * P ≤ k * P := Nat.mul_le_mul_right P (by omega)
      rw [Nat.add_mul, Nat.mul_comm] at h3
      rw [List.drop_of_length_le (by rw [List.length_append, hl, List.length_singleton]; omega), List.drop_of_length_le (by rw [hl]; omega)]
theorem logF_read {P : Nat} {R : List (List UInt8)} (hP : 1 ≤ P) (hR : R.length ≤ 1000000) {k : Nat} (hk : k ≤ 1000000) : ∀ i, i ≤ R.length → readN (logF P R i) (nmB 115 (k : Int)) = (segK P (R.take i) k).flatMap wrapL
  | 0, _ => by simp [logF, readN_nil, segK]
  | i + 1, hi => by
    have ih := logF_read hP hR hk i (by omega)
    have hd : i / P ≤ i := Nat.div_le_self i P
    rw [logF, readN_set, segK_snoc hP (by omega), List.flatMap_append]
    by_cases h : k = i / P
    · subst h
      rw [if_pos rfl, if_pos rfl, ih]; simp
    · rw [if_neg (fun e => h (nmB_inj (by omega) (by omega) e)), if_neg h, ih]; simp
theorem logF_mem {P : Nat} {R : List (List UInt8)} {m : Nat} (hm : ∀ x, x ∈ R → x.length ≤ m) (hs : m < 16384) : ∀ i, i ≤ R.length → ∀ p, p ∈ logF P R i → (∃ k, k * P < i ∧ k ≤ i ∧ p.1 = nmB 115 ((k : Nat) : Int)) ∧ p.2.length ≤ i * (m + 3)
  | 0, _, p, hp => by cases hp
  | i + 1, hi, p, hp => by
    have ih := logF_mem (P := P) hm hs i (by omega)
    rw [logF] at hp
    have hd : P * (i / P) ≤ i := Nat.mul_div_le i P
    have hw : (wrapL (R[i]?.getD [])).length ≤ m + 3 := by
      rw [List.getElem?_eq_getElem (by omega : i < R.length)]
      have h1 := hm _ (List.getElem_mem (by omega : i < R.length))
      have h2 := numL_len 1 R[i].length (by omega)
      rw [wrapL_len]; simp only [Option.getD_some]; omega
    rcases (setN_mem _ _ _ _).1 hp with ⟨-, rfl⟩ | ⟨h1, -⟩
    · refine ⟨⟨i / P, by rw [Nat.mul_comm]; omega, by have := Nat.div_le_self i P; omega, rfl⟩, ?_⟩
      have h3 : (readN (logF P R i) (nmB 115 ((i / P : Nat) : Int))).length ≤ i * (m + 3) := readF_len fun q hq => (ih q hq).2
      rw [List.length_append, Nat.add_mul]; omega
    · obtain ⟨⟨k, h2, h3, h4⟩, h5⟩ := ih p h1
      exact ⟨⟨k, by omega, by omega, h4⟩, by rw [Nat.add_mul]; omega⟩
theorem setN_few (n s : List UInt8) : ∀ S : FL, (setN n s S).length ≤ S.length + 1
  | [] => by unfold setN; split <;> simp
  | p :: l => by
    unfold setN
    split
    · have := setN_few n s l; simp only [List.length_cons]; omega
    · rw [List.length_append]
      have h1 := List.length_filter_le (fun q : List UInt8 × List UInt8 => !decide (q.1 = n)) (p :: l)
      split <;> simp only [List.length_nil, List.length_cons] at * <;> omega
theorem logF_few (P : Nat) (R : List (List UInt8)) : ∀ i, (logF P R i).length ≤ i
  | 0 => Nat.le_refl _
  | i + 1 => by have := setN_few (nmB 115 ((i / P : Nat) : Int)) (readN (logF P R i) (nmB 115 ((i / P : Nat) : Int)) ++ wrapL (R[i]?.getD [])) (logF P R i); have := logF_few P R i; rw [logF]; omega
/-- A log's headers. -/
def mkH (P n : Nat) (R : List (List UInt8)) (k : Nat) (p : List UInt8) : HdB := ⟨k, (k * P : Nat), P, sumL (segK P R k), p, rootB n (segK P R k)⟩
def prevB (P n : Nat) (R : List (List UInt8)) : Nat → List UInt8
  | 0 => cutH n []
  | k + 1 => hashH n (mkH P n R k (prevB P n R k))
def hdK (P n : Nat) (R : List (List UInt8)) (k : Nat) : HdB := mkH P n R k (prevB P n R k)
def hdsB (P n : Nat) (R : List (List UInt8)) (m : Nat) : List HdB := (List.range m).map (hdK P n R)
theorem prevB_len {P n : Nat} (hn : n ≤ 32) (R : List (List UInt8)) (k : Nat) : (prevB P n R k).length = n := by
  cases k with
  | zero => exact cutH_len hn _
  | succ k => exact cutH_len hn _
theorem sumL_few {m : Nat} : ∀ {l : List (List UInt8)}, (∀ x, x ∈ l → x.length ≤ m) → sumL l ≤ l.length * m
  | [], _ => by simp [sumL]
  | x :: l, h => by
    have h1 := h x (by simp)
    have h2 := sumL_few fun y hy => h y (List.mem_cons_of_mem x hy)
    have e : sumL (x :: l) = x.length + sumL l := by simp [sumL]
    rw [e, List.length_cons, Nat.add_mul]; omega
theorem segK_mem0 {P k : Nat} {R : List (List UInt8)} {x : List UInt8} (h : x ∈ segK P R k) : x ∈ R := List.mem_of_mem_drop (List.mem_of_mem_take h)
theorem putH_short {h : HdB} {n : Nat} (hm : mayH h n = true) (hn : n ≤ 32) : 1 ≤ (putH h).length ∧ (putH h).length ≤ 65536 := by
  have mx := mayH_in hm
  have n1 := numL_len10 h.i.toNat (by omega)
  have n2 := numL_len10 h.f.toNat (by omega)
  have n3 := numL_len10 h.c.toNat (by omega)
  have n4 := numL_len10 h.b.toNat (by omega)
  have n5 := numL_len10 h.p.length (by omega)
  have n6 := numL_len10 h.r.length (by omega)
  have n7 := numL_pos h.i.toNat
  simp only [putH, rowL, List.length_append]
  omega
theorem hdK_may {P n : Nat} {R : List (List UInt8)} {k : Nat} (hP : 1 ≤ P ∧ P ≤ 64) (hn : n ≤ 32) (hR : R.length ≤ 1000000) (hx : ∀ x, x ∈ R → x.length ≤ 1000000) (hk : (k + 1) * P ≤ R.length) : mayH (hdK P n R k) n = true := by
  have h1 := prevB_len (P := P) hn R k
  have h2 := rootB_len hn (segK P R k)
  have h3 := sumL_few (l := segK P R k) fun x h => hx x (segK_mem0 h)
  have h4 : (segK P R k).length ≤ 64 := by unfold segK; rw [List.length_take]; omega
  have h5 : (segK P R k).length * 1000000 ≤ 64 * 1000000 := Nat.mul_le_mul_right _ h4
  rw [Nat.add_mul] at hk
  have h6 : k ≤ k * P := Nat.le_mul_of_pos_right k (by omega)
  unfold hdK mkH mayH
  simp only
  exact decide_eq_true (by refine ⟨?_, ?_, ?_, ?_, ?_, ?_, ?_, ?_, ?_, ?_⟩ <;> omega)
theorem chB_hds {P n : Nat} {R : List (List UInt8)} : ∀ (m k : Nat), (∀ j, j < k + m → mayH (hdK P n R j) n = true) → chB n ((List.range m).map fun j => hdK P n R (k + j)) k ((k * P : Nat) : Int) (prevB P n R k) = (prevB P n R (k + m), true)
  | 0, k, _ => by simp [chB]
  | m + 1, k, h => by
    rw [List.range_succ_eq_map, List.map_cons, List.map_map]
    show chB n (hdK P n R k :: _) _ _ _ = _
    rw [chB_ok (i := (k : Int)) (f := ((k * P : Nat) : Int)) (p := prevB P n R k) ⟨h k (by omega), rfl, rfl, rfl⟩]
    have ih := chB_hds m (k + 1) fun j hj => h j (by omega)
    have e1 : ((fun j => hdK P n R (k + j)) ∘ Nat.succ) = fun j => hdK P n R (k + 1 + j) := by
      funext j; simp only [Function.comp]; congr 1; omega
    have e2 : ((k : Int) + 1) = ((k + 1 : Nat) : Int) := by omega
    have e3 : (((k * P : Nat) : Int) + (hdK P n R k).c) = (((k + 1) * P : Nat) : Int) := by
      show (((k * P : Nat) : Int) + (P : Int)) = _
      rw [Nat.add_mul]; omega
    rw [e1, e2, e3, show k + (m + 1) = k + 1 + m by omega]
    exact ih
theorem chain_hds {P n : Nat} {R : List (List UInt8)} {m : Nat} (h : ∀ j, j < m → mayH (hdK P n R j) n = true) : chainB n (hdsB P n R m) = (prevB P n R m, true) := by
  have := chB_hds m 0 (P := P) (n := n) (R := R) (by simpa using h)
  simpa [chainB, hdsB, prevB] using this
theorem hdsB_len (P n : Nat) (R : List (List UInt8)) (m : Nat) : (hdsB P n R m).length = m := by simp [hdsB]
theorem hdsB_at {P n : Nat} {R : List (List UInt8)} {m k : Nat} (h : k < m) : hdAt (hdsB P n R m) k = hdK P n R k := by
  unfold hdAt hdsB; rw [List.getElem?_map, List.getElem?_range h]; rfl
theorem hdsB_take {P n : Nat} {R : List (List UInt8)} {m k : Nat} (h : k ≤ m) : (hdsB P n R m).take k = hdsB P n R k := by
  unfold hdsB; rw [← List.map_take, List.take_range, Nat.min_eq_left h]
/-- A log's files. -/
def filesB (P n : Nat) (R : List (List UInt8)) : FL := setN headsB (((hdsB P n R (R.length / P)).map putH).flatMap wrapL) (logF P R R.length)
theorem fstE_all {g : Nat → Int} : ∀ {m k : Nat}, (∀ j, k ≤ j → j < k + m → g j = 0) → fstE g m k = none
  | 0, _, _ => rfl
  | m + 1, k, h => by
    unfold fstE
    rw [if_neg (by simp [h k (Nat.le_refl _) (by omega)])]
    exact fstE_all fun j h1 h2 => h j (by omega) (by omega)
theorem rowsK_log {F : FL} {P : Nat} {R : List (List UInt8)} : ∀ m, (∀ k, k < m → (segF F ((k : Nat) : Int)).1 = segK P R k) → m * P ≤ R.length → rowsK F m = R.take (m * P)
  | 0, _, _ => by simp [rowsK]
  | m + 1, h, hm => by
    rw [Nat.add_mul] at hm
    rw [rowsK_succ, rowsK_log m (fun k hk => h k (by omega)) (by omega), h m (by omega), segK, Nat.add_mul, Nat.one_mul, List.take_add]
/-- A log's files are verified, all rows told. -/
theorem ver_log {P n : Nat} {R : List (List UInt8)} (hP : 1 ≤ P ∧ P ≤ 64) (hn : 1 ≤ n ∧ n ≤ 32) (hR : R.length ≤ 40) (hx : ∀ x, x ∈ R → 1 ≤ x.length ∧ x.length ≤ 200) :
    verF (filesB P n R) P n = ⟨hdsB P n R (R.length / P), R.take (R.length / P * P), R.drop (R.length / P * P), -1, 0⟩ := by
  obtain ⟨K, hK⟩ : ∃ K, R.length / P = K := ⟨_, rfl⟩
  have hd : P * K ≤ R.length := by rw [← hK]; exact Nat.mul_div_le _ _
  have hd2 : R.length < P * K + P := by
    have := Nat.div_add_mod R.length P
    have h2 := Nat.mod_lt R.length (show 0 < P by omega)
    rw [hK] at this; omega
  have hK40 : K ≤ 40 := by rw [← hK]; have := Nat.div_le_self R.length P; omega
  have hmay : ∀ k, k < K → mayH (hdK P n R k) n = true := fun k hk => hdK_may hP hn.2 (by omega) (fun x h => by have := hx x h; omega) (by
    have : (k + 1) * P ≤ K * P := Nat.mul_le_mul_right P (by omega)
    rw [Nat.mul_comm K] at this; omega)
  have hrow : ∀ {x}, x ∈ (hdsB P n R K).map putH → 1 ≤ x.length ∧ x.length ≤ 65536 := fun {x} h => by
    obtain ⟨y, hy, rfl⟩ := List.mem_map.1 h
    unfold hdsB at hy
    obtain ⟨k, hk, rfl⟩ := List.mem_map.1 hy
    have hmk := hmay k (List.mem_range.1 hk)
    have h1 := putH_short hmk hn.2
    exact h1
  have hread : ∀ k, k ≤ 1000000 → readN (filesB P n R) (nmB 115 ((k : Nat) : Int)) = (segK P R k).flatMap wrapL := fun k hk => by
    unfold filesB
    rw [readN_set, if_neg (nmB_heads (by omega)), logF_read hP.1 (by omega) hk R.length (Nat.le_refl _), List.take_length]
  have hseg : ∀ k, k ≤ 1000000 → segF (filesB P n R) ((k : Nat) : Int) = (segK P R k, true) := fun k hk => by
    have hr : ∀ x, x ∈ segK P R k → 1 ≤ x.length ∧ x.length ≤ 65536 := fun x h => by have := hx x (segK_mem0 h); omega
    unfold segF
    rw [if_neg (nmB_ne (by omega)), hread k hk, frows_wraps hr, just_wraps hr]
  have hheads : headsF (filesB P n R) (n : Int) = (hdsB P n R K, true) := by
    unfold headsF
    rw [if_pos (by omega)]
    have : readN (filesB P n R) headsB = ((hdsB P n R K).map putH).flatMap wrapL := by
      unfold filesB; rw [readN_set, if_pos rfl, hK]
    rw [this, frows_wraps (fun x h => hrow h), just_wraps (fun x h => hrow h), hsB_puts hn.2 _ fun x h => by
      unfold hdsB at h
      obtain ⟨k, hk, rfl⟩ := List.mem_map.1 h
      exact hmay k (List.mem_range.1 hk)]
    rfl
  have hlK : ∀ k, k < K → (segK P R k).length = P := fun k hk => by
    have : (k + 1) * P ≤ K * P := Nat.mul_le_mul_right P (by omega)
    rw [Nat.mul_comm K, Nat.add_mul] at this
    unfold segK; rw [List.length_take, List.length_drop]; omega
  have hE : ∀ k, k < K → segE (filesB P n R) P n (hdsB P n R K) k = 0 := fun k hk => by
    have h1 : (chainB n ((hdsB P n R K).take (k + 1))).2 = true := by rw [hdsB_take (by omega), chain_hds fun j hj => hmay j (by omega)]
    unfold segE
    rw [h1, hdsB_at hk, hseg k (by omega)]
    rw [if_neg (by simp), if_neg (by simp [hdK, mkH]), if_neg (by simp), if_neg (by simp [hdK, mkH, hlK k hk]), if_neg (by simp [hdK, mkH]), if_neg (by simp [hdK, mkH])]
  have hkinds : ∀ x, x ∈ kindsF 1 (filesB P n R) → x ≤ (K : Int) := fun x h => by
    unfold kindsF at h
    obtain ⟨p, hp, hk⟩ := List.mem_filterMap.1 h
    unfold filesB at hp
    rcases (setN_mem _ _ _ _).1 hp with ⟨-, rfl⟩ | ⟨h1, -⟩
    · simp only [kindB, if_true] at hk
      split at hk
      · rename_i h3; cases h3
      · cases hk
    · obtain ⟨⟨k, h2, h3, h4⟩, -⟩ := logF_mem (m := 200) (fun x h => (hx x h).2) (by omega) R.length (Nat.le_refl _) p h1
      rw [h4, kindB_nm (by omega)] at hk
      simp only [if_true, Option.some.injEq] at hk
      have : k ≤ K := by
        rw [← hK]
        exact (Nat.le_div_iff_mul_le (by omega)).2 (by omega)
      omega
  have hnx : nxtL (K : Int) (kindsF 1 (filesB P n R)) = -1 := by
    refine nxt_none (fun x h => (kindsF_in h).1) ?_
    rcases maxL_mem (kindsF 1 (filesB P n R)) (-1) with h | h
    · omega
    · exact hkinds _ h
  rw [verF_end (by rw [hheads]; simp only; rw [hdsB_len]; exact fstE_all fun j _ h => hE j (by omega)), hheads]
  simp only [hdsB_len]
  rw [hseg K (by omega), hnx, hK]
  have htl : segK P R K = R.drop (K * P) := by
    unfold segK; rw [List.take_of_length_le (by rw [List.length_drop, Nat.mul_comm]; omega)]
  simp only [htl]
  rw [if_neg (by simp), if_neg (by rw [List.length_drop, Nat.mul_comm]; omega), if_neg (by omega), rowsK_log K (fun k hk => by rw [hseg k (by omega)]) (by rw [Nat.mul_comm]; omega)]
end Go.Proofs

/-
  Walks of layer 22's document: what a verifier finds.
-/
namespace Go.Proofs
open Go Go.Eng
set_option maxRecDepth 100000
set_option maxHeartbeats 4000000
attribute [local irreducible] Tri

end Go.Proofs

/-
  Walks of layer 22's document and of the statements' example: the answer; alive.
-/
namespace Go.Proofs
open Go Go.Eng
set_option maxRecDepth 100000
set_option maxHeartbeats 4000000
attribute [local irreducible] Tri

theorem ex_nm0 : nmB 115 0 = [115, 48] := by
  unfold nmB Lib.itoa
  rw [if_pos (by decide), if_neg (by decide), Lib.decDigits, dif_pos (by decide)]; rfl
def exV : FL := [([115, 48], [113])]
theorem ex_ver0 : verF [] 2 4 = ⟨[], [], [], -1, 0⟩ := by
  have h1 : headsF [] (4 : Nat) = ([], true) := rfl
  have h2 : segF [] ((0 : Nat) : Int) = ([], true) := by
    show segF [] 0 = _
    unfold segF; rw [ex_nm0]; rfl
  have := verF_end (S := []) (per := 2) (n := 4) (by rw [h1]; rfl)
  rw [this, h1]
  simp only [List.length_nil]
  rw [h2]; rfl
theorem ex_ver1 : verF exV 2 4 = ⟨[], [], [], 0, 3⟩ := by
  have h1 : headsF exV (4 : Nat) = ([], true) := by
    unfold headsF; rw [show readN exV headsB = [] from rfl]; rfl
  have h2 : segF exV ((0 : Nat) : Int) = ([], false) := by
    show segF exV 0 = _
    unfold segF; rw [ex_nm0]; decide +kernel
  have := verF_end (S := exV) (per := 2) (n := 4) (by rw [h1]; rfl)
  rw [this, h1]
  simp only [List.length_nil]
  rw [h2]; rfl
set_option maxRecDepth 100000 in
theorem ex_cut : cutH 4 [] = [227, 176, 196, 66] := by
  unfold cutH shaH; decide +kernel
theorem Tryz.alive22_w (w : World) (hT : Tryz.Tabs w) : Fun Tryz.prog 8 [] w (.bool true) := by
  have fV : ∀ {bx : Bx} {hp : List Seg}, CallOb Tryz.prog ⟨w, kys [] []⟩ bx hp 46 [.slice none 0 0, .agg ⟨[.int .i64 2, .int .i64 4, .int .i64 0, .int .i64 9]⟩] (.tuple #[.agg ⟨[str [227, 176, 196, 66], .int .i64 0, .int .i64 0]⟩, .int .i64 (-1), .int .i64 0]) := fun {_ _} w' hw' => by
    have := Tryz.Verify_w [] 4 2 0 9 none 0 w' (by decide) (fun p hp => by cases hp) (fun p hp => by cases hp) (by decide) (.inl rfl) (Tryz.tabs_ext0 hT hw'.ext)
    rw [ex_ver0, show sealD 4 ⟨[], [], [], -1, 0⟩ = (cutH 4 [], 0, 0) from rfl, ex_cut] at this
    exact this
  have fW : ∀ {bx : Bx} {hp : List Seg} (b : Nat), nth bx 0 = some (b, 65, [str [115, 48], str [113]]) → CallOb Tryz.prog ⟨w, kys [] []⟩ bx hp 46 [.slice (some ⟨b, 0, none⟩) 1 1, .agg ⟨[.int .i64 2, .int .i64 4, .int .i64 0, .int .i64 9]⟩] (.tuple #[.agg ⟨[str [], .int .i64 0, .int .i64 0]⟩, .int .i64 0, .int .i64 3]) := fun {_ _} b h w' hw' => by
    have := Tryz.Verify_w exV 4 2 0 9 (some ⟨b, 0, none⟩) 1 w' (by decide) (fun p hp => by simp [exV] at hp; subst hp; decide) (fun p hp => by simp [exV] at hp; subst hp; decide) (by decide) (SlOk.blk (hw'.bx _ (nth_mem h))) (Tryz.tabs_ext0 hT hw'.ext)
    rw [ex_ver1, show sealD 4 ⟨[], [], [], 0, 3⟩ = ([], 0, 0) from rfl] at this
    exact this
  refine Tri.enter (bx := []) (hp := []) Tryz.func8 rfl (by kernel_rfl) rfl (Own.nil w) ?_
  refine At.go [] [] rfl (by and_intros <;> first | exact fV | exact oK) ?_
  refine At.al fun b1 hb1 => ?_
  refine At.go [] [hB 0, hB 0, hC (.tuple { toList := [.agg { toList := [.string { data := #[227, 176, 196, 66] }, .int .i64 0, .int .i64 0] }, .int .i64 (-1), .int .i64 0] })] rfl (by and_intros <;> first | exact fV | exact oK) ?_
  refine At.al fun b2 hb2 => ?_
  refine At.go [] [hB 0] rfl (by and_intros <;> first | exact fV | exact oK) ?_
  refine At.st [] (OpOk.buildSlice rfl rfl rfl rfl rfl rfl rfl (fun bs hbs => ?_))
  refine At.go [] [hB 2, hC (.tuple { toList := [.agg { toList := [.string { data := #[] }, .int .i64 0, .int .i64 0] }, .int .i64 0, .int .i64 3] })] rfl (by and_intros <;> first | exact fW bs rfl | (simp; done) | exact oK) ?_
  refine At.al fun b5 hb5 => ?_
  refine At.go [true, true, true, true] [hB 0, hB 2] rfl (by and_intros <;> first | exact fW bs rfl | (simp; done) | exact oK) ?_
  refine At.rt [] [] [] Tryz.func8 ?_
  exact ⟨rfl, rfl, rfl⟩
end Go.Proofs

/-
  Walk of the statement VerifyTells.
-/
namespace Go.Proofs
open Go Go.Eng
set_option maxRecDepth 100000
set_option maxHeartbeats 4000000
attribute [local irreducible] Tri

theorem Tryz.key_cells : cellsT Tryz.prog 31 (.agg ⟨keyC⟩) = some (keyC, ∀ u, u ∈ keyC → u.oneCell' = true) := by
  unfold cellsT
  rw [show aggT Tryz.prog 31 = some true by rfl, show szT Tryz.prog 31 = some 72 by rfl]
  simp only [keyC_len]; rfl
theorem key_ones : ∀ u, u ∈ keyC → u.oneCell' = true := by
  rw [keyC_eq]; exact all1 rfl
theorem key_put {l : List Value} (h : l.length = 72) : putL l 0 keyC = keyC := by
  rw [putL_eq keyC l 0 (by rw [keyC_len]; omega), keyC_len, List.drop_of_length_le (by omega)]; simp
end Go.Proofs

/-
  Walks: lists of strings alike; the statement's example of layer 21.
-/
namespace Go.Proofs
open Go Go.Eng
set_option maxRecDepth 100000
set_option maxHeartbeats 4000000
attribute [local irreducible] Tri

theorem same_no {A B : List (List UInt8)} (hl : A.length = B.length) (h : ∀ j, j < A.length → A[j]? = B[j]?) : A = B := by
  apply List.ext_getElem?
  intro j
  by_cases hj : j < A.length
  · exact h j hj
  · rw [List.getElem?_eq_none (by omega), List.getElem?_eq_none (by omega)]
theorem Tryz.same03_w (A B : List (List UInt8)) (a b : Option Addr) (ca cb : Nat) (w : World) (hla : A.length ≤ 1000000) (_hlb : B.length ≤ 1000000) (ha : SlOk w a (A.map str)) (hb : SlOk w b (B.map str)) :
    Fun Tryz.prog 16 [.slice a A.length ca, .slice b B.length cb] w (.bool (decide (A = B))) := by
  refine Tri.enter (bx := []) (hp := []) Tryz.func16 rfl (by kernel_rfl) rfl (Own.nil w) ?_
  by_cases hl : A.length = B.length
  · refine At.go [false] [] rfl (by and_intros <;> first | (simp [hl]; done) | exact oK) ?_
    refine At.loop (env0 := [(0, .slice a A.length ca), (1, .slice b B.length cb), (5, .int .i64 0)]) (fun m_ env bx hp => ∃ (i : Nat), m_ = A.length - i ∧ (i ≤ A.length) ∧ (∀ j, j < i → A[j]? = B[j]?) ∧ env = [(0, .slice a A.length ca), (1, .slice b B.length cb), (5, .int .i64 i)] ∧ bx = [] ∧ hp = []) rfl
      ⟨0, rfl, (by omega), (fun j h => absurd h (Nat.not_lt_zero j)), rfl, rfl, rfl⟩ sB ?_
    rintro m_ env bx hp ⟨i, rfl, hi, hno, rfl, rfl, rfl⟩ ih
    by_cases hlt : i < A.length
    · obtain ⟨x, hx⟩ : ∃ x, A[i]? = some x := ⟨_, List.getElem?_eq_getElem hlt⟩
      obtain ⟨y, hy⟩ : ∃ y, B[i]? = some y := ⟨_, List.getElem?_eq_getElem (by omega)⟩
      have ex : (A.map str)[i]? = some (str x) := by rw [List.getElem?_map, hx]; rfl
      have ey : (B.map str)[i]? = some (str y) := by rw [List.getElem?_map, hy]; rfl
      obtain ⟨g, o, rfl, hc⟩ := ha.get (by intro h; rw [h] at ex; simp at ex)
      obtain ⟨g', o', rfl, hc'⟩ := hb.get (by intro h; rw [h] at ey; simp at ey)
      have rA : ∀ {bx : Bx} {hp : List Seg}, RdW ⟨w, kys [] []⟩ bx hp g (o + (i : Int).toNat * 1) [str x] := fun {_ _} => RdW.base1 (by simp [kys]) (by rw [Int.toNat_natCast, Nat.mul_one]; exact hc _ _ ex)
      have rB : ∀ {bx : Bx} {hp : List Seg}, RdW ⟨w, kys [] []⟩ bx hp g' (o' + (i : Int).toNat * 1) [str y] := fun {_ _} => RdW.base1 (by simp [kys]) (by rw [Int.toNat_natCast, Nat.mul_one]; exact hc' _ _ ey)
      by_cases hxy : x = y
      · have q1 : (!decide (bl ⟨x.toArray⟩ = bl ⟨y.toArray⟩)) = false := by rw [bl_of, bl_of, decide_eq_true hxy]; rfl
        refine At.go [true] [] rfl (by and_intros <;> first | exact rA | exact rB | exact q1 | exact decide_eq_true (by omega) | exact oK) ?_
        refine At.qt [] [hR [.string { data := x.toArray }], hR [.string { data := y.toArray }]] rfl rfl (by and_intros <;> first | exact rA | exact rB | exact q1 | exact decide_eq_true (by omega) | exact oK) ?_
        refine At.go [false] [] rfl (by and_intros <;> first | exact rA | exact rB | exact q1 | exact decide_eq_true (by omega) | exact oK) ?_
        exact At.weak (ih _ _ _ _ (by omega) ⟨i + 1, rfl, by omega, fun j hj => by by_cases hji : j = i; subst hji; rw [hx, hy, hxy]; exact hno j (by omega), rfl, rfl, rfl⟩) sB
      · have q1 : (!decide (bl ⟨x.toArray⟩ = bl ⟨y.toArray⟩)) = true := by rw [bl_of, bl_of, decide_eq_false hxy]; rfl
        have hne : decide (A = B) = false := decide_eq_false fun h => by rw [h, hy] at hx; exact hxy (Option.some.inj hx).symm
        rw [hne]
        refine At.go [true] [] rfl (by and_intros <;> first | exact rA | exact rB | exact q1 | exact decide_eq_true (by omega) | exact oK) ?_
        refine At.qt [] [hR [.string { data := x.toArray }], hR [.string { data := y.toArray }]] rfl rfl (by and_intros <;> first | exact rA | exact rB | exact q1 | exact decide_eq_true (by omega) | exact oK) ?_
        refine At.go [true] [] rfl (by and_intros <;> first | exact rA | exact rB | exact q1 | exact decide_eq_true (by omega) | exact oK) ?_
        refine At.rt [] [] [] Tryz.func16 ?_
        exact ⟨rfl, rfl, rfl⟩
    · obtain rfl : i = A.length := by omega
      rw [decide_eq_true (same_no hl hno)]
      refine At.go [false] [] rfl (by and_intros <;> first | exact decide_eq_false (by omega) | exact oK) ?_
      refine At.rt [] [] [] Tryz.func16 ?_
      exact ⟨rfl, rfl, rfl⟩
  · rw [decide_eq_false (fun h => hl (by rw [h]) : ¬ A = B)]
    refine At.go [true] [] rfl (by and_intros <;> first | (simp; omega) | exact oK) ?_
    refine At.rt [] [] [] Tryz.func16 ?_
    exact ⟨rfl, rfl, rfl⟩
end Go.Proofs

/-
  Walks of layer 22 and of the statement VerifyRows.
-/
namespace Go.Proofs
open Go Go.Eng
set_option maxRecDepth 100000
set_option maxHeartbeats 4000000
attribute [local irreducible] Tri

/-- A place, and where what was found lies. -/
structure FndI where
  b : Nat
  gh : Option Nat
  hc : Nat
  g : Option Nat
  c : Nat
  gt : Option Nat
  tc : Nat
theorem Tryz.vRows_w (S : FL) (n : Nat) (c1 c3 c4 : Int) (fa : Option Addr) (fc : Nat) (w : World) (hlen : S.length ≤ 60) (hSb : ∀ p, p ∈ S → p.2.length ≤ 9000) (hns : ∀ p, p ∈ S → p.1.length ≤ 9223372036854775807) (hmay : mayCf c1 n c3 c4 = true) (hfr : SlOk w fa (fl S)) (hT : Tryz.Tabs w) :
    Tri Tryz.prog 15 [.slice fa S.length fc, .agg ⟨[.int .i64 c1, .int .i64 n, .int .i64 c3, .int .i64 c4]⟩] w [] (fun v bx hp => ∃ (g : Option Nat) (c : Nat) (gt : Option Nat) (tc : Nat), v = .tuple #[sv g (verF S c1 n).R.length c, sv gt (verF S c1 n).T.length tc, .int .i64 (verF S c1 n).e] ∧ bx = [] ∧ hp = [Seg.row gt 9 1 (verF S c1 n).T.length tc ((verF S c1 n).T.map str), Seg.row g 9 1 (verF S c1 n).R.length c ((verF S c1 n).R.map str)]) := by
  have hin := mayCf_in hmay
  have hn : 1 ≤ n ∧ n ≤ 32 := by omega
  have fM : ∀ {S : Base} {bx : Bx} {hp : List Seg}, CallOb Tryz.prog S bx hp 55 [.agg ⟨[.int .i64 c1, .int .i64 n, .int .i64 c3, .int .i64 c4]⟩] (.bool true) := fun {_ _ _} w' _ => by
    have := Tryz.logMay_w c1 n c3 c4 w'; rwa [hmay] at this
  have hflt := hfr.ltR
  have htlt := Tryz.tabs_lt hT
  have hbad := verF_bad (S := S) (per := c1) (n := n)
  refine Tri.enter (bx := []) (hp := []) Tryz.func15 rfl (by kernel_rfl) rfl (Own.nil w) ?_
  refine At.go [] [] rfl (by and_intros <;> first | exact fM | exact oK) ?_
  refine At.bo fun b3 hb3 => ?_
  refine At.go [false] [hB 0, hC (.bool true), hB 0] rfl (by and_intros <;> first | exact fM | exact oK) ?_
  refine At.bo fun b17 hb17 => ?_
  refine At.go [] [] rfl (by and_intros <;> first | exact fM | exact oK) ?_
  have h17 : w.heap.size ≤ b17 := hb17
  refine At.step [] rfl rfl rfl rfl rfl trivial (OpOk.callO [true, false] [] rfl rfl (fun w' hw' ho => Tryz.run_w S n c1 c3 c4 fa fc b17 w' hlen hSb hns hn (hfr.ext hw'.ext (by simp [kys])) (Tryz.tabs_ext0 hT hw'.ext) ho (fun q hq => by have := hflt q hq; omega) (fun q hq => by have := htlt q hq; omega)) ?_)
  rintro v bx hp h
  rcases h with ⟨he, rfl, ⟨cs, rfl⟩, rfl⟩ | ⟨he, gh, hc, g, c, gt, tc, rfl, rfl, rfl⟩
  · obtain ⟨-, h2, h3⟩ := hbad he
    rw [h2, h3]
    generalize (verF S c1 n).e = e at he
    refine At.go [true] [] rfl (by and_intros <;> first | (simp [he]; done) | exact oK) ?_
    refine At.nilRow 9 1 ?_
    refine At.nilRow 9 1 ?_
    refine At.rt [] [true, true] [] Tryz.func15 ?_
    exact ⟨none, 0, none, 0, rfl, rfl, rfl⟩
  · rw [he]
    generalize verF S c1 n = X at he
    refine At.go [false] [hB 0] rfl (by and_intros <;> first | (simp; done) | exact oK) ?_
    refine At.rt [false, false] [true, true, false] [] Tryz.func15 ?_
    exact ⟨g, c, gt, tc, rfl, rfl, rfl⟩
end Go.Proofs

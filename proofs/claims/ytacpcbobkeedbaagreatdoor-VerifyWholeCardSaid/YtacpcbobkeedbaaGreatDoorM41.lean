/-
  Walks of layer 21: the numbers of files of a kind, the last one.
-/
import Derived.Test.YtacpcbobkeedbaaGreatDoorM16
import Derived.Test.YtacpcbobkeedbaaGreatDoorM7
import Derived.Test.YtacpcbobkeedbaaGreatDoorM30
import Derived.Test.YtacpcbobkeedbaaGreatDoorM37
import Derived.Test.YtacpcbobkeedbaaGreatDoorM12
import Derived.Test.YtacpcbobkeedbaaGreatDoorM36
/-
  Walks of layer 21: the numbers of files of a kind, the last one.
-/
namespace Go.Proofs
open Go Go.Eng
set_option maxRecDepth 100000
set_option maxHeartbeats 4000000
attribute [local irreducible] Tri

theorem take_putN (cur : Array Value) (ts ys : List Int) (h : (ts ++ ys).length ≤ cur.size) : (Sort.putCells (Value.int .i64) 0 (ts ++ ys).toArray cur).toList.take ts.length = ts.map (Value.int .i64) := by
  rw [List.length_append] at h
  apply List.ext_getElem?
  intro j
  by_cases hj : j < ts.length
  · rw [List.getElem?_take_of_lt hj, Array.getElem?_toList]
    simp [Sort.putCells, hj, show j < cur.size by omega, show j < ts.length + ys.length by omega]
  · rw [List.getElem?_take_eq_none (by omega), List.getElem?_eq_none (by simp; omega)]
theorem row_holds {w : World} {g n cap : Nat} {t : TypeId} {ss : List Int} (hn : ss.length = n) (hrow : rowOk w (some g) t 1 n cap (i64s ss)) : Sort.Holds (Value.int .i64) w g 0 ss.toArray := by
  subst hn
  obtain ⟨cur, fr, h1, h2, h3, h4⟩ := hrow.blk g rfl
  have hle := hrow.le
  intro j hj
  have hj' : j < ss.length := by simpa using hj
  have hs : (i64s ss)[j]? = some (.int .i64 ss[j]) := by simp [i64s, hj']
  refine ⟨?_, ?_⟩
  · rw [Nat.zero_add, hrow.cell hs]
    simp [hj', getElem!_pos]
  · rw [Nat.zero_add]
    simp only [World.frozen?, h1]
    rcases h4 with h4 | h4
    · rw [h4]; simp
    · obtain ⟨lo, hi⟩ := fr
      have : ¬ lo ≤ j := by simp only at h4; omega
      simp [this]
/-- A block whose cells are put anew, in a world that may have grown. -/
theorem tri_put {P : Program} {f : FuncId} {args : List Value} {w : World} {g cap : Nat} {t : TypeId} {ss ts ys : List Int} {v : Value} (hrow : rowOk w (some g) t 1 ss.length cap (i64s ss)) (hlen : (ts ++ ys).length = ss.length)
    (hcb : Callable P f) (h : Calls P f ⟨args⟩ w fun e w' => e = .returned v ∧ ∃ q os, w' = Sort.grow (Sort.putRow (Value.int .i64) (Sort.ahead w q) g 0 (ts ++ ys).toArray) os) :
    Tri P f args w (kys [] [Seg.row (some g) t 1 ss.length cap (i64s ss)]) (fun v' bx hp => v' = v ∧ bx = [] ∧ hp = [Seg.row (some g) t 1 ts.length cap (i64s ts)]) := by
  obtain ⟨cur, fr, h1, h2, h3, h4⟩ := hrow.blk g rfl
  have hle := hrow.le
  have hlt := (Array.getElem?_eq_some_iff.1 h1).1
  refine Tri.mk hcb (h.mono ?_)
  rintro e w' ⟨rfl, q, os, rfl⟩
  have hheap : ∀ k, k < w.heap.size → k ≠ g → (Sort.grow (Sort.putRow (Value.int .i64) (Sort.ahead w q) g 0 (ts ++ ys).toArray) os).heap[k]? = w.heap[k]? := by
    intro k hk hne
    rw [Sort.heap_grow_old _ _ (by simpa using hk)]
    simp [Sort.putRow, Sort.mapBlock, Sort.ahead, Array.getElem?_modify, Ne.symm hne]
  have hblk : (Sort.grow (Sort.putRow (Value.int .i64) (Sort.ahead w q) g 0 (ts ++ ys).toArray) os).heap[g]? = some (.cells (Sort.putCells (Value.int .i64) 0 (ts ++ ys).toArray cur) t fr) := by
    rw [Sort.heap_grow_old _ _ (by simpa using hlt)]
    simp [Sort.putRow, Sort.mapBlock, Sort.ahead, Array.getElem?_modify, h1, Sort.onCells]
  have hsz : (Sort.putCells (Value.int .i64) 0 (ts ++ ys).toArray cur).size = cur.size := by simp [Sort.putCells]
  have htk := take_putN cur ts ys (by omega)
  have htl : ts.length ≤ ss.length := by rw [List.length_append] at hlen; omega
  refine ⟨v, [], _, rfl, ⟨rfl, rfl, rfl⟩, ⟨rfl, rfl, rfl, (by first | exact Nat.le_refl _ | exact Nat.le_succ _ | exact Nat.le_add_right _ _), by simp, fun k hk hm => hheap k hk (by simpa [kys, Seg.row] using hm)⟩, ⟨by simp [kys, Seg.row], fun k hk => ?_, by simp, fun s hs => ?_⟩, fun k hk => .inl hk⟩
  · have : k = g := by simpa [kys, Seg.row] using hk
    subst this
    simp; omega
  · simp only [List.mem_singleton] at hs
    subst hs
    refine ⟨by rw [i64s_len]; omega, by have := hrow.le; omega, hrow.max, by simp, fun g' hg' => ?_⟩
    cases hg'
    refine ⟨_, fr, hblk, by rw [hsz]; exact h2, ?_, by rw [hsz]; exact h4⟩
    rw [Nat.mul_one]
    exact htk
theorem Tryz.sortN_w (g n cap : Nat) (ss : List Int) (w : World) (hown : Own [] [Seg.row (some g) 3 1 ss.length cap (i64s ss)] w) (hn : ss.length = n) (hlen : ss.length ≤ 1000000) :
    Tri Tryz.prog 197 [sv (some g) n cap] w (kys [] [Seg.row (some g) 3 1 ss.length cap (i64s ss)])
      (fun v bx hp => v = .tuple #[] ∧ bx = [] ∧ hp = [Seg.row (some g) 3 1 (ss.mergeSort fun x y => decide (x ≤ y)).length cap (i64s (ss.mergeSort fun x y => decide (x ≤ y)))]) := by
  subst hn
  have hrow : rowOk w (some g) 3 1 ss.length cap (i64s ss) := hown.hp (Seg.row (some g) 3 1 ss.length cap (i64s ss)) (by simp)
  have hlt : g < w.heap.size := by
    obtain ⟨cur, fr, h1, -⟩ := hrow.blk g rfl
    exact (Array.getElem?_eq_some_iff.1 h1).1
  refine tri_put (ys := []) hrow (by rw [List.append_nil]; exact List.length_mergeSort _) ⟨_, Tryz.func197, rfl, by decide⟩ ?_
  rw [List.append_nil]
  exact Tryz.slices_Sort_int g 0 cap ss w (row_holds rfl hrow) hlt (by omega)
theorem Tryz.compN_w (g n cap : Nat) (ss : List Int) (w : World) (hown : Own [] [Seg.row (some g) 3 1 ss.length cap (i64s ss)] w) (hn : ss.length = n) (hlen : ss.length ≤ 1000000) :
    Tri Tryz.prog 198 [sv (some g) n cap] w (kys [] [Seg.row (some g) 3 1 ss.length cap (i64s ss)])
      (fun v bx hp => v = sv (some g) (Lib.compact ss).length cap ∧ bx = [] ∧ hp = [Seg.row (some g) 3 1 (Lib.compact ss).length cap (i64s (Lib.compact ss))]) := by
  subst hn
  have hrow : rowOk w (some g) 3 1 ss.length cap (i64s ss) := hown.hp (Seg.row (some g) 3 1 ss.length cap (i64s ss)) (by simp)
  have hcl := compact_len ss
  refine tri_put (ys := List.replicate (ss.length - (Lib.compact ss).length) 0) hrow (by rw [List.length_append, List.length_replicate]; omega) ⟨_, Tryz.func198, rfl, by decide⟩ ?_
  refine (Tryz.slices_Compact_int g 0 cap ss w (row_holds rfl hrow) (by omega) hrow.le).mono ?_
  rintro e w' ⟨rfl, q, rfl⟩
  exact ⟨rfl, q, #[], (Sort.grow_empty _).symm⟩
theorem Tryz.sortN0_w (p : Option Addr) (cap : Nat) (w : World) : Fun Tryz.prog 197 [.slice p 0 cap] w (.tuple #[]) := by
  refine Tri.mk ⟨_, Tryz.func197, rfl, by decide⟩ ?_
  refine (Tryz.slices_Sort_int_none p cap w).mono ?_
  rintro e w' ⟨rfl, rfl⟩
  exact ⟨_, [], [], rfl, ⟨rfl, rfl, rfl⟩, Ext.refl _ _, ⟨by simp [kys], by simp [kys], by simp, by simp⟩, by simp [kys]⟩
theorem Tryz.compN0_w (p : Option Addr) (cap : Nat) (w : World) : Fun Tryz.prog 198 [.slice p 0 cap] w (.slice p 0 cap) := by
  refine Tri.mk ⟨_, Tryz.func198, rfl, by decide⟩ ?_
  refine (Tryz.slices_Compact_int_empty p cap w).mono ?_
  rintro e w' ⟨rfl, rfl⟩
  exact ⟨_, [], [], rfl, ⟨rfl, rfl, rfl⟩, Ext.refl _ _, ⟨by simp [kys], by simp [kys], by simp, by simp⟩, by simp [kys]⟩
theorem Tryz.numbers21_w (S : FL) (k : Int) (a : Option Addr) (cap : Nat) (w : World) (hlen : S.length ≤ 60) (hrow : SlOk w a (fl S)) (hns : ∀ p, p ∈ S → p.1.length ≤ 9223372036854775807) :
    Tri Tryz.prog 171 [.slice a S.length cap, .int .i64 k] w [] (fun v bx hp => ∃ (g : Option Nat) (c : Nat), v = sv g (numsF k S).length c ∧ bx = [] ∧ hp = [Seg.row g 3 1 (numsF k S).length c (i64s (numsF k S))]) := by
  refine Tri.enter (bx := []) (hp := []) Tryz.func171 rfl (by kernel_rfl) rfl (Own.nil w) ?_
  refine At.go [] [] rfl (by and_intros <;> first | exact trivial | exact oK) ?_
  refine At.nilRow 3 1 ?_
  refine At.loop (env0 := [(1, .int .i64 k), (5, .slice none 0 0), (11, .slice a (List.length S) cap), (12, .int .i64 ↑(List.length S)), (13, .int .i64 0)]) (fun m_ env bx hp => ∃ (i : Nat) (g : Option Nat) (c : Nat), m_ = S.length - i ∧ (i ≤ S.length) ∧ env = [(1, .int .i64 k), (5, sv g (kindsF k (S.take i)).length c), (11, .slice a (List.length S) cap), (12, .int .i64 ↑(List.length S)), (13, .int .i64 i)] ∧ bx = [] ∧ hp = [Seg.row g 3 1 (kindsF k (S.take i)).length c (i64s (kindsF k (S.take i)))]) rfl
    ⟨0, none, 0, rfl, (by omega), rfl, rfl, rfl⟩ sB ?_
  rintro m_ env bx hp ⟨i, g, c, rfl, hi, rfl, rfl, rfl⟩ ih
  have hkl := kindsF_len k (S.take i)
  rw [List.length_take] at hkl
  by_cases hlt : i < S.length
  · obtain ⟨p, hp⟩ : ∃ p, S[i]? = some p := ⟨_, List.getElem?_eq_getElem hlt⟩
    obtain ⟨ga, o, rfl, hc⟩ := hrow.get (fl_ne (by intro h; rw [h] at hlt; simp at hlt))
    have rE : ∀ {bx : Bx} {hp : List Seg}, RdW ⟨w, kys [] []⟩ bx hp ga (o + (i : Int).toNat * 2) [str p.1, str p.2] := fun {_ _} => RdW.fileE hc (by simp [kys]) hp (by omega)
    have hsn : kindsF k (S.take (i + 1)) = kindsF k (S.take i) ++ if (kindB p.1).1 = k then [(kindB p.1).2.1] else [] := by rw [List.take_add_one, hp]; exact kindsF_snoc k _ p
    obtain ⟨kd, n, ok, hK⟩ : ∃ kd n ok, kindB p.1 = (kd, n, ok) := ⟨_, _, _, rfl⟩
    have fC : ∀ {S : Base} {bx : Bx} {hp : List Seg}, CallOb Tryz.prog S bx hp 113 [str p.1] (.tuple #[.int .i64 kd, .int .i64 n, .bool ok]) := fun {_ _ _} w' _ => by
      have := Tryz.shKind_w p.1 w' (hns p (List.mem_of_getElem? hp)); rwa [hK] at this
    rw [hK] at hsn
    simp only at hsn
    by_cases hk1 : kd = k
    · rw [if_pos hk1] at hsn
      have e1 : i64s (kindsF k (S.take (i + 1))) = i64s (kindsF k (S.take i)) ++ [.int .i64 n] := by rw [hsn]; simp [i64s]
      have e2 : (kindsF k (S.take (i + 1))).length = (kindsF k (S.take i)).length + 1 := by rw [hsn]; simp
      refine At.go [true] [hR [.string { data := p.fst.toArray }, .string { data := p.snd.toArray }]] rfl (by and_intros <;> first | exact rE | exact fC | exact decide_eq_true hk1 | exact decide_eq_true (by omega) | exact oK) ?_
      refine At.al fun b7 hb7 => ?_
      refine At.go [true] [hB 0, hB 0, hC (.tuple ⟨[.int .i64 kd, .int .i64 n, .bool ok]⟩)] rfl (by and_intros <;> first | exact rE | exact fC | exact decide_eq_true hk1 | exact decide_eq_true (by omega) | exact oK) ?_
      refine At.a1 0 1 8 fun b29 a30 c30 => ?_
      refine At.go [] [] rfl (by and_intros <;> first | exact rE | exact fC | exact decide_eq_true hk1 | exact decide_eq_true (by omega) | exact oK) ?_
      refine At.keep [false] [true] rfl ?_
      rw [← e1, ← e2]
      exact At.weak (ih _ _ _ _ (by omega) ⟨i + 1, a30, c30, rfl, by omega, rfl, rfl, rfl⟩) sB
    · rw [if_neg hk1, List.append_nil] at hsn
      refine At.go [true] [hR [.string { data := p.fst.toArray }, .string { data := p.snd.toArray }]] rfl (by and_intros <;> first | exact rE | exact fC | exact decide_eq_false hk1 | exact decide_eq_true (by omega) | exact oK) ?_
      refine At.al fun b7 hb7 => ?_
      refine At.go [false] [hB 0, hB 0, hC (.tuple ⟨[.int .i64 kd, .int .i64 n, .bool ok]⟩)] rfl (by and_intros <;> first | exact rE | exact fC | exact decide_eq_false hk1 | exact decide_eq_true (by omega) | exact oK) ?_
      refine At.keep [false] [true] rfl ?_
      rw [← hsn]
      exact At.weak (ih _ _ _ _ (by omega) ⟨i + 1, g, c, rfl, by omega, rfl, rfl, rfl⟩) sB
  · obtain rfl : i = S.length := by omega
    rw [List.take_length] at hkl ⊢
    unfold numsF
    obtain ⟨L, eL⟩ : ∃ L, kindsF k S = L := ⟨_, rfl⟩
    rw [eL] at hkl ⊢
    by_cases h0 : L = []
    · subst h0
      have hm : Lib.compact (([] : List Int).mergeSort fun x y => decide (x ≤ y)) = [] := by rw [List.mergeSort_nil]; rfl
      rw [hm]
      have hS0 : ∀ {S : Base} {bx : Bx} {hp : List Seg}, CallOb Tryz.prog S bx hp 197 [.slice (svA g) 0 c] (.tuple #[]) := fun {_ _ _} w' _ => Tryz.sortN0_w _ _ w'
      have hC0 : ∀ {S : Base} {bx : Bx} {hp : List Seg}, CallOb Tryz.prog S bx hp 198 [.slice (svA g) 0 c] (.slice (svA g) 0 c) := fun {_ _ _} w' _ => Tryz.compN0_w _ _ w'
      refine At.go [false] [hC (.tuple ⟨[]⟩), hC (.slice (svA g) 0 c)] rfl (by and_intros <;> first | exact decide_eq_false (by omega) | exact hS0 | exact hC0 | exact oK) ?_
      refine At.rt [] [true] [] Tryz.func171 ?_
      exact ⟨g, c, rfl, rfl, rfl⟩
    have hp := List.length_pos_iff.2 h0
    refine At.rowSome 0 rfl (by omega) (fun g0 hg => ?_)
    subst hg
    refine At.go [false] [] rfl (by and_intros <;> first | exact decide_eq_false (by omega) | exact oK) ?_
    refine At.step [] rfl rfl rfl rfl rfl trivial (OpOk.callO [] [true] rfl rfl (fun w' hw' ho => Tryz.sortN_w g0 L.length c L w' ho rfl (by omega)) ?_)
    rintro _ _ _ ⟨rfl, rfl, rfl⟩
    refine At.go [] [] rfl (by and_intros <;> first | exact trivial | exact oK) ?_
    refine At.step [] rfl rfl rfl rfl rfl trivial (OpOk.callO [] [true] rfl rfl (fun w' hw' ho => Tryz.compN_w g0 L.length c _ w' ho (List.length_mergeSort _) (by rw [List.length_mergeSort]; omega)) ?_)
    rintro _ _ _ ⟨rfl, rfl, rfl⟩
    refine At.go [] [] rfl (by and_intros <;> first | exact trivial | exact oK) ?_
    refine At.rt [] [true] [] Tryz.func171 ?_
    exact ⟨some g0, c, rfl, rfl, rfl⟩
theorem Tryz.imLast_w (S : FL) (a : Option Addr) (cap : Nat) (w : World) (hlen : S.length ≤ 60) (hrow : SlOk w a (fl S)) (hns : ∀ p, p ∈ S → p.1.length ≤ 9223372036854775807) :
    Fun Tryz.prog 141 [.slice a S.length cap] w (.int .i64 (lastF S)) := by
  have hnl := numsF_len 1 S
  refine Tri.enter (bx := []) (hp := []) Tryz.func141 rfl (by kernel_rfl) rfl (Own.nil w) ?_
  refine At.go [] [] rfl (by and_intros <;> first | exact trivial | exact oK) ?_
  refine At.step [] rfl rfl rfl rfl rfl trivial (OpOk.call rfl (fun w' hw' => Tryz.numbers21_w S 1 a cap w' hlen (hrow.ext hw'.ext (by simp [kys])) hns) ?_)
  rintro _ _ _ ⟨g, c, rfl, rfl, rfl⟩
  unfold lastF
  obtain ⟨L, eL⟩ : ∃ L, numsF 1 S = L := ⟨_, rfl⟩
  rw [eL] at hnl ⊢
  by_cases h0 : L = []
  · subst h0
    refine At.go [true] [] rfl (by and_intros <;> first | exact rfl | exact oK) ?_
    refine At.rt [] [false] [] Tryz.func141 ?_
    exact ⟨rfl, rfl, rfl⟩
  have hp := List.length_pos_iff.2 h0
  obtain ⟨xs, z, rfl⟩ : ∃ xs z, L = xs ++ [z] := ⟨L.dropLast, L.getLast h0, (List.dropLast_concat_getLast h0).symm⟩
  have hxl : (xs ++ [z]).length = xs.length + 1 := by simp
  rw [List.getLast?_concat]
  refine At.rowSome 0 rfl (by omega) (fun g0 hg => ?_)
  subst hg
  have r : ∀ {bx : Bx} {hp : List Seg}, nth hp 0 = some (Seg.row (some g0) 3 1 (xs ++ [z]).length c (i64s (xs ++ [z]))) → RdW ⟨w, kys [] []⟩ bx hp g0 (0 + (((xs ++ [z]).length : Int) - 1).toNat * 1) [.int .i64 z] := fun {_ _} h => RdW.row1 h (i := xs.length) (by simp [i64s]) (by rw [hxl]; omega)
  refine At.go [false] [hR [.int .i64 z]] rfl (by and_intros <;> first | exact r rfl | exact decide_eq_false (by omega) | omega | exact oK) ?_
  refine At.rt [] [false] [] Tryz.func141 ?_
  exact ⟨rfl, rfl, rfl⟩
end Go.Proofs

/-
  Walks of layer 28: the keys of a map, sorted.
-/
import Derived.Test.YtgkphfipielnhaaDoorM7
import Derived.Test.YtgkphfipielnhaaDoorM12
import Derived.Test.YtgkphfipielnhaaDoorM21
import Derived.Test.YtgkphfipielnhaaDoorM20
import Derived.Sort.OwnSorted
/-
  Walks of layer 28: the keys of a map, sorted.
-/
namespace Go.Proofs
open Go Go.Eng
set_option maxRecDepth 100000
set_option maxHeartbeats 4000000
attribute [local irreducible] Tri

theorem take_putI (cur : Array Value) (ts : List Int) (h : ts.length ≤ cur.size) : (Sort.putCells (Value.int .i64) 0 ts.toArray cur).toList.take ts.length = ts.map (Value.int .i64) := by
  apply List.ext_getElem?
  intro j
  by_cases hj : j < ts.length
  · rw [List.getElem?_take_of_lt hj, Array.getElem?_toList]
    simp [Sort.putCells, hj, show j < cur.size by omega]
  · rw [List.getElem?_take_eq_none (by omega), List.getElem?_eq_none (by simp; omega)]
theorem Tryd.sortI_w (g n cap : Nat) (ss : List Int) (w : World) (hown : Own [] [Seg.row (some g) 2 1 ss.length cap (i64s ss)] w) (hn : ss.length = n) (hlen : ss.length ≤ 1000000) :
    Tri Tryd.prog 75 [sv (some g) n cap] w (kys [] [Seg.row (some g) 2 1 ss.length cap (i64s ss)])
      (fun v bx hp => v = .tuple #[] ∧ bx = [] ∧ hp = [Seg.row (some g) 2 1 ss.length cap (i64s (ss.mergeSort fun x y => decide (x ≤ y)))]) := by
  subst hn
  have hrow : rowOk w (some g) 2 1 ss.length cap (i64s ss) := hown.hp (Seg.row (some g) 2 1 ss.length cap (i64s ss)) (by simp)
  obtain ⟨cur, fr, h1, h2, h3, h4⟩ := hrow.blk g rfl
  have hle := hrow.le
  have hlt := (Array.getElem?_eq_some_iff.1 h1).1
  have hH : Sort.Holds (Value.int .i64) w g 0 ss.toArray := by
    intro j hj
    have hj' : j < ss.length := by simpa using hj
    have hs : (i64s ss)[j]? = some (.int .i64 ss[j]) := by simp [i64s, hj']
    refine ⟨?_, ?_⟩
    · rw [Nat.zero_add, hrow.cell hs]
      simp [hj', getElem!_pos]
    · rw [Nat.zero_add]
      simp only [World.frozen?, h1]
      rcases h4 with h4 | h4
      · rw [h4]; simp
      · obtain ⟨lo, hi⟩ := fr
        have : ¬ lo ≤ j := by simp only at h4; omega
        simp [this]
  refine Tri.mk ⟨_, Tryd.func75, rfl, by decide⟩ ?_
  refine (Tryd.slices_Sort_int_f75 g 0 cap ss w hH hlt (by omega)).mono ?_
  rintro e w' ⟨rfl, q, os, rfl⟩
  have hsl : (ss.mergeSort fun x y => decide (x ≤ y)).length = ss.length := List.length_mergeSort _
  have hheap : ∀ k, k < w.heap.size → k ≠ g → (Sort.grow (Sort.putRow (Value.int .i64) (Sort.ahead w q) g 0 (ss.mergeSort fun x y => decide (x ≤ y)).toArray) os).heap[k]? = w.heap[k]? := by
    intro k hk hne
    rw [Sort.heap_grow_old _ _ (by simpa using hk)]
    simp [Sort.putRow, Sort.mapBlock, Sort.ahead, Array.getElem?_modify, Ne.symm hne]
  have hblk : (Sort.grow (Sort.putRow (Value.int .i64) (Sort.ahead w q) g 0 (ss.mergeSort fun x y => decide (x ≤ y)).toArray) os).heap[g]? = some (.cells (Sort.putCells (Value.int .i64) 0 (ss.mergeSort fun x y => decide (x ≤ y)).toArray cur) 2 fr) := by
    rw [Sort.heap_grow_old _ _ (by simpa using hlt)]
    simp [Sort.putRow, Sort.mapBlock, Sort.ahead, Array.getElem?_modify, h1, Sort.onCells]
  have hsz : (Sort.putCells (Value.int .i64) 0 (ss.mergeSort fun x y => decide (x ≤ y)).toArray cur).size = cur.size := by simp [Sort.putCells]
  have htk := take_putI cur (ss.mergeSort fun x y => decide (x ≤ y)) (by omega)
  refine ⟨.tuple #[], [], _, rfl, ⟨rfl, rfl, rfl⟩, ⟨rfl, rfl, rfl, (by first | exact Nat.le_refl _ | exact Nat.le_succ _ | exact Nat.le_add_right _ _), by simp, fun k hk hm => hheap k hk (by simpa [kys, Seg.row] using hm)⟩, ⟨by simp [kys, Seg.row], fun k hk => ?_, by simp, fun s hs => ?_⟩, fun k hk => .inl hk⟩
  · have : k = g := by simpa [kys, Seg.row] using hk
    subst this
    simp; omega
  · simp only [List.mem_singleton] at hs
    subst hs
    refine ⟨by rw [i64s_len, hsl]; omega, hrow.le, hrow.max, by simp, fun g' hg' => ?_⟩
    cases hg'
    refine ⟨_, fr, hblk, by rw [hsz]; exact h2, ?_, by rw [hsz]; exact h4⟩
    rw [Nat.mul_one, ← hsl]
    exact htk


/-- Numbers sorted. -/
def sortI (l : List Int) : List Int := l.mergeSort fun x y => decide (x ≤ y)
/-- The keys at some places. -/
def someK (K : List Int) (T : List Nat) : List Int := T.filterMap fun i => K[i]?
theorem someK_snoc {K : List Int} {T : List Nat} {i : Nat} {s : Int} (h : K[i]? = some s) : someK K (T ++ [i]) = someK K T ++ [s] := by simp [someK, h]
theorem someK_range : ∀ (K : List Int), someK K (List.range K.length) = K
  | [] => rfl
  | x :: K => by
    have ih := someK_range K
    unfold someK at ih ⊢
    rw [List.length_cons, List.range_succ_eq_map, List.filterMap_cons]
    simp only [List.getElem?_cons_zero, List.filterMap_map]
    exact congrArg (x :: ·) ih
theorem someK_all {K : List Int} {T : List Nat} (hp : T.Perm (List.range K.length)) : (someK K T).Perm K := by
  conv => rhs; rw [← someK_range K]
  exact hp.filterMap _
theorem someK_len {K : List Int} {T : List Nat} (hn : T.Nodup) (hT : ∀ i, i ∈ T → i < K.length) : (someK K T).length ≤ K.length := by
  have h1 : (someK K T).length ≤ T.length := List.length_filterMap_le _ _
  have h2 := nodup_sub_len (l2 := List.range K.length) hn fun i hi => List.mem_range.2 (hT i hi)
  rw [List.length_range] at h2
  omega
/-- A map from symbols to blocks, as it lies. -/
def symE (p : Int × Nat) : Value × Value := (.int .i64 p.1, .pointer (some ⟨p.2, 0, none⟩))
theorem Tryd.sumsT : Tryd.prog.underlying 77 = some (.map 2 79) := by kernel_rfl
theorem Tryd.i64T : Tryd.prog.underlying 2 = some (.int .i64) := by kernel_rfl

theorem Tryd.KeysI_w (m : Nat) (w : World) : Tri Tryd.prog 39 [.map (some m)] w [] (fun v bx hp => ∃ b, v = .func (.func 76) ⟨[]⟩ ⟨[.pointer (some ⟨b, 0, none⟩)]⟩ ∧ bx = [(b, 77, [.map (some m)])] ∧ hp = []) := by
  refine Tri.enter (bx := []) (hp := []) Tryd.func39 rfl (by kernel_rfl) rfl (Own.nil w) ?_
  refine At.run 100 true [] [] rfl trivial ?_
  refine At.step [] rfl rfl rfl rfl rfl trivial (OpOk.box rfl rfl rfl fun b hb => ?_)
  refine At.run 100 true [] [] rfl oK ?_
  exact At.ret [] rfl Tryd.func39 rfl trivial ⟨b, rfl, rfl, rfl⟩

theorem Tryd.keysI1_w (b m : Nat) (D : List (Int × Nat)) (w : World) (hD : MapIs w m (.int .i64) (D.map symE)) :
    IterP Tryd.prog 76 [.pointer (some ⟨b, 0, none⟩)] [(b, 77, [.map (some m)])] [m] (fun n : Int => [.int .i64 n]) (fun pre => pre.length ≤ D.length) (fun xs => xs.Perm (D.map Prod.fst)) w := by
  intro y s0 J hJ hown hfree hyield
  refine Tri.enter Tryd.func76 rfl (by kernel_rfl) rfl hown ?_
  obtain ⟨es, clock, hbm, hst, hks, hL⟩ := hD
  have hlt := (Array.getElem?_eq_some_iff.1 hbm).1
  have hm0 : m ∉ kys [(b, 77, [.map (some m)])] [s0] := hfree m (by simp)
  have hM : ∀ {bx : Bx} {hp : List Seg} {w' : World}, WOk ⟨w, kys [(b, 77, [.map (some m)])] [s0]⟩ bx hp w' → w'.heap[m]? = some (.map es clock) := fun {_ _ w'} hw' => by rw [hw'.ext.block m hlt hm0]; exact hbm
  have hes : es.size = D.length := by have := congrArg List.length hL; simpa using this
  refine At.run 100 true [] [hB 0] rfl oK ?_
  refine At.step [] rfl rfl rfl rfl rfl trivial (OpOk.rangeMap rfl rfl Tryd.sumsT (fun w' hw' => hM hw') fun r => ?_)
  refine At.run 100 true [] [] rfl oK ?_
  refine At.loop (n := leftN D.length []) (env0 := [(0, .func (.yield y) #[] #[]), (5, .pointer (some ⟨r, 0, none⟩))]) (fun k env bx hp => ∃ (T : List Nat) (s : Seg), k = leftN D.length T ∧ T.Nodup ∧ (∀ i, i ∈ T → i < D.length) ∧ J (someK (D.map Prod.fst) T) s ∧
    env = [(0, .func (.yield y) #[] #[]), (5, .pointer (some ⟨r, 0, none⟩))] ∧ bx = [(b, 77, [.map (some m)])] ∧ hp = [Seg.iter r m es clock T, s]) rfl ⟨[], s0, by simp, by simp, by simp, hJ, rfl, rfl, rfl⟩ ⟨rfl, rfl, trivial⟩ ?_
  rintro k env bx hp ⟨T, s, rfl, hn, hT, hJT, rfl, rfl, rfl⟩ ih
  refine At.run 100 true [] [] rfl trivial ?_
  refine At.step [] rfl rfl rfl rfl rfl trivial (OpOk.nextMap 0 rfl rfl rfl (fun w' hw' => hM hw') hst (fun i hi => by rw [hes]; exact hT i hi) (fun hall => ?_) (fun i e hi he => ?_))
  · have hp := perm_range hn hT (fun i hi => hall i (by rw [hes]; exact hi))
    refine At.run 100 true [false] [] rfl oK ?_
    refine At.keep [true] [false, true] rfl ?_
    exact At.ret [] rfl Tryd.func76 rfl trivial ⟨rfl, s, rfl, someK (D.map Prod.fst) T, someK_all (by rw [List.length_map]; exact hp), hJT⟩
  · have hil : i < D.length := by rw [← hes]; exact (Array.getElem?_eq_some_iff.1 he).1
    obtain ⟨f, hf⟩ : ∃ f, D[i]? = some f := ⟨_, List.getElem?_eq_getElem hil⟩
    have hf' : (D.map Prod.fst)[i]? = some f.1 := by rw [List.getElem?_map, hf]; rfl
    have hee : (e.key, e.val) = symE f := by
      have h1 : (es.toList.map fun e => (e.key, e.val))[i]? = some (e.key, e.val) := by rw [List.getElem?_map, Array.getElem?_toList, he]; rfl
      rw [hL, List.getElem?_map, hf] at h1
      exact (Option.some.inj h1).symm
    obtain ⟨kk, v, born⟩ := e
    simp only [symE, Prod.mk.injEq] at hee
    obtain ⟨rfl, rfl⟩ := hee
    simp only
    have hT' := lt_snoc hT hil
    have hn' := nodup_snoc hn hi
    refine At.run 100 true [true] [] rfl oK ?_
    refine At.step [] rfl rfl rfl rfl rfl trivial (OpOk.entryMap (T := T) (i := i) 0 rfl rfl rfl (fun w' hw' => hM hw') hst he ?_)
    simp only
    refine At.run 100 true [] [] rfl oK ?_
    refine At.yield [] rfl rfl rfl rfl rfl trivial (lp := y) (args := [.int .i64 f.1]) rfl [] [false, true] (bm := []) (hm := [s]) (br := [(b, 77, [.map (some m)])]) (hr := [Seg.iter r m es clock (T ++ [i])]) (Q := fun bx hp => bx = [] ∧ ∃ s', hp = [s'] ∧ J (someK (D.map Prod.fst) T ++ [f.1]) s') rfl
      (fun w' hw' => hyield (someK (D.map Prod.fst) T) f.1 s w' (by rw [← someK_snoc hf']; exact Nat.le_trans (someK_len hn' (by rw [List.length_map]; exact hT')) (by rw [List.length_map]; exact Nat.le_refl _)) hJT (hw'.toOwn.sel [] [false, true] rfl) hw'.ext) ?_
    rintro _ _ ⟨rfl, s', rfl, hJ'⟩
    refine At.run 100 true [false] [] rfl oK ?_
    refine At.order [] [1] rfl rfl ?_
    exact At.weak (ih _ _ _ _ (leftN_snoc hil hi) ⟨T ++ [i], s', rfl, hn', hT', by rw [someK_snoc hf']; exact hJ', rfl, rfl, rfl⟩) ⟨rfl, rfl, trivial⟩

theorem Tryd.appendSeqI_w (b m : Nat) (D : List (Int × Nat)) (w : World) (hown : Own [(b, 77, [.map (some m)])] [] w) (hD : MapIs w m (.int .i64) (D.map symE)) (hlen : D.length ≤ 1000000) :
    Tri Tryd.prog 115 [.slice none 0 0, .func (.func 76) ⟨[]⟩ ⟨[.pointer (some ⟨b, 0, none⟩)]⟩] w (kys [(b, 77, [.map (some m)])] [])
      (fun v bx hp => ∃ a c xs, v = sv a xs.length c ∧ bx = [(b, 77, [.map (some m)])] ∧ hp = [Seg.row a 2 1 xs.length c (i64s xs)] ∧ xs.Perm (D.map Prod.fst)) := by
  refine Tri.enter (bx := [(b, 77, [.map (some m)])]) (hp := []) Tryd.func115 rfl (by kernel_rfl) rfl hown ?_
  have hb0 := hown.bx (b, 77, [.map (some m)]) (by simp)
  have hmb : m ∉ kys [(b, 77, [.map (some m)])] [] := by
    intro h
    have : m = b := by simpa [kys] using h
    subst this
    obtain ⟨es, clock, h1, -⟩ := hD
    rw [hb0] at h1; cases h1
  refine At.run 100 true [] [] rfl trivial ?_
  refine At.step [] rfl rfl rfl rfl rfl trivial (OpOk.box rfl rfl rfl fun b2 hb2 => ?_)
  refine At.run 100 true [] [] rfl oK ?_
  refine At.nilRow 2 1 ?_
  refine At.order [1] [] rfl rfl ?_
  refine At.rangeP (bi := [(b, 77, [.map (some m)])]) (bc := [(b2, 44, [sv none 0 0])]) (hp := [Seg.row none 2 1 0 0 []]) rfl rfl rfl (rd := [m]) (fun k hk => by
      simp only [List.mem_singleton] at hk; subst hk; exact ⟨hD.lt, hmb⟩)
    (enc := fun n : Int => [.int .i64 n]) (okp := fun pre : List Int => pre.length ≤ D.length) (fin := fun xs : List Int => xs.Perm (D.map Prod.fst)) (fun _ => rfl) rfl
    (fun pre bx hp => ∃ a1 cap1, bx = [(b2, 44, [sv a1 pre.length cap1])] ∧ hp = [Seg.row a1 2 1 pre.length cap1 (i64s pre)]) ⟨none, 0, rfl, rfl⟩
    (fun w' hext => Tryd.keysI1_w b m D w' (hD.ext hext hmb)) ?_ ?_
  · rintro lp Dd tm pre x bx hp w' hpre ⟨a1, cap1, rfl, rfl⟩ hext
    simp only [List.length_append, List.length_singleton] at hpre
    refine At.run 100 true [] [] rfl trivial ?_
    refine At.begin ?_
    refine At.run 100 true [] [hB 0] rfl oK ?_
    refine At.append1 1 1 8 rfl rfl rfl rfl rfl rfl rfl rfl rfl trivial (fun _ => rfl) trivial rfl rfl rfl rfl rfl rfl rfl rfl (fun _ => rfl) (by simp [Value.oneCell', str]) (by omega) (by omega) (fun bb a2 cap2 => ?_)
    refine At.run 100 true [] [hB 0] rfl oK ?_
    exact At.roundEnd ⟨_, rfl, a2, cap2, by simp [setL], by simp [i64s, setL]⟩
  · rintro Dd bx' hp' xs hfin ⟨a1, cap1, rfl, rfl⟩
    refine At.run 100 true [] [hB 1] rfl oK ?_
    refine At.keep [true] [true, true] rfl ?_
    exact At.retC (hp := [_]) [] rfl Tryd.func115 rfl trivial ⟨a1, cap1, xs, rfl, rfl, rfl, hfin⟩

theorem Tryd.collectI_w (b m : Nat) (D : List (Int × Nat)) (w : World) (hown : Own [(b, 77, [.map (some m)])] [] w) (hD : MapIs w m (.int .i64) (D.map symE)) (hlen : D.length ≤ 1000000) :
    Tri Tryd.prog 74 [.func (.func 76) ⟨[]⟩ ⟨[.pointer (some ⟨b, 0, none⟩)]⟩] w (kys [(b, 77, [.map (some m)])] [])
      (fun v bx hp => ∃ a c xs, v = sv a xs.length c ∧ bx = [(b, 77, [.map (some m)])] ∧ hp = [Seg.row a 2 1 xs.length c (i64s xs)] ∧ xs.Perm (D.map Prod.fst)) := by
  refine Tri.enter (bx := [(b, 77, [.map (some m)])]) (hp := []) Tryd.func74 rfl (by kernel_rfl) rfl hown ?_
  have hb0 := hown.bx (b, 77, [.map (some m)]) (by simp)
  have hmb : m ∉ kys [(b, 77, [.map (some m)])] [] := by
    intro h
    have : m = b := by simpa [kys] using h
    subst this
    obtain ⟨es, clock, h1, -⟩ := hD
    rw [hb0] at h1; cases h1
  refine At.run 100 true [] [] rfl oK ?_
  refine At.step [] rfl rfl rfl rfl rfl trivial (OpOk.callAll rfl (fun w' hw' => Tryd.appendSeqI_w b m D w' hw'.toOwn (hD.ext hw'.ext hmb) hlen) ?_)
  rintro v bx' hp' ⟨a, c, xs, rfl, rfl, rfl, hp⟩
  refine At.run 100 true [] [] rfl oK ?_
  exact At.ret [] rfl Tryd.func74 rfl trivial ⟨a, c, xs, rfl, rfl, rfl, hp⟩

theorem Tryd.sortI0_w (p : Option Addr) (cap : Nat) (w : World) : Fun Tryd.prog 75 [.slice p 0 cap] w (.tuple #[]) := by
  refine Tri.mk ⟨_, Tryd.func75, rfl, by decide⟩ ?_
  refine (Tryd.slices_Sort_int_none_f75 p cap w).mono ?_
  rintro e w' ⟨rfl, rfl⟩
  exact ⟨_, [], [], rfl, ⟨rfl, rfl, rfl⟩, Ext.refl _ _, ⟨by simp [kys], by simp [kys], by simp, by simp⟩, by simp [kys]⟩

theorem Tryd.sortedI_w (b m : Nat) (D : List (Int × Nat)) (w : World) (hown : Own [(b, 77, [.map (some m)])] [] w) (hD : MapIs w m (.int .i64) (D.map symE)) (hlen : D.length ≤ 1000000) :
    Tri Tryd.prog 38 [.func (.func 76) ⟨[]⟩ ⟨[.pointer (some ⟨b, 0, none⟩)]⟩] w (kys [(b, 77, [.map (some m)])] [])
      (fun v bx hp => ∃ a c, v = sv a D.length c ∧ bx = [] ∧ hp = [Seg.row a 2 1 D.length c (i64s (sortI (D.map Prod.fst)))]) := by
  refine Tri.enter (bx := [(b, 77, [.map (some m)])]) (hp := []) Tryd.func38 rfl (by kernel_rfl) rfl hown ?_
  have hb0 := hown.bx (b, 77, [.map (some m)]) (by simp)
  have hmb : m ∉ kys [(b, 77, [.map (some m)])] [] := by
    intro h
    have : m = b := by simpa [kys] using h
    subst this
    obtain ⟨es, clock, h1, -⟩ := hD
    rw [hb0] at h1; cases h1
  refine At.run 100 true [] [] rfl oK ?_
  refine At.step [] rfl rfl rfl rfl rfl trivial (OpOk.callAll rfl (fun w' hw' => Tryd.collectI_w b m D w' hw'.toOwn (hD.ext hw'.ext hmb) hlen) ?_)
  rintro v bx' hp' ⟨a, c, xs, rfl, rfl, rfl, hp⟩
  have hxl : xs.length = D.length := by rw [hp.length_eq]; simp
  have hso : sortI xs = sortI (D.map Prod.fst) := by
    have tr : ∀ l : List Int, (sortI l).Pairwise fun x y => decide (x ≤ y) = true := fun l => by
      unfold sortI
      exact List.pairwise_mergeSort (by intro a b c; simp only [decide_eq_true_eq]; omega) (by intro a b; simp only [Bool.or_eq_true, decide_eq_true_eq]; omega) l
    refine List.Perm.eq_of_pairwise (le := fun a b => decide (a ≤ b) = true) (fun x y _ _ h1 h2 => ?_) (tr _) (tr _) ((List.mergeSort_perm _ _).trans (hp.trans (List.mergeSort_perm _ _).symm))
    rw [decide_eq_true_eq] at h1 h2
    omega
  rw [← hso]
  by_cases h0 : xs.length = 0
  · have hx : xs = [] := List.length_eq_zero_iff.1 h0
    subst hx
    have hS0 : ∀ {bx : Bx} {hp : List Seg}, CallOb Tryd.prog ⟨w, kys [(b, 77, [.map (some m)])] []⟩ bx hp 75 [.slice (svA a) 0 c] (.tuple #[]) := fun {_ _} w' _ => Tryd.sortI0_w _ _ w'
    refine At.run 100 true [] [hC (.tuple #[])] rfl (by and_intros <;> first | exact hS0 | exact oK) ?_
    refine At.keep [] [true] rfl ?_
    exact At.ret [] rfl Tryd.func38 rfl trivial ⟨a, c, by rw [← hxl]; rfl, rfl, by rw [← hxl, show sortI [] = [] from List.mergeSort_nil]⟩
  · refine At.rowSome 0 rfl (by omega) (fun g hg => ?_)
    subst hg
    refine At.run 100 true [] [] rfl oK ?_
    refine At.step [] rfl rfl rfl rfl rfl trivial (OpOk.callO [] [true] rfl rfl (fun w' hw' ho => Tryd.sortI_w g xs.length c xs w' ho rfl (by omega)) ?_)
    rintro v bx' hp' ⟨rfl, rfl, rfl⟩
    refine At.run 100 true [] [] rfl oK ?_
    refine At.keep [] [true] rfl ?_
    exact At.ret [] rfl Tryd.func38 rfl trivial ⟨some g, c, by rw [← hxl]; rfl, rfl, by rw [← hxl]; rfl⟩

end Go.Proofs

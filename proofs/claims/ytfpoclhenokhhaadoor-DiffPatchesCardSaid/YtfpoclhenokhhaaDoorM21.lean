/-
  Walks of layer 14: values looked up in a table.
-/
import Derived.Test.YtfpoclhenokhhaaDoorM19
import Derived.Test.YtfpoclhenokhhaaDoorM20
import Derived.Test.YtfpoclhenokhhaaDoorM16
import Derived.Test.YtfpoclhenokhhaaDoorM9
/-
  Walks of layer 14: values looked up in a table.
-/
namespace Go.Proofs
open Go Go.Eng
set_option maxRecDepth 100000
set_option maxHeartbeats 4000000
attribute [local irreducible] Tri

def getT (T : List YE) (k : K3T) : List Int := match T.find? fun x => decide (x.k = k) with
  | some x => x.v
  | none => []
def addrT (T : List YE) (k : K3T) : Option Addr := match T.find? fun x => decide (x.k = k) with
  | some x => some ⟨x.b, 0, none⟩
  | none => none
def hasT (T : List YE) (k : K3T) : Bool := (T.find? fun x => decide (x.k = k)).isSome
theorem find_k {T : List YE} {k : K3T} {x : YE} (h : (T.find? fun x => decide (x.k = k)) = some x) : x ∈ T ∧ x.k = k := ⟨List.mem_of_find?_eq_some h, by simpa using List.find?_some h⟩

theorem Tryd.zeroI64 : ∀ w, (zeroValue 44).run Tryd.prog w = .ok (sv none 0 0) w := by
  have h : (match Tryd.prog.info? 44 with | some i => (match i.zero with | some (.slice none 0 0) => true | _ => false) | none => false) = true := by kernel_rfl
  intro w
  split at h
  · rename_i i hi
    split at h
    · rename_i hz
      exact run_zero hi hz
    · cases h
  · cases h

theorem Tryd.look_tab {S : Base} {bx : Bx} {hp : List Seg} {m ck : Nat} {es : Array MapEntry} {T : List YE} (hst : MapKept.Stamped es ck) (hks : ∀ x ∈ es.toList, K3 x.key) (hL : es.toList.map (fun e => (e.key, e.val)) = T.map tEnt) (hm : Seg.obj m (.map es ck) ∈ hp) (k : K3T) (hk : In3 k) (ok : Bool) :
    LookOb Tryd.prog S bx hp 58 (.map (some m)) (key3 k) ok (if ok then .tuple #[.slice (addrT T k) (getT T k).length (getT T k).length, .bool (hasT T k)] else .slice (addrT T k) (getT T k).length (getT T k).length) := by
  have hM : ∀ w, WOk S bx hp w → MapQ w m K3 (T.map tEnt) := fun w hw => ⟨es, ck, hw.hp _ hm, hst, hks, hL⟩
  unfold addrT getT hasT
  cases h : T.find? (fun x => decide (x.k = k)) with
  | some x =>
    obtain ⟨hx, hxk⟩ := find_k h
    obtain ⟨i, hi⟩ := List.mem_iff_getElem?.1 hx
    exact LookOb.hitQ ok Tryd.tableT Tryd.keyK hM ⟨k, rfl, hk⟩ (i := i) (by rw [List.getElem?_map, hi]; simp [tEnt, hxk])
  | none =>
    refine LookOb.missQ ok Tryd.tableT Tryd.keyK (fun w => Tryd.zeroI64 w) hM ⟨k, rfl, hk⟩ (fun p hp e => ?_)
    obtain ⟨z, hz, rfl⟩ := List.mem_map.1 hp
    have := List.find?_eq_none.1 h z hz
    exact this (by simpa using key3_inj e)
theorem Tryd.val_sl {S : Base} {bx : Bx} {hp : List Seg} {T : List YE} {w : World} (hw : WOk S bx hp w) (hm : Seg.pack (T.flatMap Tryd.yeB) [] ∈ hp) (k : K3T) : SlOk w (addrT T k) (i64s (getT T k)) := by
  unfold addrT getT
  cases h : T.find? (fun x => decide (x.k = k)) with
  | none => exact .inl rfl
  | some x =>
    have hx := (find_k h).1
    exact SlOk.blk ((hw.hp _ hm).1 (x.b, 2, i64s x.v) (List.mem_flatMap.2 ⟨x, hx, by simp [Tryd.yeB]⟩))
theorem getT_len {T : List YE} {b : Bk} (hT : T.map YE.row = rowsB b) (hi : BkIn b) (k : K3T) : (getT T k).length ≤ 5 := by
  unfold getT
  cases h : T.find? (fun x => decide (x.k = k)) with
  | none => simp
  | some x =>
    have := (rowsB_in hi x.row (by rw [← hT]; exact List.mem_map_of_mem (find_k h).1)).len
    exact this

/-- The keys at some places. -/
def someK (L : List YE) (T : List Nat) : List K3T := T.filterMap fun i => (L[i]?).map (·.k)
theorem someK_snoc {L : List YE} {T : List Nat} {i : Nat} {f : YE} (h : L[i]? = some f) : someK L (T ++ [i]) = someK L T ++ [f.k] := by simp [someK, h]
theorem someK_range (L : List YE) : ∀ m, m ≤ L.length → someK L (List.range m) = (L.take m).map (·.k)
  | 0, _ => by simp [someK]
  | m + 1, h => by
    have hm : m < L.length := by omega
    rw [List.range_succ, someK_snoc (List.getElem?_eq_getElem hm), someK_range L m (by omega), List.take_add_one, List.getElem?_eq_getElem hm, List.map_append]; rfl
theorem someK_all {L : List YE} {T : List Nat} (hp : T.Perm (List.range L.length)) : (someK L T).Perm (L.map (·.k)) := by
  have h1 := hp.filterMap fun i => (L[i]?).map (·.k)
  have h2 := someK_range L L.length (Nat.le_refl _)
  rw [List.take_length] at h2
  rw [← h2]; exact h1
theorem someK_len (L : List YE) (T : List Nat) : (someK L T).length ≤ T.length := List.length_filterMap_le ..
theorem k3_snoc (ks : List K3T) (k : K3T) : (ks ++ [k]).flatMap k3c = ks.flatMap k3c ++ k3c k := by simp
theorem visited {T : List Nat} {n : Nat} (hn : T.Nodup) (hT : ∀ i, i ∈ T → i < n) : T.length ≤ n := by
  have hp : (T ++ (List.range n).filter fun i => !T.contains i).Perm (List.range n) := by
    rw [List.perm_ext_iff_of_nodup _ List.nodup_range]
    · intro a
      simp only [List.mem_append, List.mem_filter, List.mem_range, Bool.not_eq_true', List.contains_eq_mem, decide_eq_false_iff_not]
      constructor
      · rintro (h | h)
        · exact hT a h
        · exact h.1
      · intro h
        by_cases hT : a ∈ T
        · exact .inl hT
        · exact .inr ⟨h, hT⟩
    · rw [List.nodup_append]
      refine ⟨hn, List.nodup_range.sublist List.filter_sublist, fun a ha b hb e => ?_⟩
      subst e
      simp only [List.mem_filter, Bool.not_eq_true', List.contains_eq_mem, decide_eq_false_iff_not] at hb
      exact hb.2 ha
  have := hp.length_eq
  rw [List.length_append, List.length_range] at this
  omega

end Go.Proofs

/-
  Walks of layer 14: the changes of two books.
-/
namespace Go.Proofs
open Go Go.Eng
set_option maxRecDepth 100000
set_option maxHeartbeats 4000000
attribute [local irreducible] Tri

/-- A change: its key, what was and what is, and where they lie. -/
structure ChE where
  k : K3T
  was : List Int
  wa : Option Addr
  wc : Nat
  is : List Int
  ia : Option Addr
  ic : Nat
def chC (e : ChE) : List Value := [.int .i64 e.k.1, .int .i64 e.k.2.1, .int .i64 e.k.2.2, .slice e.wa e.was.length e.wc, .slice e.ia e.is.length e.ic]
theorem chC_one (e : ChE) : ∀ v, v ∈ chC e → v.oneCell' = true := by intro v hv; simp only [chC, List.mem_cons, List.not_mem_nil, or_false] at hv; rcases hv with rfl | rfl | rfl | rfl | rfl <;> rfl
/-- The change of a key between two tables. -/
def mkCh (T U : List YE) (k : K3T) : ChE := ⟨k, getT T k, addrT T k, (getT T k).length, getT U k, addrT U k, (getT U k).length⟩
def diffK (T U : List YE) (ks : List K3T) : List ChE := (ks.filter fun k => !decide (getT T k = getT U k)).map (mkCh T U)
theorem diffK_snoc (T U : List YE) (ks : List K3T) (k : K3T) : diffK T U (ks ++ [k]) = diffK T U ks ++ (if getT T k = getT U k then [] else [mkCh T U k]) := by
  unfold diffK
  rw [List.filter_append, List.map_append]
  congr 1
  by_cases h : getT T k = getT U k <;> simp [h]
def keysT (T U : List YE) : List K3T := T.map (·.k) ++ (U.filter fun x => !hasT T x.k).map (·.k)

/-- The keys at some places, but for those of a table. -/
def someU (T U : List YE) (V : List Nat) : List K3T := V.filterMap fun i => (U[i]?).bind fun x => if hasT T x.k then none else some x.k
theorem someU_snoc {T U : List YE} {V : List Nat} {i : Nat} {f : YE} (h : U[i]? = some f) : someU T U (V ++ [i]) = someU T U V ++ (if hasT T f.k then [] else [f.k]) := by
  unfold someU
  rw [List.filterMap_append]
  congr 1
  cases hh : hasT T f.k <;> simp [h, hh]
theorem someU_range (T U : List YE) : ∀ m, m ≤ U.length → someU T U (List.range m) = ((U.take m).filter fun x => !hasT T x.k).map (·.k)
  | 0, _ => by simp [someU]
  | m + 1, h => by
    have hm : m < U.length := by omega
    rw [List.range_succ, someU_snoc (List.getElem?_eq_getElem hm), someU_range T U m (by omega), List.take_add_one, List.getElem?_eq_getElem hm, List.filter_append, List.map_append]
    congr 1
    cases hh : hasT T (U[m]).k <;> simp [hh]
theorem someU_all {T U : List YE} {V : List Nat} (hp : V.Perm (List.range U.length)) : (someU T U V).Perm ((U.filter fun x => !hasT T x.k).map (·.k)) := by
  have h1 := hp.filterMap fun i => (U[i]?).bind fun x => if hasT T x.k then none else some x.k
  have h2 := someU_range T U U.length (Nat.le_refl _)
  rw [List.take_length] at h2
  rw [← h2]; exact h1
theorem someU_len (T U : List YE) (V : List Nat) : (someU T U V).length ≤ V.length := List.length_filterMap_le ..
theorem sort3_perm {ks ls : List K3T} (h : ks.Perm ls) : sort3 ks = sort3 ls := by
  have hle : ∀ x y : K3T, (!(_root_.Go.Proofs.ltOf cf3) y x) = true ↔ ¬ lt3 y x := fun x y => by rw [cf3_b]; simp
  have hpair : ∀ l : List K3T, (sort3 l).Pairwise fun x y => ¬ lt3 y x := fun l => by
    refine (List.pairwise_mergeSort (fun a b c h1 h2 => ?_) (fun a b => ?_) l).imp (fun h => (hle _ _).1 h)
    · rw [hle] at *
      intro h
      rcases lt3_tri b c with h3 | h3 | h3
      · exact h1 (lt3_trans h3 h)
      · subst h3; exact h1 h
      · exact h2 h3
    · rw [Bool.or_eq_true, hle, hle]
      rcases lt3_tri a b with h3 | h3 | h3
      · exact .inl fun h => lt3_irrefl _ (lt3_trans h3 h)
      · subst h3; exact .inl (lt3_irrefl _)
      · exact .inr fun h => lt3_irrefl _ (lt3_trans h3 h)
  refine List.Perm.eq_of_pairwise (le := fun x y => ¬ lt3 y x) (fun x y _ _ h1 h2 => ?_) (hpair ks) (hpair ls) ((List.mergeSort_perm ks _).trans (h.trans (List.mergeSort_perm ls _).symm))
  rcases lt3_tri x y with h3 | h3 | h3
  · exact (h2 h3).elim
  · exact h3
  · exact (h1 h3).elim

end Go.Proofs

/-
  Walks of layer 14: the changes of two books.
-/
namespace Go.Proofs
open Go Go.Eng
set_option maxRecDepth 100000
set_option maxHeartbeats 4000000
attribute [local irreducible] Tri

theorem Tryd.split_tab {S : Base} {bx : Bx} {hp : List Seg} {m : Nat} {T : List YE} {w : World} (h : WOk S bx (Tryd.tabS m T :: hp) w) : WOk S bx (Seg.pack (T.flatMap Tryd.yeB) [] :: Seg.mapQ m K3 (T.map tEnt) :: hp) w :=
  WOk.packG (bx := T.flatMap Tryd.yeB) (hp := []) (hp0 := Seg.mapQ m K3 (T.map tEnt) :: hp) (WOk.unpackG (hp := [Seg.mapQ m K3 (T.map tEnt)]) h)
theorem rowsB_keys {T : List YE} {b : Bk} (hT : T.map YE.row = rowsB b) (hi : BkIn b) : ∀ x, x ∈ T → In3 x.k := fun x hx => (rowsB_in hi x.row (by rw [← hT]; exact List.mem_map_of_mem hx)).k
theorem rowsB_len {T : List YE} {b : Bk} (hT : T.map YE.row = rowsB b) (hi : BkIn b) : 0 < T.length ∧ T.length ≤ 5000000 := by
  have h := congrArg List.length hT
  have := hi.l1
  have := hi.l2
  have := hi.l3
  have := hi.l4
  simp only [rowsB, List.length_map, List.length_append, List.length_singleton] at h
  omega

def Tryd.DiffR (a b : Bk) (v : Value) (bx : Bx) (hp : List Seg) : Prop := bx = [] ∧ if mayB a = true ∧ mayB b = true then
    ∃ (T U : List YE) (g1 : Option Nat) (c1 : Nat), T.map YE.row = rowsB a ∧ U.map YE.row = rowsB b ∧ v = .tuple #[sv g1 (diffK T U (sort3 (keysT T U))).length c1, .int .i64 0] ∧ hp = [Seg.row g1 67 5 (diffK T U (sort3 (keysT T U))).length c1 ((diffK T U (sort3 (keysT T U))).flatMap chC), Seg.pack (T.flatMap Tryd.yeB) [], Seg.pack (U.flatMap Tryd.yeB) []]
  else v = .tuple #[.slice none 0 0, .int .i64 1] ∧ hp = []

theorem Tryd.Diff_w (a b : Bk) (A B : BkA) (w : World) (hia : BkIn a) (hib : BkIn b) (hoa : BkOk w a A) (hob : BkOk w b B) :
    Tri Tryd.prog 8 [.agg ⟨bkV a A⟩, .agg ⟨bkV b B⟩] w [] (Tryd.DiffR a b) := by
  refine Tri.enter (bx := []) (hp := []) Tryd.func8 rfl (by kernel_rfl) rfl (Own.nil w) ?_
  have hMa : ∀ {bx : Bx} {hp : List Seg}, CallOb Tryd.prog ⟨w, kys [] []⟩ bx hp 21 [.agg ⟨bkV a A⟩] (.bool (mayB a)) := fun {_ _} w' hw' => Tryd.May_w a A w' hia (hoa.ext hw'.ext (by simp [kys]))
  have hMb : ∀ {bx : Bx} {hp : List Seg}, CallOb Tryd.prog ⟨w, kys [] []⟩ bx hp 21 [.agg ⟨bkV b B⟩] (.bool (mayB b)) := fun {_ _} w' hw' => Tryd.May_w b B w' hib (hob.ext hw'.ext (by simp [kys]))
  refine At.run 100 true [] [] rfl trivial ?_
  refine At.step [] rfl rfl rfl rfl rfl trivial (OpOk.box rfl rfl rfl fun bq hbq => ?_)
  refine At.step [] rfl rfl rfl rfl rfl trivial (OpOk.box rfl rfl rfl fun b3 hb3 => ?_)
  cases ha : mayB a with
  | false =>
    rw [ha] at hMa
    refine At.run 100 true [true, true] [hB 1, hC (.bool false)] rfl (by (repeat' apply And.intro) <;> first | exact hMa | exact True.intro | omega | rfl | (simp only [inK]; omega) | exact decide_eq_true (by omega) | exact decide_eq_false (by omega) | (simp; done) | (simp; omega) | (simp [Value.oneCell']; done) | exact i64s_one _ | exact AggOk.mk (by kernel_rfl) (by kernel_rfl)) ?_
    exact At.retK [] [] [] rfl rfl Tryd.func8 rfl trivial ⟨rfl, by rw [if_neg (by rw [ha]; simp)]; exact ⟨rfl, rfl⟩⟩
  | true =>
  rw [ha] at hMa
  cases hb : mayB b with
  | false =>
    rw [hb] at hMb
    refine At.run 100 true [false, true] [hB 1, hC (.bool true), hB 0, hC (.bool false)] rfl (by (repeat' apply And.intro) <;> first | exact hMa | exact hMb | exact True.intro | omega | rfl | (simp only [inK]; omega) | exact decide_eq_true (by omega) | exact decide_eq_false (by omega) | (simp; done) | (simp; omega) | (simp [Value.oneCell']; done) | exact i64s_one _ | exact AggOk.mk (by kernel_rfl) (by kernel_rfl)) ?_
    exact At.retK [] [] [] rfl rfl Tryd.func8 rfl trivial ⟨rfl, by rw [if_neg (by rw [hb]; simp)]; exact ⟨rfl, rfl⟩⟩
  | true =>
  rw [hb] at hMb
  have hla : listsB a = true := by simp only [mayB, Bool.and_eq_true] at ha; exact ha.1
  have hlb : listsB b = true := by simp only [mayB, Bool.and_eq_true] at hb; exact hb.1
  refine At.run 100 true [false, false] [hB 1, hC (.bool true), hB 0, hC (.bool true)] rfl (by (repeat' apply And.intro) <;> first | exact hMa | exact hMb | exact True.intro | omega | rfl | (simp only [inK]; omega) | exact decide_eq_true (by omega) | exact decide_eq_false (by omega) | (simp; done) | (simp; omega) | (simp [Value.oneCell']; done) | exact i64s_one _ | exact AggOk.mk (by kernel_rfl) (by kernel_rfl)) ?_
  refine At.draw 6 rfl rfl rfl rfl ?_
  have hTa : ∀ {bx : Bx} {hp : List Seg} {w' : World}, WOk ⟨w, kys [] []⟩ bx hp w' → _ := fun {_ _ w'} hw' => Tryd.table_w a A w' hia (hoa.ext hw'.ext (by simp [kys])) hla
  have hTb : ∀ {bx : Bx} {hp : List Seg} {w' : World}, WOk ⟨w, kys [] []⟩ bx hp w' → _ := fun {_ _ w'} hw' => Tryd.table_w b B w' hib (hob.ext hw'.ext (by simp [kys])) hlb
  refine AtD.cutS (ι := (q : (Nat × List YE) × (Nat × List YE)) ×' (q.1.2.map YE.row = rowsB a ∧ q.2.2.map YE.row = rowsB b)) 2 #[true, true, true, true, false, false] (fun q => [(25, .map (some q.1.1.1)), (27, .map (some q.1.2.1))]) (fun _ => [(b3, 27, bkV b B), (bq, 27, bkV a A)]) (fun q => [Tryd.tabS q.1.2.1 q.1.2.2, Tryd.tabS q.1.1.1 q.1.1.2]) ?_ (fun hd => ?_)
  · rintro ⟨⟨⟨m1, T⟩, ⟨m2, U⟩⟩, hTU⟩
    obtain ⟨hT, hU⟩ : T.map YE.row = rowsB a ∧ U.map YE.row = rowsB b := hTU
    dsimp only
    refine AtD.pures (ob := True) true (by kernel_rfl) [4, 5] (fuel := 0) (by kernel_rfl) rfl (by (repeat' apply And.intro) <;> first | exact True.intro | omega | (simp only [inK]; omega) | (simp; done) | (simp; omega) | exact decide_eq_true (by omega) | exact decide_eq_false (by omega) | rfl | (simp [Value.oneCell']; done) | exact i64s_one _ | exact AggOk.mk (by kernel_rfl) (by kernel_rfl)) ?_
    refine AtD.done (by kernel_rfl) ?_
    refine At.keep [] [true, true] rfl ?_
    refine At.reshape (fun w' hw' => Tryd.split_tab hw') ?_
    refine At.order (br := []) (hr := [Tryd.tabS m1 T, Seg.pack (U.flatMap Tryd.yeB) [], Seg.mapQ m2 K3 (U.map tEnt)]) [] [2] rfl rfl ?_
    refine At.reshape (fun w' hw' => Tryd.split_tab hw') ?_
    refine At.order (br := []) (hr := [Seg.mapQ m1 K3 (T.map tEnt), Seg.mapQ m2 K3 (U.map tEnt), Seg.pack (T.flatMap Tryd.yeB) [], Seg.pack (U.flatMap Tryd.yeB) []]) [] [2, 1, 3, 3] rfl rfl ?_
    refine At.mapOpenQ 0 rfl fun es1 ck1 hst1 hks1 hL1 => ?_
    refine At.mapOpenQ 1 rfl fun es2 ck2 hst2 hks2 hL2 => ?_
    simp only [setL]
    have hkT := rowsB_keys hT hia
    have hkU := rowsB_keys hU hib
    obtain ⟨hT0, hTl⟩ := rowsB_len hT hia
    obtain ⟨hU0, hUl⟩ := rowsB_len hU hib
    have hes1 : es1.size = T.length := by have := congrArg List.length hL1; simpa using this
    have hes2 : es2.size = U.length := by have := congrArg List.length hL2; simpa using this
    refine At.cutS (ι := (q : List K3T × (Option Nat × Nat)) ×' (q.1.Perm (keysT T U))) ⟨3, [0, 1, 1, 1, 1, 1, 1], [1]⟩ (fun q => [(6, .map (some m1)), (7, .map (some m2)), (56, sv q.1.2.1 q.1.1.length q.1.2.2), (8, sv q.1.2.1 q.1.1.length q.1.2.2)]) (fun _ => []) (fun q => [Seg.row q.1.2.1 62 3 (q.1.1).length q.1.2.2 ((q.1.1).flatMap k3c), Seg.obj m1 (.map es1 ck1), Seg.obj m2 (.map es2 ck2), Seg.pack (T.flatMap Tryd.yeB) [], Seg.pack (U.flatMap Tryd.yeB) []]) ?_ (fun hz2 => ?_)
    · rintro ⟨⟨ks, ⟨g0, c0⟩⟩, hks0⟩
      have hks : ks.Perm (keysT T U) := hks0
      dsimp only
      have hlen : 0 < ks.length ∧ ks.length ≤ 10000000 := by
        have h1 := hks.length_eq
        have h2 := List.length_filter_le (fun x : YE => !hasT T x.k) U
        simp only [keysT, List.length_append, List.length_map] at h1
        omega
      have hsort : sort3 ks = sort3 (keysT T U) := sort3_perm hks
      have hsl : (sort3 ks).length = ks.length := List.length_mergeSort _
      have hin : ∀ k, k ∈ sort3 ks → In3 k := by
        intro k hk
        have h1 := hks.mem_iff.1 ((List.mergeSort_perm ks _).mem_iff.1 hk)
        rcases List.mem_append.1 h1 with h2 | h2
        · obtain ⟨x, hx, rfl⟩ := List.mem_map.1 h2; exact hkT x hx
        · obtain ⟨x, hx, rfl⟩ := List.mem_map.1 h2; exact hkU x (List.mem_filter.1 hx).1
      refine At.rowSome 0 rfl hlen.1 (fun g hg => ?_)
      subst hg
      refine At.step [] rfl rfl rfl rfl rfl trivial (OpOk.callO [] [true] rfl rfl (fun w' _ ho => Tryd.sortK_w g c0 ks w' ho (by omega)) ?_)
      rintro v bx' hp' ⟨rfl, rfl, rfl⟩
      rw [hsort] at hsl hin ⊢
      obtain ⟨KS, hKS⟩ : ∃ KS, KS = sort3 (keysT T U) := ⟨_, rfl⟩
      rw [← hKS] at hsl hin ⊢
      have hdl : ∀ i, (diffK T U (KS.take i)).length ≤ 10000000 := fun i => by
        have h1 := List.length_filter_le (fun k => !decide (getT T k = getT U k)) (KS.take i)
        have h2 := List.length_take_le i KS
        simp only [diffK, List.length_map]
        have h3 : (KS.take i).length ≤ KS.length := by rw [List.length_take]; omega
        omega
      refine At.run 100 true [] [] rfl (by (repeat' apply And.intro) <;> first | exact True.intro | omega | (simp only [inK]; omega) | (simp; done) | (simp; omega) | exact decide_eq_true (by omega) | exact decide_eq_false (by omega) | rfl | (simp [Value.oneCell']; done) | exact i64s_one _ | exact AggOk.mk (by kernel_rfl) (by kernel_rfl)) ?_
      refine At.nilRow 67 5 ?_
      refine At.loop (n := KS.length) (env0 := [(6, .map (some m1)), (7, .map (some m2)), (13, sv none 0 0), (58, sv (some g) ks.length c0), (59, .int .i64 ks.length), (60, .int .i64 0)]) (fun m env bx hp => ∃ (i : Nat) (g1 : Option Nat) (c1 : Nat), m = KS.length - i ∧ i ≤ KS.length ∧
        env = [(6, .map (some m1)), (7, .map (some m2)), (13, sv g1 (diffK T U (KS.take i)).length c1), (58, sv (some g) ks.length c0), (59, .int .i64 ks.length), (60, .int .i64 i)] ∧ bx = [] ∧ hp = [Seg.row g1 67 5 (diffK T U (KS.take i)).length c1 ((diffK T U (KS.take i)).flatMap chC), Seg.row (some g) 62 3 ks.length c0 (KS.flatMap k3c), Seg.obj m1 (.map es1 ck1), Seg.obj m2 (.map es2 ck2), Seg.pack (T.flatMap Tryd.yeB) [], Seg.pack (U.flatMap Tryd.yeB) []]) rfl
        ⟨0, none, 0, by simp, by omega, rfl, rfl, rfl⟩ ⟨rfl, rfl, rfl, rfl, rfl, rfl, trivial⟩ ?_
      rintro m env bx hp ⟨i, g1, c1, rfl, hi, rfl, rfl, rfl⟩ ih
      by_cases hlt : i < KS.length
      · obtain ⟨k, hk⟩ : ∃ k, KS[i]? = some k := ⟨_, List.getElem?_eq_getElem hlt⟩
        have hkin := hin k (List.mem_of_getElem? hk)
        have rK : ∀ {bx : Bx} {s0 : Seg}, RdW ⟨w, kys [] []⟩ bx [s0, Seg.row (some g) 62 3 ks.length c0 (KS.flatMap k3c), Seg.obj m1 (.map es1 ck1), Seg.obj m2 (.map es2 ck2), Seg.pack (T.flatMap Tryd.yeB) [], Seg.pack (U.flatMap Tryd.yeB) []] g (0 + (i : Int).toNat * 3) (k3c k) := fun {_ _} => RdW.row (j := 1) rfl (fun j u hu => by
          rw [Nat.zero_add, Int.toNat_natCast]; exact flat_get (f := k3c) (sz := 3) (fun _ _ => rfl) hk j u hu)
        refine At.run 100 true [true] [hR (k3c k)] rfl (by (repeat' apply And.intro) <;> first | exact rK | exact True.intro | omega | rfl | (simp only [inK]; omega) | exact decide_eq_true (by omega) | exact decide_eq_false (by omega) | (simp; done) | (simp; omega) | (simp [Value.oneCell']; done) | exact i64s_one _ | exact AggOk.mk (by kernel_rfl) (by kernel_rfl)) ?_
        refine At.step [] rfl rfl rfl rfl rfl trivial (OpOk.alloc (cs := [.int .i64 0, .int .i64 0, .int .i64 0]) rfl (by kernel_rfl) fun b15 hb15 => ?_)
        refine At.run 100 true [] [hB 0] rfl (by (repeat' apply And.intro) <;> first | exact i64s_one [_, _, _] | exact True.intro | omega | rfl | (simp only [inK]; omega) | exact decide_eq_true (by omega) | exact decide_eq_false (by omega) | (simp; done) | (simp; omega) | (simp [Value.oneCell']; done) | exact i64s_one _ | exact AggOk.mk (by kernel_rfl) (by kernel_rfl)) ?_
        have lT : ∀ {bx : Bx} {s0 s1 : Seg}, LookOb Tryd.prog ⟨w, kys [] []⟩ bx [s0, s1, Seg.obj m1 (.map es1 ck1), Seg.obj m2 (.map es2 ck2), Seg.pack (T.flatMap Tryd.yeB) [], Seg.pack (U.flatMap Tryd.yeB) []] 58 (.map (some m1)) (key3 k) false (.slice (addrT T k) (getT T k).length (getT T k).length) := fun {_ _ _} => Tryd.look_tab hst1 hks1 hL1 (by simp) k hkin false
        have lU : ∀ {bx : Bx} {s0 s1 : Seg}, LookOb Tryd.prog ⟨w, kys [] []⟩ bx [s0, s1, Seg.obj m1 (.map es1 ck1), Seg.obj m2 (.map es2 ck2), Seg.pack (T.flatMap Tryd.yeB) [], Seg.pack (U.flatMap Tryd.yeB) []] 58 (.map (some m2)) (key3 k) false (.slice (addrT U k) (getT U k).length (getT U k).length) := fun {_ _ _} => Tryd.look_tab hst2 hks2 hL2 (by simp) k hkin false
        have hgT := getT_len hT hia k
        have hgU := getT_len hU hib k
        have hEq : ∀ {bx : Bx} {s0 s1 : Seg}, CallOb Tryd.prog ⟨w, kys [] []⟩ bx [s0, s1, Seg.obj m1 (.map es1 ck1), Seg.obj m2 (.map es2 ck2), Seg.pack (T.flatMap Tryd.yeB) [], Seg.pack (U.flatMap Tryd.yeB) []] 25 [.slice (addrT T k) (getT T k).length (getT T k).length, .slice (addrT U k) (getT U k).length (getT U k).length] (.bool (decide (getT T k = getT U k))) := fun {_ _ _} w' hw' =>
          Tryd.equal_w _ _ _ _ _ _ w' (by omega) (by omega) (Tryd.val_sl hw' (by simp) k) (Tryd.val_sl hw' (by simp) k)
        refine At.quiet true [] [hB 0, hL (.slice (addrT T k) (getT T k).length (getT T k).length), hB 0, hL (.slice (addrT U k) (getT U k).length (getT U k).length), hC (.bool (decide (getT T k = getT U k)))] ⟨by kernel_rfl, by kernel_rfl, rfl, rfl, rfl⟩ rfl rfl rfl (by (repeat' apply And.intro) <;> first | exact lT | exact lU | exact hEq | exact True.intro | omega | rfl | (simp only [inK]; omega) | exact decide_eq_true (by omega) | exact decide_eq_false (by omega) | (simp; done) | (simp; omega) | (simp [Value.oneCell']; done) | exact i64s_one _ | exact AggOk.mk (by kernel_rfl) (by kernel_rfl)) ?_
        have hstep : KS.take (i + 1) = KS.take i ++ [k] := by rw [List.take_add_one, hk]; rfl
        have hdi := hdl i
        by_cases he : getT T k = getT U k
        · refine At.run 100 true [false] [] rfl (by (repeat' apply And.intro) <;> first | (simp [he]; done) | exact True.intro | omega | rfl | (simp only [inK]; omega) | exact decide_eq_true (by omega) | exact decide_eq_false (by omega) | (simp; done) | (simp; omega) | (simp [Value.oneCell']; done) | exact i64s_one _ | exact AggOk.mk (by kernel_rfl) (by kernel_rfl)) ?_
          refine At.keep [] [true, true, true, true, true, true] rfl ?_
          have ih := ih _ _ _ _ (by omega) ⟨i + 1, g1, c1, rfl, by omega, rfl, rfl, rfl⟩
          rw [hstep, diffK_snoc, if_pos he, List.append_nil] at ih
          exact At.weak ih ⟨rfl, rfl, rfl, rfl, rfl, some_int_eq (by omega), trivial⟩
        · refine At.run 100 true [true] [] rfl (by (repeat' apply And.intro) <;> first | (simp [he]; done) | exact True.intro | omega | rfl | (simp only [inK]; omega) | exact decide_eq_true (by omega) | exact decide_eq_false (by omega) | (simp; done) | (simp; omega) | (simp [Value.oneCell']; done) | exact i64s_one _ | exact AggOk.mk (by kernel_rfl) (by kernel_rfl)) ?_
          refine At.draw 17 rfl rfl rfl rfl ?_
          refine AtD.pures (ob := True) true (by kernel_rfl) [0] (fuel := 16) (by kernel_rfl) rfl (by (repeat' apply And.intro) <;> first | exact True.intro | omega | (simp only [inK]; omega) | (simp; done) | (simp; omega) | exact decide_eq_true (by omega) | exact decide_eq_false (by omega) | rfl | (simp [Value.oneCell']; done) | exact i64s_one _ | exact AggOk.mk (by kernel_rfl) (by kernel_rfl)) ?_
          refine AtD.lex 1 13 3 true [] [hB 0, hB 0, hB 0, hB 0, hL (.slice (addrT T k) (getT T k).length (getT T k).length), hB 0, hL (.slice (addrT U k) (getT U k).length (getT U k).length)] ⟨by kernel_rfl, by kernel_rfl, by kernel_rfl, rfl, by kernel_rfl, by kernel_rfl⟩ rfl rfl rfl (by (repeat' apply And.intro) <;> first | exact lT | exact lU | exact True.intro | omega | rfl | (simp only [inK]; omega) | exact decide_eq_true (by omega) | exact decide_eq_false (by omega) | (simp; done) | (simp; omega) | (simp [Value.oneCell']; done) | exact i64s_one _ | exact AggOk.mk (by kernel_rfl) (by kernel_rfl)) (fun h => by cases h) ?_
          refine AtD.fork1 14 (by kernel_rfl) (StepD.by [] rfl rfl rfl rfl trivial (OpOk.buildSlice rfl rfl rfl rfl rfl rfl rfl (fun bs hbs => ?_)))
          refine AtD.fork1 15 (by kernel_rfl) (StepD.by [] rfl rfl rfl rfl trivial (OpOk.append 0 5 72 (chC (mkCh T U k)) rfl rfl rfl rfl rfl rfl rfl (RdW.blk0 (i := 0) rfl) rfl (chC_one _) (by omega) (by omega) fun g2 c2 => ?_))
          refine AtD.pures (ob := True) true (by kernel_rfl) [16] (fuel := 0) (by kernel_rfl) rfl (by (repeat' apply And.intro) <;> first | exact True.intro | omega | (simp only [inK]; omega) | (simp; done) | (simp; omega) | exact decide_eq_true (by omega) | exact decide_eq_false (by omega) | rfl | (simp [Value.oneCell']; done) | exact i64s_one _ | exact AggOk.mk (by kernel_rfl) (by kernel_rfl)) ?_
          refine AtD.done (by kernel_rfl) ?_
          refine At.run 100 true [] [] rfl (by (repeat' apply And.intro) <;> first | exact True.intro | omega | (simp only [inK]; omega) | (simp; done) | (simp; omega) | exact decide_eq_true (by omega) | exact decide_eq_false (by omega) | rfl | (simp [Value.oneCell']; done) | exact i64s_one _ | exact AggOk.mk (by kernel_rfl) (by kernel_rfl)) ?_
          refine At.keep [] [true, true, true, true, true, true] rfl ?_
          have ih := ih _ _ _ _ (by omega) ⟨i + 1, g2, c2, rfl, by omega, rfl, rfl, rfl⟩
          rw [hstep, diffK_snoc, if_neg he] at ih
          simp only [List.length_append, List.length_singleton, List.flatMap_append, List.flatMap_singleton] at ih
          exact At.weak ih ⟨rfl, rfl, rfl, rfl, rfl, some_int_eq (by omega), trivial⟩
      · rw [List.take_of_length_le (by omega)]
        refine At.run 100 true [false] [] rfl (by (repeat' apply And.intro) <;> first | exact True.intro | omega | (simp only [inK]; omega) | (simp; done) | (simp; omega) | exact decide_eq_true (by omega) | exact decide_eq_false (by omega) | rfl | (simp [Value.oneCell']; done) | exact i64s_one _ | exact AggOk.mk (by kernel_rfl) (by kernel_rfl)) ?_
        refine At.keep [] [true, false, false, false, true, true] rfl ?_
        subst hKS
        exact At.ret [] rfl Tryd.func8 rfl trivial ⟨rfl, by rw [if_pos ⟨ha, hb⟩]; exact ⟨T, U, g1, c1, hT, hU, rfl, rfl⟩⟩
    · refine At.cutS (ι := (q : List K3T × (Option Nat × Nat)) ×' (q.1.Perm (T.map (·.k)))) ⟨3, [0, 0, 1, 1, 1, 1, 1], [1]⟩ (fun q => [(6, .map (some m1)), (7, .map (some m2)), (38, .map (some m2)), (8, sv q.1.2.1 q.1.1.length q.1.2.2)]) (fun _ => []) (fun q => [Seg.row q.1.2.1 62 3 (q.1.1).length q.1.2.2 ((q.1.1).flatMap k3c), Seg.obj m1 (.map es1 ck1), Seg.obj m2 (.map es2 ck2), Seg.pack (T.flatMap Tryd.yeB) [], Seg.pack (U.flatMap Tryd.yeB) []]) ?_ (fun hz1 => ?_)
      · rintro ⟨⟨ks, ⟨g0, c0⟩⟩, hks0⟩
        have hks : ks.Perm (T.map (·.k)) := hks0
        have hkl := hks.length_eq
        rw [List.length_map] at hkl
        dsimp only
        refine At.step [] rfl rfl rfl rfl rfl trivial (OpOk.rangeMap rfl rfl Tryd.tableT (fun w' hw' => hw'.hp (Seg.obj m2 (.map es2 ck2)) (by simp)) fun r => ?_)
        refine At.run 100 true [] [] rfl (by (repeat' apply And.intro) <;> first | exact True.intro | omega | (simp only [inK]; omega) | (simp; done) | (simp; omega) | exact decide_eq_true (by omega) | exact decide_eq_false (by omega) | rfl | (simp [Value.oneCell']; done) | exact i64s_one _ | exact AggOk.mk (by kernel_rfl) (by kernel_rfl)) ?_
        refine At.order (br := []) (hr := [Seg.row g0 62 3 (ks).length c0 ((ks).flatMap k3c), Seg.iter r m2 es2 ck2 [], Seg.obj m1 (.map es1 ck1), Seg.obj m2 (.map es2 ck2), Seg.pack (T.flatMap Tryd.yeB) [], Seg.pack (U.flatMap Tryd.yeB) []]) [] [1] rfl rfl ?_
        refine At.loop (n := leftN U.length []) (env0 := [(6, .map (some m1)), (7, .map (some m2)), (8, sv g0 ks.length c0), (39, .pointer (some ⟨r, 0, none⟩))]) (fun k env bx hp => ∃ (V : List Nat) (g : Option Nat) (c : Nat), k = leftN U.length V ∧ V.Nodup ∧ (∀ i, i ∈ V → i < U.length) ∧
          env = [(6, .map (some m1)), (7, .map (some m2)), (8, sv g (ks ++ someU T U V).length c), (39, .pointer (some ⟨r, 0, none⟩))] ∧ bx = [] ∧ hp = [Seg.row g 62 3 (ks ++ someU T U V).length c ((ks ++ someU T U V).flatMap k3c), Seg.iter r m2 es2 ck2 V, Seg.obj m1 (.map es1 ck1), Seg.obj m2 (.map es2 ck2), Seg.pack (T.flatMap Tryd.yeB) [], Seg.pack (U.flatMap Tryd.yeB) []]) rfl ⟨[], g0, c0, by simp, by simp, by simp, by simp [someU], rfl, by simp [someU]⟩ ⟨rfl, rfl, rfl, rfl, trivial⟩ ?_
        rintro kk env bx hp ⟨V, g, c, rfl, hn, hV, rfl, rfl, rfl⟩ ih
        have hvl := visited hn hV
        have hul := someU_len T U V
        have hal : (ks ++ someU T U V).length ≤ 10000000 := by rw [List.length_append]; omega
        refine At.run 100 true [] [] rfl trivial ?_
        refine At.step [] rfl rfl rfl rfl rfl trivial (OpOk.nextMap 1 rfl rfl rfl (fun w' hw' => hw'.hp (Seg.obj m2 (.map es2 ck2)) (by simp)) hst2 (fun i hi => by rw [hes2]; exact hV i hi) (fun hall => ?_) (fun i e hi he => ?_))
        · have hp := perm_range hn hV (fun i hi => hall i (by rw [hes2]; exact hi))
          refine At.run 100 true [false] [] rfl (by (repeat' apply And.intro) <;> first | exact True.intro | omega | (simp only [inK]; omega) | (simp; done) | (simp; omega) | exact decide_eq_true (by omega) | exact decide_eq_false (by omega) | rfl | (simp [Value.oneCell']; done) | exact i64s_one _ | exact AggOk.mk (by kernel_rfl) (by kernel_rfl)) ?_
          refine At.keep [] [true, false, true, true, true, true] rfl ?_
          exact At.weak (hz2 ⟨(ks ++ someU T U V, (g, c)), hks.append (someU_all hp)⟩) ⟨rfl, rfl, rfl, rfl, trivial⟩
        · have hil : i < U.length := by rw [← hes2]; exact (Array.getElem?_eq_some_iff.1 he).1
          obtain ⟨f, hf⟩ : ∃ f, U[i]? = some f := ⟨_, List.getElem?_eq_getElem hil⟩
          have hee : (e.key, e.val) = tEnt f := by
            have h1 : (es2.toList.map fun e => (e.key, e.val))[i]? = some (e.key, e.val) := by rw [List.getElem?_map, Array.getElem?_toList, he]; rfl
            rw [hL2, List.getElem?_map, hf] at h1
            exact (Option.some.inj h1).symm
          obtain ⟨kk, v, born⟩ := e
          simp only [tEnt, Prod.mk.injEq] at hee
          obtain ⟨rfl, rfl⟩ := hee
          simp only [setL]
          have hV' := lt_snoc hV hil
          have hn' := nodup_snoc hn hi
          have hfin := hkU f (List.mem_of_getElem? hf)
          refine At.run 100 true [true] [] rfl (by (repeat' apply And.intro) <;> first | exact True.intro | omega | (simp only [inK]; omega) | (simp; done) | (simp; omega) | exact decide_eq_true (by omega) | exact decide_eq_false (by omega) | rfl | (simp [Value.oneCell']; done) | exact i64s_one _ | exact AggOk.mk (by kernel_rfl) (by kernel_rfl)) ?_
          refine At.step [] rfl rfl rfl rfl rfl trivial (OpOk.entryMap (T := V) (i := i) 1 rfl rfl rfl (fun w' hw' => hw'.hp (Seg.obj m2 (.map es2 ck2)) (by simp)) hst2 he ?_)
          simp only
          refine At.run 100 true [] [] rfl (by (repeat' apply And.intro) <;> first | exact True.intro | omega | (simp only [inK]; omega) | (simp; done) | (simp; omega) | exact decide_eq_true (by omega) | exact decide_eq_false (by omega) | rfl | (simp [Value.oneCell']; done) | exact i64s_one _ | exact AggOk.mk (by kernel_rfl) (by kernel_rfl)) ?_
          refine At.step [] rfl rfl rfl rfl rfl trivial (OpOk.alloc (cs := [.int .i64 0, .int .i64 0, .int .i64 0]) rfl (by kernel_rfl) fun b10 hb10 => ?_)
          have lT : ∀ {bx : Bx} {s0 s1 : Seg}, LookOb Tryd.prog ⟨w, kys [] []⟩ bx [s0, s1, Seg.obj m1 (.map es1 ck1), Seg.obj m2 (.map es2 ck2), Seg.pack (T.flatMap Tryd.yeB) [], Seg.pack (U.flatMap Tryd.yeB) []] 58 (.map (some m1)) (key3 f.k) true (.tuple #[.slice (addrT T f.k) (getT T f.k).length (getT T f.k).length, .bool (hasT T f.k)]) := fun {_ _ _} => Tryd.look_tab hst1 hks1 hL1 (by simp) f.k hfin true
          cases hh : hasT T f.k with
          | true =>
            rw [hh] at lT
            have hs : someU T U (V ++ [i]) = someU T U V := by rw [someU_snoc hf, hh]; simp
            refine At.run 100 true [false] [hB 0, hB 0, hL (.tuple #[.slice (addrT T f.k) (getT T f.k).length (getT T f.k).length, .bool true])] rfl (by (repeat' apply And.intro) <;> first | exact lT | exact i64s_one [_, _, _] | exact True.intro | omega | rfl | (simp only [inK]; omega) | exact decide_eq_true (by omega) | exact decide_eq_false (by omega) | (simp; done) | (simp; omega) | (simp [Value.oneCell']; done) | exact i64s_one _ | exact AggOk.mk (by kernel_rfl) (by kernel_rfl)) ?_
            refine At.keep [] [true, true, true, true, true, true] rfl ?_
            have ih := ih _ _ _ _ (leftN_snoc hil hi) ⟨V ++ [i], g, c, rfl, hn', hV', rfl, rfl, rfl⟩
            rw [hs] at ih
            exact At.weak ih ⟨rfl, rfl, rfl, rfl, trivial⟩
          | false =>
            rw [hh] at lT
            have hs : someU T U (V ++ [i]) = someU T U V ++ [f.k] := by rw [someU_snoc hf, hh]; simp
            refine At.run 100 true [true] [hB 0, hB 0, hL (.tuple #[.slice (addrT T f.k) (getT T f.k).length (getT T f.k).length, .bool false]), hB 0] rfl (by (repeat' apply And.intro) <;> first | exact lT | exact i64s_one [_, _, _] | exact True.intro | omega | rfl | (simp only [inK]; omega) | exact decide_eq_true (by omega) | exact decide_eq_false (by omega) | (simp; done) | (simp; omega) | (simp [Value.oneCell']; done) | exact i64s_one _ | exact AggOk.mk (by kernel_rfl) (by kernel_rfl)) ?_
            refine At.append1 0 3 24 rfl rfl rfl rfl rfl rfl rfl rfl rfl trivial (fun _ => rfl) trivial rfl rfl rfl rfl rfl rfl rfl rfl (fun _ => rfl) (i64s_one [_, _, _]) (by omega) (by omega) (fun bb g2 c2 => ?_)
            refine At.run 100 true [] [] rfl (by (repeat' apply And.intro) <;> first | exact True.intro | omega | (simp only [inK]; omega) | (simp; done) | (simp; omega) | exact decide_eq_true (by omega) | exact decide_eq_false (by omega) | rfl | (simp [Value.oneCell']; done) | exact i64s_one _ | exact AggOk.mk (by kernel_rfl) (by kernel_rfl)) ?_
            refine At.keep [] [true, true, true, true, true, true] rfl ?_
            have ih := ih _ _ _ _ (leftN_snoc hil hi) ⟨V ++ [i], g2, c2, rfl, hn', hV', rfl, rfl, rfl⟩
            rw [hs, ← List.append_assoc, k3_snoc, List.length_append, List.length_singleton] at ih
            exact At.weak ih ⟨rfl, rfl, rfl, rfl, trivial⟩
      · refine At.run 100 true [] [] rfl (by (repeat' apply And.intro) <;> first | exact True.intro | omega | (simp only [inK]; omega) | (simp; done) | (simp; omega) | exact decide_eq_true (by omega) | exact decide_eq_false (by omega) | rfl | (simp [Value.oneCell']; done) | exact i64s_one _ | exact AggOk.mk (by kernel_rfl) (by kernel_rfl)) ?_
        refine At.step [] rfl rfl rfl rfl rfl trivial (OpOk.rangeMap rfl rfl Tryd.tableT (fun w' hw' => hw'.hp (Seg.obj m1 (.map es1 ck1)) (by simp)) fun r => ?_)
        refine At.run 100 true [] [] rfl (by (repeat' apply And.intro) <;> first | exact True.intro | omega | (simp only [inK]; omega) | (simp; done) | (simp; omega) | exact decide_eq_true (by omega) | exact decide_eq_false (by omega) | rfl | (simp [Value.oneCell']; done) | exact i64s_one _ | exact AggOk.mk (by kernel_rfl) (by kernel_rfl)) ?_
        refine At.nilRow 62 3 ?_
        refine At.loop (n := leftN T.length []) (env0 := [(6, .map (some m1)), (7, .map (some m2)), (8, sv none 0 0), (29, .pointer (some ⟨r, 0, none⟩))]) (fun k env bx hp => ∃ (V : List Nat) (g : Option Nat) (c : Nat), k = leftN T.length V ∧ V.Nodup ∧ (∀ i, i ∈ V → i < T.length) ∧
          env = [(6, .map (some m1)), (7, .map (some m2)), (8, sv g (someK T V).length c), (29, .pointer (some ⟨r, 0, none⟩))] ∧ bx = [] ∧ hp = [Seg.row g 62 3 (someK T V).length c ((someK T V).flatMap k3c), Seg.iter r m1 es1 ck1 V, Seg.obj m1 (.map es1 ck1), Seg.obj m2 (.map es2 ck2), Seg.pack (T.flatMap Tryd.yeB) [], Seg.pack (U.flatMap Tryd.yeB) []]) rfl ⟨[], none, 0, by simp, by simp, by simp, rfl, rfl, rfl⟩ ⟨rfl, rfl, rfl, rfl, trivial⟩ ?_
        rintro kk env bx hp ⟨V, g, c, rfl, hn, hV, rfl, rfl, rfl⟩ ih
        have hvl := visited hn hV
        have hul := someK_len T V
        refine At.run 100 true [] [] rfl trivial ?_
        refine At.step [] rfl rfl rfl rfl rfl trivial (OpOk.nextMap 1 rfl rfl rfl (fun w' hw' => hw'.hp (Seg.obj m1 (.map es1 ck1)) (by simp)) hst1 (fun i hi => by rw [hes1]; exact hV i hi) (fun hall => ?_) (fun i e hi he => ?_))
        · have hp := perm_range hn hV (fun i hi => hall i (by rw [hes1]; exact hi))
          refine At.run 100 true [false] [] rfl (by (repeat' apply And.intro) <;> first | exact True.intro | omega | (simp only [inK]; omega) | (simp; done) | (simp; omega) | exact decide_eq_true (by omega) | exact decide_eq_false (by omega) | rfl | (simp [Value.oneCell']; done) | exact i64s_one _ | exact AggOk.mk (by kernel_rfl) (by kernel_rfl)) ?_
          refine At.keep [] [true, false, true, true, true, true] rfl ?_
          exact At.weak (hz1 ⟨(someK T V, (g, c)), someK_all hp⟩) ⟨rfl, rfl, rfl, rfl, trivial⟩
        · have hil : i < T.length := by rw [← hes1]; exact (Array.getElem?_eq_some_iff.1 he).1
          obtain ⟨f, hf⟩ : ∃ f, T[i]? = some f := ⟨_, List.getElem?_eq_getElem hil⟩
          have hee : (e.key, e.val) = tEnt f := by
            have h1 : (es1.toList.map fun e => (e.key, e.val))[i]? = some (e.key, e.val) := by rw [List.getElem?_map, Array.getElem?_toList, he]; rfl
            rw [hL1, List.getElem?_map, hf] at h1
            exact (Option.some.inj h1).symm
          obtain ⟨kk, v, born⟩ := e
          simp only [tEnt, Prod.mk.injEq] at hee
          obtain ⟨rfl, rfl⟩ := hee
          simp only [setL]
          have hV' := lt_snoc hV hil
          have hn' := nodup_snoc hn hi
          refine At.run 100 true [true] [] rfl (by (repeat' apply And.intro) <;> first | exact True.intro | omega | (simp only [inK]; omega) | (simp; done) | (simp; omega) | exact decide_eq_true (by omega) | exact decide_eq_false (by omega) | rfl | (simp [Value.oneCell']; done) | exact i64s_one _ | exact AggOk.mk (by kernel_rfl) (by kernel_rfl)) ?_
          refine At.step [] rfl rfl rfl rfl rfl trivial (OpOk.entryMap (T := V) (i := i) 1 rfl rfl rfl (fun w' hw' => hw'.hp (Seg.obj m1 (.map es1 ck1)) (by simp)) hst1 he ?_)
          simp only
          refine At.run 100 true [] [] rfl (by (repeat' apply And.intro) <;> first | exact True.intro | omega | (simp only [inK]; omega) | (simp; done) | (simp; omega) | exact decide_eq_true (by omega) | exact decide_eq_false (by omega) | rfl | (simp [Value.oneCell']; done) | exact i64s_one _ | exact AggOk.mk (by kernel_rfl) (by kernel_rfl)) ?_
          refine At.step [] rfl rfl rfl rfl rfl trivial (OpOk.alloc (cs := [.int .i64 0, .int .i64 0, .int .i64 0]) rfl (by kernel_rfl) fun b9 hb9 => ?_)
          refine At.run 100 true [] [hB 0, hB 0] rfl (by (repeat' apply And.intro) <;> first | exact i64s_one [_, _, _] | exact True.intro | omega | rfl | (simp only [inK]; omega) | exact decide_eq_true (by omega) | exact decide_eq_false (by omega) | (simp; done) | (simp; omega) | (simp [Value.oneCell']; done) | exact i64s_one _ | exact AggOk.mk (by kernel_rfl) (by kernel_rfl)) ?_
          refine At.append1 0 3 24 rfl rfl rfl rfl rfl rfl rfl rfl rfl trivial (fun _ => rfl) trivial rfl rfl rfl rfl rfl rfl rfl rfl (fun _ => rfl) (i64s_one [_, _, _]) (by omega) (by omega) (fun bb g2 c2 => ?_)
          refine At.run 100 true [] [] rfl (by (repeat' apply And.intro) <;> first | exact True.intro | omega | (simp only [inK]; omega) | (simp; done) | (simp; omega) | exact decide_eq_true (by omega) | exact decide_eq_false (by omega) | rfl | (simp [Value.oneCell']; done) | exact i64s_one _ | exact AggOk.mk (by kernel_rfl) (by kernel_rfl)) ?_
          refine At.keep [] [true, true, true, true, true, true] rfl ?_
          have ih := ih _ _ _ _ (leftN_snoc hil hi) ⟨V ++ [i], g2, c2, rfl, hn', hV', rfl, rfl, rfl⟩
          rw [someK_snoc hf, k3_snoc, List.length_append, List.length_singleton] at ih
          exact At.weak ih ⟨rfl, rfl, rfl, rfl, trivial⟩
  refine AtD.fork2 0 2 (by kernel_rfl) ?_ ?_
  · refine StepD.by [] rfl rfl rfl rfl trivial (OpOk.one true [] [hB 1] rfl (by (repeat' apply And.intro) <;> first | exact True.intro | omega | (simp only [inK]; omega) | (simp; done) | (simp; omega) | exact decide_eq_true (by omega) | exact decide_eq_false (by omega) | rfl | (simp [Value.oneCell']; done) | exact i64s_one _ | exact AggOk.mk (by kernel_rfl) (by kernel_rfl)) ?_)
    refine AtD.fork2 1 2 (by kernel_rfl) ?_ ?_
    · refine StepD.by [] rfl rfl rfl rfl trivial (OpOk.call rfl (fun w' hw' => hTa hw') ?_)
      rintro v bx' hp' ⟨m1, T, rfl, rfl, rfl, hT⟩
      refine AtD.fork1 2 (by kernel_rfl) (StepD.by [] rfl rfl rfl rfl trivial (OpOk.one true [] [hB 0] rfl (by (repeat' apply And.intro) <;> first | exact True.intro | omega | (simp only [inK]; omega) | (simp; done) | (simp; omega) | exact decide_eq_true (by omega) | exact decide_eq_false (by omega) | rfl | (simp [Value.oneCell']; done) | exact i64s_one _ | exact AggOk.mk (by kernel_rfl) (by kernel_rfl)) ?_))
      refine AtD.fork1 3 (by kernel_rfl) (StepD.by [] rfl rfl rfl rfl trivial (OpOk.call rfl (fun w' hw' => hTb hw') ?_))
      rintro v bx' hp' ⟨m2, U, rfl, rfl, rfl, hU⟩
      exact AtD.weak (hd ⟨((m1, T), (m2, U)), hT, hU⟩) ⟨rfl, rfl, trivial⟩
    · refine StepD.by [] rfl rfl rfl rfl trivial (OpOk.one true [] [hB 0] rfl (by (repeat' apply And.intro) <;> first | exact True.intro | omega | (simp only [inK]; omega) | (simp; done) | (simp; omega) | exact decide_eq_true (by omega) | exact decide_eq_false (by omega) | rfl | (simp [Value.oneCell']; done) | exact i64s_one _ | exact AggOk.mk (by kernel_rfl) (by kernel_rfl)) ?_)
      refine AtD.fork1 1 (by kernel_rfl) (StepD.by [] rfl rfl rfl rfl trivial (OpOk.call rfl (fun w' hw' => hTa hw') ?_))
      rintro v bx' hp' ⟨m1, T, rfl, rfl, rfl, hT⟩
      refine AtD.fork1 3 (by kernel_rfl) (StepD.by [] rfl rfl rfl rfl trivial (OpOk.call rfl (fun w' hw' => hTb hw') ?_))
      rintro v bx' hp' ⟨m2, U, rfl, rfl, rfl, hU⟩
      exact AtD.weak (hd ⟨((m1, T), (m2, U)), hT, hU⟩) ⟨rfl, rfl, trivial⟩
  · refine StepD.by [] rfl rfl rfl rfl trivial (OpOk.one true [] [hB 0] rfl (by (repeat' apply And.intro) <;> first | exact True.intro | omega | (simp only [inK]; omega) | (simp; done) | (simp; omega) | exact decide_eq_true (by omega) | exact decide_eq_false (by omega) | rfl | (simp [Value.oneCell']; done) | exact i64s_one _ | exact AggOk.mk (by kernel_rfl) (by kernel_rfl)) ?_)
    refine AtD.fork1 0 (by kernel_rfl) (StepD.by [] rfl rfl rfl rfl trivial (OpOk.one true [] [hB 1] rfl (by (repeat' apply And.intro) <;> first | exact True.intro | omega | (simp only [inK]; omega) | (simp; done) | (simp; omega) | exact decide_eq_true (by omega) | exact decide_eq_false (by omega) | rfl | (simp [Value.oneCell']; done) | exact i64s_one _ | exact AggOk.mk (by kernel_rfl) (by kernel_rfl)) ?_))
    refine AtD.fork1 1 (by kernel_rfl) (StepD.by [] rfl rfl rfl rfl trivial (OpOk.call rfl (fun w' hw' => hTa hw') ?_))
    rintro v bx' hp' ⟨m1, T, rfl, rfl, rfl, hT⟩
    refine AtD.fork1 3 (by kernel_rfl) (StepD.by [] rfl rfl rfl rfl trivial (OpOk.call rfl (fun w' hw' => hTb hw') ?_))
    rintro v bx' hp' ⟨m2, U, rfl, rfl, rfl, hU⟩
    exact AtD.weak (hd ⟨((m1, T), (m2, U)), hT, hU⟩) ⟨rfl, rfl, trivial⟩

end Go.Proofs

/-
  Walks of layer 14's statements: changes turned into the document's, and the document's likeness of changes.
-/
namespace Go.Proofs
open Go Go.Eng
set_option maxRecDepth 100000
set_option maxHeartbeats 4000000
attribute [local irreducible] Tri

/-- The lists of some changes lie where they are said to. -/
def ChL (w : World) (L : List ChE) : Prop := ∀ e, e ∈ L → SlOk w e.wa (i64s e.was) ∧ SlOk w e.ia (i64s e.is) ∧ e.was.length ≤ 1152921504606846976 ∧ e.is.length ≤ 1152921504606846976
theorem ChL.ext {w w' : World} {L : List ChE} (h : ChL w L) {m : List Nat} (he : Ext m w w') (hm : m = []) : ChL w' L := fun e hx => by
  subst hm
  obtain ⟨h1, h2, h3⟩ := h e hx
  exact ⟨h1.ext he (by simp), h2.ext he (by simp), h3⟩
theorem chC_ne {L : List ChE} {e : ChE} {i : Nat} (h : L[i]? = some e) : L.flatMap chC ≠ [] := by
  intro e2
  have := List.flatMap_eq_nil_iff.1 e2 e (List.mem_of_getElem? h)
  cases this
theorem RdW.ch {S : Base} {bx : Bx} {hp : List Seg} {g o i : Nat} {L : List ChE} {e : ChE} (hc : ∀ j u, (L.flatMap chC)[j]? = some u → S.w0.cell? ⟨g, o + j, none⟩ = some u) (hm : g ∉ S.mods) (hx : L[i]? = some e) (f : Nat) (v : Value) (hv : (chC e)[f]? = some v) :
    RdW S bx hp g (o + (i : Int).toNat * 5 + f) [v] := RdW.base1 hm (by rw [Int.toNat_natCast, Nat.add_assoc]; exact hc _ _ (flat_get (f := chC) (sz := 5) (fun _ _ => rfl) hx f _ hv))

theorem Tryd.Plain_w (L : List ChE) (a : Option Addr) (ca : Nat) (w : World) (hl : L.length ≤ 1000000000) (ha : SlOk w a (L.flatMap chC)) :
    Tri Tryd.prog 15 [.slice a L.length ca] w [] (fun v bx hp => bx = [] ∧ ∃ (g : Option Nat) (c : Nat), v = sv g L.length c ∧ hp = [Seg.row g 46 5 L.length c (L.flatMap chC)]) := by
  refine Tri.enter (bx := []) (hp := []) Tryd.func15 rfl (by kernel_rfl) rfl (Own.nil w) ?_
  refine At.run 100 true [] [] rfl (by (repeat' apply And.intro) <;> first | exact True.intro | omega | (simp only [inK]; omega) | (simp; done) | (simp; omega) | exact decide_eq_true (by omega) | exact decide_eq_false (by omega) | rfl | (simp [Value.oneCell']; done) | exact i64s_one _ | exact AggOk.mk (by kernel_rfl) (by kernel_rfl)) ?_
  refine At.nilRow 46 5 ?_
  refine At.loop (n := L.length) (env0 := [(0, .slice a L.length ca), (3, sv none 0 0), (4, .int .i64 0)]) (fun m env bx hp => ∃ (i : Nat) (g : Option Nat) (c : Nat), m = L.length - i ∧ i ≤ L.length ∧
    env = [(0, .slice a L.length ca), (3, sv g i c), (4, .int .i64 i)] ∧ bx = [] ∧ hp = [Seg.row g 46 5 i c ((L.take i).flatMap chC)]) rfl ⟨0, none, 0, by simp, by omega, rfl, rfl, rfl⟩ ⟨rfl, rfl, rfl, trivial⟩ ?_
  rintro m env bx hp ⟨i, g0, c0, rfl, hi, rfl, rfl, rfl⟩ ih
  by_cases hlt : i < L.length
  · obtain ⟨e, hx⟩ : ∃ e, L[i]? = some e := ⟨_, List.getElem?_eq_getElem hlt⟩
    obtain ⟨g, o, rfl, hc⟩ := ha.get (chC_ne hx)
    have hm : g ∉ (⟨w, kys [] []⟩ : Base).mods := by simp [kys]
    have rT : ∀ {bx : Bx} {hp : List Seg} (f : Nat) (v : Value), (chC e)[f]? = some v → RdW ⟨w, kys [] []⟩ bx hp g (o + (i : Int).toNat * 5 + f) [v] := fun {_ _} => RdW.ch hc hm hx
    have hnx : L.take (i + 1) = L.take i ++ [e] := by rw [List.take_add_one, hx]; rfl
    refine At.run 100 true [true] [] rfl (by (repeat' apply And.intro) <;> first | exact True.intro | omega | (simp only [inK]; omega) | (simp; done) | (simp; omega) | exact decide_eq_true (by omega) | exact decide_eq_false (by omega) | rfl | (simp [Value.oneCell']; done) | exact i64s_one _ | exact AggOk.mk (by kernel_rfl) (by kernel_rfl)) ?_
    refine At.draw 30 rfl rfl rfl rfl ?_
    refine AtD.pures (ob := True) true (by kernel_rfl) [0] (fuel := 29) (by kernel_rfl) rfl (by (repeat' apply And.intro) <;> first | exact True.intro | omega | (simp only [inK]; omega) | (simp; done) | (simp; omega) | exact decide_eq_true (by omega) | exact decide_eq_false (by omega) | rfl | (simp [Value.oneCell']; done) | exact i64s_one _ | exact AggOk.mk (by kernel_rfl) (by kernel_rfl)) ?_
    refine AtD.lex 1 26 3 true [] [hR [.int .i64 e.k.1], hR [.int .i64 e.k.2.1], hR [.int .i64 e.k.2.2], hR [.slice e.wa e.was.length e.wc], hR [.slice e.ia e.is.length e.ic]] ⟨by kernel_rfl, by kernel_rfl, by kernel_rfl, rfl, by kernel_rfl, by kernel_rfl⟩ rfl rfl rfl (by (repeat' apply And.intro) <;> first | exact rT 0 _ rfl | exact rT 1 _ rfl | exact rT 2 _ rfl | exact rT 3 _ rfl | exact rT 4 _ rfl | exact True.intro | omega | rfl | (simp only [inK]; omega) | exact decide_eq_true (by omega) | exact decide_eq_false (by omega) | (simp; done) | (simp; omega) | (simp [Value.oneCell']; done) | exact i64s_one _ | exact AggOk.mk (by kernel_rfl) (by kernel_rfl)) (fun h => by cases h) ?_
    refine AtD.fork1 27 (by kernel_rfl) (StepD.by [] rfl rfl rfl rfl trivial (OpOk.buildSlice rfl rfl rfl rfl rfl rfl rfl (fun bs hbs => ?_)))
    refine AtD.fork1 28 (by kernel_rfl) (StepD.by [] rfl rfl rfl rfl trivial (OpOk.append 0 5 72 (chC e) rfl rfl rfl rfl rfl rfl rfl (RdW.blk0 (i := 0) rfl) rfl (chC_one _) (by omega) (by omega) fun g3 c3 => ?_))
    refine AtD.pures (ob := True) true (by kernel_rfl) [29] (fuel := 0) (by kernel_rfl) rfl (by (repeat' apply And.intro) <;> first | exact True.intro | omega | (simp only [inK]; omega) | (simp; done) | (simp; omega) | exact decide_eq_true (by omega) | exact decide_eq_false (by omega) | rfl | (simp [Value.oneCell']; done) | exact i64s_one _ | exact AggOk.mk (by kernel_rfl) (by kernel_rfl)) ?_
    refine AtD.done (by kernel_rfl) ?_
    refine At.run 100 true [] [] rfl (by (repeat' apply And.intro) <;> first | exact True.intro | omega | (simp only [inK]; omega) | (simp; done) | (simp; omega) | exact decide_eq_true (by omega) | exact decide_eq_false (by omega) | rfl | (simp [Value.oneCell']; done) | exact i64s_one _ | exact AggOk.mk (by kernel_rfl) (by kernel_rfl)) ?_
    refine At.keep [] [true] rfl ?_
    have ih := ih _ _ _ _ (by omega) ⟨i + 1, g3, c3, rfl, by omega, rfl, rfl, rfl⟩
    simp only [hnx, List.flatMap_append, List.flatMap_singleton] at ih
    exact At.weak ih ⟨rfl, rfl, some_int_eq (by omega), trivial⟩
  · have hie : i = L.length := by omega
    subst hie
    refine At.run 100 true [false] [] rfl (by (repeat' apply And.intro) <;> first | exact True.intro | omega | (simp only [inK]; omega) | (simp; done) | (simp; omega) | exact decide_eq_true (by omega) | exact decide_eq_false (by omega) | rfl | (simp [Value.oneCell']; done) | exact i64s_one _ | exact AggOk.mk (by kernel_rfl) (by kernel_rfl)) ?_
    exact At.ret [] rfl Tryd.func15 rfl trivial ⟨rfl, g0, c0, rfl, by rw [List.take_length]⟩

def chP (e : ChE) : K3T × List Int × List Int := (e.k, e.was, e.is)
theorem Tryd.rSame14_w (L M : List ChE) (a b : Option Addr) (ca cb : Nat) (w : World) (hl : L.length ≤ 1000000000) (hm : M.length ≤ 1000000000) (ha : SlOk w a (L.flatMap chC)) (hb : SlOk w b (M.flatMap chC)) (hva : ChL w L) (hvb : ChL w M) :
    Fun Tryd.prog 16 [.slice a L.length ca, .slice b M.length cb] w (.bool (decide (L.map chP = M.map chP))) := by
  refine Tri.enter (bx := []) (hp := []) Tryd.func16 rfl (by kernel_rfl) rfl (Own.nil w) ?_
  by_cases hlen : L.length = M.length
  · refine At.run 100 true [false] [] rfl (by (repeat' apply And.intro) <;> first | (simp [hlen]; done) | exact True.intro | omega | rfl | (simp only [inK]; omega) | exact decide_eq_true (by omega) | exact decide_eq_false (by omega) | (simp; done) | (simp; omega) | (simp [Value.oneCell']; done) | exact i64s_one _ | exact AggOk.mk (by kernel_rfl) (by kernel_rfl)) ?_
    refine At.loop (n := L.length) (env0 := [(0, .slice a L.length ca), (1, .slice b M.length cb), (5, .int .i64 0)]) (fun m env bx hp => ∃ i : Nat, m = L.length - i ∧ i ≤ L.length ∧ (L.map chP).take i = (M.map chP).take i ∧
      env = [(0, .slice a L.length ca), (1, .slice b M.length cb), (5, .int .i64 i)] ∧ bx = [] ∧ hp = []) rfl ⟨0, by simp, by omega, by simp, rfl, rfl, rfl⟩ ⟨rfl, rfl, rfl, trivial⟩ ?_
    rintro m env bx hp ⟨i, rfl, hi, htk, rfl, rfl, rfl⟩ ih
    by_cases hlt : i < L.length
    · obtain ⟨x, hx⟩ : ∃ x, L[i]? = some x := ⟨_, List.getElem?_eq_getElem hlt⟩
      obtain ⟨y, hy⟩ : ∃ y, M[i]? = some y := ⟨_, List.getElem?_eq_getElem (by omega)⟩
      obtain ⟨g, o, rfl, hc⟩ := ha.get (chC_ne hx)
      obtain ⟨g2, o2, rfl, hc2⟩ := hb.get (chC_ne hy)
      have hm1 : g ∉ (⟨w, kys [] []⟩ : Base).mods := by simp [kys]
      have hm2 : g2 ∉ (⟨w, kys [] []⟩ : Base).mods := by simp [kys]
      have rX : ∀ {bx : Bx} {hp : List Seg} (f : Nat) (v : Value), (chC x)[f]? = some v → RdW ⟨w, kys [] []⟩ bx hp g (o + (i : Int).toNat * 5 + f) [v] := fun {_ _} => RdW.ch hc hm1 hx
      have rY : ∀ {bx : Bx} {hp : List Seg} (f : Nat) (v : Value), (chC y)[f]? = some v → RdW ⟨w, kys [] []⟩ bx hp g2 (o2 + (i : Int).toNat * 5 + f) [v] := fun {_ _} => RdW.ch hc2 hm2 hy
      have hme : ∀ {a : Option Addr} (k : Nat), k ∈ slB a → ¬ k ∈ (⟨w, kys [] []⟩ : Base).mods := fun _ _ => by simp [kys]
      have hme : ∀ {a : Option Addr} (k : Nat), k ∈ slB a → ¬ k ∈ (⟨w, kys [] []⟩ : Base).mods := fun _ _ => by simp [kys]
      have hme : ∀ {a : Option Addr} (k : Nat), k ∈ slB a → ¬ k ∈ (⟨w, kys [] []⟩ : Base).mods := fun _ _ => by simp [kys]
      obtain ⟨x1, x2, x3, x4⟩ := hva x (List.mem_of_getElem? hx)
      obtain ⟨y1, y2, y3, y4⟩ := hvb y (List.mem_of_getElem? hy)
      have hS1 : ∀ {bx : Bx} {hp : List Seg}, CallOb Tryd.prog ⟨w, kys [] []⟩ bx hp 33 [.slice x.wa x.was.length x.wc, .slice y.wa y.was.length y.wc] (.bool (decide (x.was = y.was))) := fun {_ _} w' hw' => Tryd.same_w _ _ _ _ _ _ w' (x1.ext hw'.ext hme) (y1.ext hw'.ext hme) (by omega)
      have hS2 : ∀ {bx : Bx} {hp : List Seg}, CallOb Tryd.prog ⟨w, kys [] []⟩ bx hp 33 [.slice x.ia x.is.length x.ic, .slice y.ia y.is.length y.ic] (.bool (decide (x.is = y.is))) := fun {_ _} w' hw' => Tryd.same_w _ _ _ _ _ _ w' (x2.ext hw'.ext hme) (y2.ext hw'.ext hme) (by omega)
      refine At.run 100 true [true] [] rfl (by (repeat' apply And.intro) <;> first | exact True.intro | omega | (simp only [inK]; omega) | (simp; done) | (simp; omega) | exact decide_eq_true (by omega) | exact decide_eq_false (by omega) | rfl | (simp [Value.oneCell']; done) | exact i64s_one _ | exact AggOk.mk (by kernel_rfl) (by kernel_rfl)) ?_
      by_cases e0 : ¬ (x.k.1 = y.k.1)
      · refine At.quiet true [true, true, true, true] [hR [.int .i64 x.k.1], hR [.int .i64 y.k.1]] ⟨by kernel_rfl, by kernel_rfl, rfl, rfl, rfl⟩ rfl rfl rfl (by (repeat' apply And.intro) <;> first | exact rX 0 _ rfl | exact rY 0 _ rfl | exact rX 1 _ rfl | exact rY 1 _ rfl | exact rX 2 _ rfl | exact rY 2 _ rfl | exact rX 3 _ rfl | exact rY 3 _ rfl | exact rX 4 _ rfl | exact rY 4 _ rfl | exact hS1 | exact hS2 | (simp [e0]; done) | exact True.intro | omega | rfl | (simp only [inK]; omega) | exact decide_eq_true (by omega) | exact decide_eq_false (by omega) | (simp; done) | (simp; omega) | (simp [Value.oneCell']; done) | exact i64s_one _ | exact AggOk.mk (by kernel_rfl) (by kernel_rfl)) ?_
        refine At.run 100 true [true] [] rfl (by (repeat' apply And.intro) <;> first | (simp [e0]; done) | exact True.intro | omega | rfl | (simp only [inK]; omega) | exact decide_eq_true (by omega) | exact decide_eq_false (by omega) | (simp; done) | (simp; omega) | (simp [Value.oneCell']; done) | exact i64s_one _ | exact AggOk.mk (by kernel_rfl) (by kernel_rfl)) ?_
        have hne : L.map chP ≠ M.map chP := by
          intro e
          have e' := congrArg (fun l => l[i]?) e
          simp only [List.getElem?_map, hx, hy, Option.map_some, Option.some.injEq, chP, Prod.mk.injEq] at e'
          exact e0 (by rw [e'.1])
        rw [decide_eq_false hne]
        exact At.retK [] [] [] rfl rfl Tryd.func16 rfl trivial ⟨rfl, rfl, rfl⟩
      have e0 := Decidable.not_not.1 e0
      by_cases e1 : ¬ (x.k.2.1 = y.k.2.1)
      · refine At.quiet true [false, true, true, true] [hR [.int .i64 x.k.1], hR [.int .i64 y.k.1], hR [.int .i64 x.k.2.1], hR [.int .i64 y.k.2.1]] ⟨by kernel_rfl, by kernel_rfl, rfl, rfl, rfl⟩ rfl rfl rfl (by (repeat' apply And.intro) <;> first | exact rX 0 _ rfl | exact rY 0 _ rfl | exact rX 1 _ rfl | exact rY 1 _ rfl | exact rX 2 _ rfl | exact rY 2 _ rfl | exact rX 3 _ rfl | exact rY 3 _ rfl | exact rX 4 _ rfl | exact rY 4 _ rfl | exact hS1 | exact hS2 | (simp [e0, e1]; done) | exact True.intro | omega | rfl | (simp only [inK]; omega) | exact decide_eq_true (by omega) | exact decide_eq_false (by omega) | (simp; done) | (simp; omega) | (simp [Value.oneCell']; done) | exact i64s_one _ | exact AggOk.mk (by kernel_rfl) (by kernel_rfl)) ?_
        refine At.run 100 true [true] [] rfl (by (repeat' apply And.intro) <;> first | (simp [e0, e1]; done) | exact True.intro | omega | rfl | (simp only [inK]; omega) | exact decide_eq_true (by omega) | exact decide_eq_false (by omega) | (simp; done) | (simp; omega) | (simp [Value.oneCell']; done) | exact i64s_one _ | exact AggOk.mk (by kernel_rfl) (by kernel_rfl)) ?_
        have hne : L.map chP ≠ M.map chP := by
          intro e
          have e' := congrArg (fun l => l[i]?) e
          simp only [List.getElem?_map, hx, hy, Option.map_some, Option.some.injEq, chP, Prod.mk.injEq] at e'
          exact e1 (by rw [e'.1])
        rw [decide_eq_false hne]
        exact At.retK [] [] [] rfl rfl Tryd.func16 rfl trivial ⟨rfl, rfl, rfl⟩
      have e1 := Decidable.not_not.1 e1
      by_cases e2 : ¬ (x.k.2.2 = y.k.2.2)
      · refine At.quiet true [false, false, true, true] [hR [.int .i64 x.k.1], hR [.int .i64 y.k.1], hR [.int .i64 x.k.2.1], hR [.int .i64 y.k.2.1], hR [.int .i64 x.k.2.2], hR [.int .i64 y.k.2.2]] ⟨by kernel_rfl, by kernel_rfl, rfl, rfl, rfl⟩ rfl rfl rfl (by (repeat' apply And.intro) <;> first | exact rX 0 _ rfl | exact rY 0 _ rfl | exact rX 1 _ rfl | exact rY 1 _ rfl | exact rX 2 _ rfl | exact rY 2 _ rfl | exact rX 3 _ rfl | exact rY 3 _ rfl | exact rX 4 _ rfl | exact rY 4 _ rfl | exact hS1 | exact hS2 | (simp [e0, e1, e2]; done) | exact True.intro | omega | rfl | (simp only [inK]; omega) | exact decide_eq_true (by omega) | exact decide_eq_false (by omega) | (simp; done) | (simp; omega) | (simp [Value.oneCell']; done) | exact i64s_one _ | exact AggOk.mk (by kernel_rfl) (by kernel_rfl)) ?_
        refine At.run 100 true [true] [] rfl (by (repeat' apply And.intro) <;> first | (simp [e0, e1, e2]; done) | exact True.intro | omega | rfl | (simp only [inK]; omega) | exact decide_eq_true (by omega) | exact decide_eq_false (by omega) | (simp; done) | (simp; omega) | (simp [Value.oneCell']; done) | exact i64s_one _ | exact AggOk.mk (by kernel_rfl) (by kernel_rfl)) ?_
        have hne : L.map chP ≠ M.map chP := by
          intro e
          have e' := congrArg (fun l => l[i]?) e
          simp only [List.getElem?_map, hx, hy, Option.map_some, Option.some.injEq, chP, Prod.mk.injEq] at e'
          exact e2 (by rw [e'.1])
        rw [decide_eq_false hne]
        exact At.retK [] [] [] rfl rfl Tryd.func16 rfl trivial ⟨rfl, rfl, rfl⟩
      have e2 := Decidable.not_not.1 e2
      by_cases e3 : ¬ (x.was = y.was)
      · refine At.quiet true [false, false, false, true] [hR [.int .i64 x.k.1], hR [.int .i64 y.k.1], hR [.int .i64 x.k.2.1], hR [.int .i64 y.k.2.1], hR [.int .i64 x.k.2.2], hR [.int .i64 y.k.2.2], hR [.slice x.wa x.was.length x.wc], hR [.slice y.wa y.was.length y.wc], hC (.bool (decide (x.was = y.was)))] ⟨by kernel_rfl, by kernel_rfl, rfl, rfl, rfl⟩ rfl rfl rfl (by (repeat' apply And.intro) <;> first | exact rX 0 _ rfl | exact rY 0 _ rfl | exact rX 1 _ rfl | exact rY 1 _ rfl | exact rX 2 _ rfl | exact rY 2 _ rfl | exact rX 3 _ rfl | exact rY 3 _ rfl | exact rX 4 _ rfl | exact rY 4 _ rfl | exact hS1 | exact hS2 | (simp [e0, e1, e2, e3]; done) | exact True.intro | omega | rfl | (simp only [inK]; omega) | exact decide_eq_true (by omega) | exact decide_eq_false (by omega) | (simp; done) | (simp; omega) | (simp [Value.oneCell']; done) | exact i64s_one _ | exact AggOk.mk (by kernel_rfl) (by kernel_rfl)) ?_
        refine At.run 100 true [true] [] rfl (by (repeat' apply And.intro) <;> first | (simp [e0, e1, e2, e3]; done) | exact True.intro | omega | rfl | (simp only [inK]; omega) | exact decide_eq_true (by omega) | exact decide_eq_false (by omega) | (simp; done) | (simp; omega) | (simp [Value.oneCell']; done) | exact i64s_one _ | exact AggOk.mk (by kernel_rfl) (by kernel_rfl)) ?_
        have hne : L.map chP ≠ M.map chP := by
          intro e
          have e' := congrArg (fun l => l[i]?) e
          simp only [List.getElem?_map, hx, hy, Option.map_some, Option.some.injEq, chP, Prod.mk.injEq] at e'
          exact e3 e'.2.1
        rw [decide_eq_false hne]
        exact At.retK [] [] [] rfl rfl Tryd.func16 rfl trivial ⟨rfl, rfl, rfl⟩
      have e3 := Decidable.not_not.1 e3
      by_cases e4 : ¬ (x.is = y.is)
      · refine At.quiet true [false, false, false, false] [hR [.int .i64 x.k.1], hR [.int .i64 y.k.1], hR [.int .i64 x.k.2.1], hR [.int .i64 y.k.2.1], hR [.int .i64 x.k.2.2], hR [.int .i64 y.k.2.2], hR [.slice x.wa x.was.length x.wc], hR [.slice y.wa y.was.length y.wc], hC (.bool (decide (x.was = y.was))), hR [.slice x.ia x.is.length x.ic], hR [.slice y.ia y.is.length y.ic], hC (.bool (decide (x.is = y.is)))] ⟨by kernel_rfl, by kernel_rfl, rfl, rfl, rfl⟩ rfl rfl rfl (by (repeat' apply And.intro) <;> first | exact rX 0 _ rfl | exact rY 0 _ rfl | exact rX 1 _ rfl | exact rY 1 _ rfl | exact rX 2 _ rfl | exact rY 2 _ rfl | exact rX 3 _ rfl | exact rY 3 _ rfl | exact rX 4 _ rfl | exact rY 4 _ rfl | exact hS1 | exact hS2 | (simp [e0, e1, e2, e3, e4]; done) | exact True.intro | omega | rfl | (simp only [inK]; omega) | exact decide_eq_true (by omega) | exact decide_eq_false (by omega) | (simp; done) | (simp; omega) | (simp [Value.oneCell']; done) | exact i64s_one _ | exact AggOk.mk (by kernel_rfl) (by kernel_rfl)) ?_
        refine At.run 100 true [true] [] rfl (by (repeat' apply And.intro) <;> first | (simp [e0, e1, e2, e3, e4]; done) | exact True.intro | omega | rfl | (simp only [inK]; omega) | exact decide_eq_true (by omega) | exact decide_eq_false (by omega) | (simp; done) | (simp; omega) | (simp [Value.oneCell']; done) | exact i64s_one _ | exact AggOk.mk (by kernel_rfl) (by kernel_rfl)) ?_
        have hne : L.map chP ≠ M.map chP := by
          intro e
          have e' := congrArg (fun l => l[i]?) e
          simp only [List.getElem?_map, hx, hy, Option.map_some, Option.some.injEq, chP, Prod.mk.injEq] at e'
          exact e4 e'.2.2
        rw [decide_eq_false hne]
        exact At.retK [] [] [] rfl rfl Tryd.func16 rfl trivial ⟨rfl, rfl, rfl⟩
      have e4 := Decidable.not_not.1 e4
      refine At.quiet true [false, false, false, false] [hR [.int .i64 x.k.1], hR [.int .i64 y.k.1], hR [.int .i64 x.k.2.1], hR [.int .i64 y.k.2.1], hR [.int .i64 x.k.2.2], hR [.int .i64 y.k.2.2], hR [.slice x.wa x.was.length x.wc], hR [.slice y.wa y.was.length y.wc], hC (.bool (decide (x.was = y.was))), hR [.slice x.ia x.is.length x.ic], hR [.slice y.ia y.is.length y.ic], hC (.bool (decide (x.is = y.is)))] ⟨by kernel_rfl, by kernel_rfl, rfl, rfl, rfl⟩ rfl rfl rfl (by (repeat' apply And.intro) <;> first | exact rX 0 _ rfl | exact rY 0 _ rfl | exact rX 1 _ rfl | exact rY 1 _ rfl | exact rX 2 _ rfl | exact rY 2 _ rfl | exact rX 3 _ rfl | exact rY 3 _ rfl | exact rX 4 _ rfl | exact rY 4 _ rfl | exact hS1 | exact hS2 | (simp [e0, e1, e2, e3, e4]; done) | exact True.intro | omega | rfl | (simp only [inK]; omega) | exact decide_eq_true (by omega) | exact decide_eq_false (by omega) | (simp; done) | (simp; omega) | (simp [Value.oneCell']; done) | exact i64s_one _ | exact AggOk.mk (by kernel_rfl) (by kernel_rfl)) ?_
      refine At.run 100 true [false] [] rfl (by (repeat' apply And.intro) <;> first | (simp [e0, e1, e2, e3, e4]; done) | exact True.intro | omega | rfl | (simp only [inK]; omega) | exact decide_eq_true (by omega) | exact decide_eq_false (by omega) | (simp; done) | (simp; omega) | (simp [Value.oneCell']; done) | exact i64s_one _ | exact AggOk.mk (by kernel_rfl) (by kernel_rfl)) ?_
      have hxy : chP x = chP y := by rw [chP, chP, e3, e4, Prod.ext (x := x.k) (y := y.k) e0 (Prod.ext e1 e2)]
      exact At.weak (ih _ _ _ _ (by omega) ⟨i + 1, rfl, by omega, by rw [List.take_add_one, List.take_add_one, List.getElem?_map, List.getElem?_map, hx, hy, htk, Option.map_some, Option.map_some, hxy], rfl, rfl, rfl⟩) ⟨rfl, rfl, some_int_eq (by omega), trivial⟩
    · have he : L.map chP = M.map chP := by
        rw [List.take_of_length_le (by simp; omega), List.take_of_length_le (by simp; omega)] at htk; exact htk
      rw [decide_eq_true he]
      refine At.run 100 true [false] [] rfl (by (repeat' apply And.intro) <;> first | exact True.intro | omega | (simp only [inK]; omega) | (simp; done) | (simp; omega) | exact decide_eq_true (by omega) | exact decide_eq_false (by omega) | rfl | (simp [Value.oneCell']; done) | exact i64s_one _ | exact AggOk.mk (by kernel_rfl) (by kernel_rfl)) ?_
      exact At.retK [] [] [] rfl rfl Tryd.func16 rfl trivial ⟨rfl, rfl, rfl⟩
  · have hne : L.map chP ≠ M.map chP := fun e => hlen (by simpa using congrArg List.length e)
    rw [decide_eq_false hne]
    refine At.run 100 true [true] [] rfl (by (repeat' apply And.intro) <;> first | (simp; omega) | exact True.intro | omega | rfl | (simp only [inK]; omega) | exact decide_eq_true (by omega) | exact decide_eq_false (by omega) | (simp; done) | (simp; omega) | (simp [Value.oneCell']; done) | exact i64s_one _ | exact AggOk.mk (by kernel_rfl) (by kernel_rfl)) ?_
    exact At.retK [] [] [] rfl rfl Tryd.func16 rfl trivial ⟨rfl, rfl, rfl⟩
end Go.Proofs

/-
  Walks of layer 14's document: a book's rows.
-/
namespace Go.Proofs
open Go Go.Eng
set_option maxRecDepth 100000
set_option maxHeartbeats 4000000
attribute [local irreducible] Tri

theorem WOk.intoPack {S : Base} {e : Nat × TypeId × List Value} {bx boxes : Bx} {hp : List Seg} {w : World} (h : WOk S (e :: bx) (Seg.pack boxes [] :: hp) w) : WOk S bx (Seg.pack (boxes ++ [e]) [] :: hp) w := by
  refine WOk.packS (WOk.permB (WOk.unpackS h) ?_ (List.Perm.refl _))
  rw [List.cons_append, ← List.append_assoc]
  exact List.perm_append_comm (l₁ := [e]) (l₂ := bx ++ boxes)
def roC (x : YE) : List Value := [.int .i64 x.k.1, .int .i64 x.k.2.1, .int .i64 x.k.2.2, .slice (some ⟨x.b, 0, none⟩) x.v.length x.v.length]
theorem roC_one (e : YE) : ∀ v, v ∈ roC e → v.oneCell' = true := by intro v hv; simp only [roC, List.mem_cons, List.not_mem_nil, or_false] at hv; rcases hv with rfl | rfl | rfl | rfl <;> rfl

theorem Tryd.rRows_w (b : Bk) (A : BkA) (w : World) (hi : BkIn b) (ho : BkOk w b A) :
    Tri Tryd.prog 36 [.agg ⟨bkV b A⟩] w [] (fun v bx hp => ∃ (T : List YE) (g : Option Nat) (c : Nat), v = sv g T.length c ∧ bx = [] ∧ hp = [Seg.row g 104 4 (T).length c ((T).flatMap roC), Seg.pack ((T).flatMap Tryd.yeB) []] ∧ T.map YE.row = rowsB b) := by
  obtain ⟨a1, a2, a3, a4, c1, c2, c3, c4⟩ := A
  refine Tri.enter (bx := []) (hp := []) Tryd.func36 rfl (by kernel_rfl) rfl (Own.nil w) ?_
  have ha1 : SlOk w a1 (b.H.flatMap i64s) := ho.h1
  have ha2 : SlOk w a2 (b.S.flatMap i64s) := ho.h2
  have ha3 : SlOk w a3 (b.O.flatMap i64s) := ho.h3
  have ha4 : SlOk w a4 (b.R.flatMap i64s) := ho.h4
  have l1 := hi.l1
  have l2 := hi.l2
  have l3 := hi.l3
  have l4 := hi.l4
  refine At.run 100 true [] [] rfl trivial ?_
  refine At.step [] rfl rfl rfl rfl rfl trivial (OpOk.box rfl rfl rfl fun bq hbq => ?_)
  refine At.run 100 true [] [] rfl (by (repeat' apply And.intro) <;> first | exact True.intro | omega | (simp only [inK]; omega) | (simp; done) | (simp; omega) | exact decide_eq_true (by omega) | exact decide_eq_false (by omega) | rfl | (simp [Value.oneCell']; done) | exact i64s_one _ | exact AggOk.mk (by kernel_rfl) (by kernel_rfl)) ?_
  refine At.reshape (fun w' hw' => WOk.freeze0 hw') ?_
  refine At.nilRow 104 4 ?_
  refine At.loop (n := b.H.length) (env0 := [(1, .pointer (some ⟨bq, 0, none⟩)), (3, sv none ([] : List YE).length 0), (4, .int .i64 0)]) (fun m env bx hp => ∃ (i : Nat) (T : List YE) (g : Option Nat) (c : Nat), m = b.H.length - i ∧ i ≤ b.H.length ∧ T.map YE.row = ([] : List RowB) ++ (b.H.take i).map (r1 1) ∧
    env = [(1, .pointer (some ⟨bq, 0, none⟩)), (3, sv g (T).length c), (4, .int .i64 i)] ∧ bx = [(bq, 27, bkV b ⟨a1, a2, a3, a4, c1, c2, c3, c4⟩)] ∧ hp = [Seg.row g 104 4 (T).length c ((T).flatMap roC), Seg.pack ((T).flatMap Tryd.yeB) []]) rfl ⟨0, [], none, 0, by simp, by omega, by simp, rfl, rfl, rfl⟩ ⟨rfl, rfl, rfl, trivial⟩ ?_
  rintro m env bx hp ⟨i, T, g, c, rfl, hi2, hpre, rfl, rfl, rfl⟩ ih
  have hTl := congrArg List.length hpre
  simp only [List.length_append, List.length_map, List.length_take, List.length_nil] at hTl
  by_cases hlt : i < b.H.length
  · obtain ⟨x, hx⟩ : ∃ x, b.H[i]? = some x := ⟨_, List.getElem?_eq_getElem hlt⟩
    obtain ⟨hxl, hxi⟩ := hi.r1 x (List.mem_of_getElem? hx)
    have hne := slNe (sz := 4) (by omega) (fun x hx => (hi.r1 x hx).1) hx
    obtain ⟨gg, o, rfl, hc⟩ := ha1.get hne
    have hmg : gg ∉ (⟨w, kys [] []⟩ : Base).mods := by simp [kys]
    obtain ⟨x0, x1, x2, x3, rfl⟩ := len4 hxl
    have rE : ∀ {bx : Bx} {hp : List Seg}, RdW ⟨w, kys [] []⟩ bx hp gg (o + (i : Int).toNat * 4) (i64s [x0, x1, x2, x3]) := fun {_ _} => RdW.sl hc hmg (i * 4) (by omega) (fun j u hu => flat_rec (fun x hx => (hi.r1 x hx).1) hx j u hu)
    refine At.run 100 true [true] [hB 0, hB 0, hR (i64s [x0, x1, x2, x3])] rfl (by (repeat' apply And.intro) <;> first | exact rE | exact True.intro | omega | rfl | (simp only [inK]; omega) | exact decide_eq_true (by omega) | exact decide_eq_false (by omega) | (simp; done) | (simp; omega) | (simp [Value.oneCell']; done) | exact i64s_one _ | exact AggOk.mk (by kernel_rfl) (by kernel_rfl)) ?_
    refine At.step [] rfl rfl rfl rfl rfl trivial (OpOk.alloc (cs := [.int .i64 0, .int .i64 0, .int .i64 0, .int .i64 0]) rfl (by kernel_rfl) fun b5 hb5 => ?_)
    refine At.run 100 true [] [hB 0, hB 0, hB 0, hB 0, hB 0] rfl (by (repeat' apply And.intro) <;> first | exact i64s_one _ | exact True.intro | omega | rfl | (simp only [inK]; omega) | exact decide_eq_true (by omega) | exact decide_eq_false (by omega) | (simp; done) | (simp; omega) | (simp [Value.oneCell']; done) | exact i64s_one _ | exact AggOk.mk (by kernel_rfl) (by kernel_rfl)) ?_
    refine At.step [] rfl rfl rfl rfl rfl trivial (OpOk.buildSlice rfl rfl rfl rfl rfl rfl rfl (fun bs hbs => ?_))
    refine At.run 100 true [] [] rfl (by (repeat' apply And.intro) <;> first | exact True.intro | omega | (simp only [inK]; omega) | (simp; done) | (simp; omega) | exact decide_eq_true (by omega) | exact decide_eq_false (by omega) | rfl | (simp [Value.oneCell']; done) | exact i64s_one _ | exact AggOk.mk (by kernel_rfl) (by kernel_rfl)) ?_
    refine At.append1 0 4 48 rfl rfl rfl rfl rfl rfl rfl rfl rfl trivial (fun _ => rfl) trivial rfl rfl rfl rfl rfl rfl rfl rfl (fun _ => rfl) (roC_one (⟨(1, x0, 0), [x1, x2, x3], bs⟩ : YE)) (by omega) (by omega) (fun bz g2 cc2 => ?_)
    refine At.run 100 true [] [] rfl (by (repeat' apply And.intro) <;> first | exact True.intro | omega | (simp only [inK]; omega) | (simp; done) | (simp; omega) | exact decide_eq_true (by omega) | exact decide_eq_false (by omega) | rfl | (simp [Value.oneCell']; done) | exact i64s_one _ | exact AggOk.mk (by kernel_rfl) (by kernel_rfl)) ?_
    have hnext : (T ++ [(⟨(1, x0, 0), [x1, x2, x3], bs⟩ : YE)]).map YE.row = ([] : List RowB) ++ (b.H.take (i + 1)).map (r1 1) := by
      rw [List.map_append, hpre, List.take_add_one, hx, List.map_append, List.append_assoc]; rfl
    refine At.order (br := [(b5, 52, i64s [x0, x1, x2, x3]), (bs, 2, i64s [x1, x2, x3]), (bq, 27, bkV b ⟨some ⟨gg, o, none⟩, a2, a3, a4, c1, c2, c3, c4⟩)]) (hr := [Seg.pack (T.flatMap Tryd.yeB) [], Seg.row g2 104 4 (T.length + 1) cc2 (T.flatMap roC ++ roC (⟨(1, x0, 0), [x1, x2, x3], bs⟩ : YE))]) [1] [1] rfl rfl ?_
    refine At.keep [false, true, true] [true, true] rfl ?_
    refine At.reshape (fun w' hw' => WOk.intoPack hw') ?_
    refine At.order (br := [(bq, 27, bkV b ⟨some ⟨gg, o, none⟩, a2, a3, a4, c1, c2, c3, c4⟩)]) (hr := [Seg.row g2 104 4 (T.length + 1) cc2 (T.flatMap roC ++ roC (⟨(1, x0, 0), [x1, x2, x3], bs⟩ : YE)), Seg.pack (T.flatMap Tryd.yeB ++ [(bs, 2, i64s [x1, x2, x3])]) []]) [] [1] rfl rfl ?_
    have ih := ih _ _ _ _ (by omega) ⟨i + 1, T ++ [(⟨(1, x0, 0), [x1, x2, x3], bs⟩ : YE)], g2, cc2, rfl, by omega, hnext, rfl, rfl, rfl⟩
    simp only [List.length_append, List.length_singleton, List.flatMap_append, List.flatMap_singleton, Tryd.yeB] at ih
    exact At.weak ih ⟨rfl, rfl, some_int_eq (by omega), trivial⟩
  have hie : b.H.take i = b.H := List.take_of_length_le (by omega)
  rw [hie] at hpre
  clear ih
  refine At.run 100 true [false] [hB 0] rfl (by (repeat' apply And.intro) <;> first | exact True.intro | omega | (simp only [inK]; omega) | (simp; done) | (simp; omega) | exact decide_eq_true (by omega) | exact decide_eq_false (by omega) | rfl | (simp [Value.oneCell']; done) | exact i64s_one _ | exact AggOk.mk (by kernel_rfl) (by kernel_rfl)) ?_
  refine At.loop (n := b.S.length) (env0 := [(1, .pointer (some ⟨bq, 0, none⟩)), (3, sv g (T).length c), (6, .int .i64 0)]) (fun m env bx hp => ∃ (i : Nat) (T : List YE) (g : Option Nat) (c : Nat), m = b.S.length - i ∧ i ≤ b.S.length ∧ T.map YE.row = (b.H.map (r1 1)) ++ (b.S.take i).map (r2) ∧
    env = [(1, .pointer (some ⟨bq, 0, none⟩)), (3, sv g (T).length c), (6, .int .i64 i)] ∧ bx = [(bq, 27, bkV b ⟨a1, a2, a3, a4, c1, c2, c3, c4⟩)] ∧ hp = [Seg.row g 104 4 (T).length c ((T).flatMap roC), Seg.pack ((T).flatMap Tryd.yeB) []]) rfl ⟨0, T, g, c, by simp, by omega, by rw [hpre]; simp, rfl, rfl, rfl⟩ ⟨rfl, rfl, rfl, trivial⟩ ?_
  clear hTl hpre
  clear T g c
  rintro m env bx hp ⟨i, T, g, c, rfl, hi2, hpre, rfl, rfl, rfl⟩ ih
  have hTl := congrArg List.length hpre
  simp only [List.length_append, List.length_map, List.length_take, List.length_nil] at hTl
  by_cases hlt : i < b.S.length
  · obtain ⟨x, hx⟩ : ∃ x, b.S[i]? = some x := ⟨_, List.getElem?_eq_getElem hlt⟩
    obtain ⟨hxl, hxi⟩ := hi.r2 x (List.mem_of_getElem? hx)
    have hne := slNe (sz := 3) (by omega) (fun x hx => (hi.r2 x hx).1) hx
    obtain ⟨gg, o, rfl, hc⟩ := ha2.get hne
    have hmg : gg ∉ (⟨w, kys [] []⟩ : Base).mods := by simp [kys]
    obtain ⟨x0, x1, x2, rfl⟩ := len3 hxl
    have rE : ∀ {bx : Bx} {hp : List Seg}, RdW ⟨w, kys [] []⟩ bx hp gg (o + (i : Int).toNat * 3) (i64s [x0, x1, x2]) := fun {_ _} => RdW.sl hc hmg (i * 3) (by omega) (fun j u hu => flat_rec (fun x hx => (hi.r2 x hx).1) hx j u hu)
    refine At.run 100 true [true] [hB 0, hB 0, hR (i64s [x0, x1, x2])] rfl (by (repeat' apply And.intro) <;> first | exact rE | exact True.intro | omega | rfl | (simp only [inK]; omega) | exact decide_eq_true (by omega) | exact decide_eq_false (by omega) | (simp; done) | (simp; omega) | (simp [Value.oneCell']; done) | exact i64s_one _ | exact AggOk.mk (by kernel_rfl) (by kernel_rfl)) ?_
    refine At.step [] rfl rfl rfl rfl rfl trivial (OpOk.alloc (cs := [.int .i64 0, .int .i64 0, .int .i64 0]) rfl (by kernel_rfl) fun b5 hb5 => ?_)
    refine At.run 100 true [] [hB 0, hB 0, hB 0, hB 0] rfl (by (repeat' apply And.intro) <;> first | exact i64s_one _ | exact True.intro | omega | rfl | (simp only [inK]; omega) | exact decide_eq_true (by omega) | exact decide_eq_false (by omega) | (simp; done) | (simp; omega) | (simp [Value.oneCell']; done) | exact i64s_one _ | exact AggOk.mk (by kernel_rfl) (by kernel_rfl)) ?_
    refine At.step [] rfl rfl rfl rfl rfl trivial (OpOk.buildSlice rfl rfl rfl rfl rfl rfl rfl (fun bs hbs => ?_))
    refine At.run 100 true [] [] rfl (by (repeat' apply And.intro) <;> first | exact True.intro | omega | (simp only [inK]; omega) | (simp; done) | (simp; omega) | exact decide_eq_true (by omega) | exact decide_eq_false (by omega) | rfl | (simp [Value.oneCell']; done) | exact i64s_one _ | exact AggOk.mk (by kernel_rfl) (by kernel_rfl)) ?_
    refine At.append1 0 4 48 rfl rfl rfl rfl rfl rfl rfl rfl rfl trivial (fun _ => rfl) trivial rfl rfl rfl rfl rfl rfl rfl rfl (fun _ => rfl) (roC_one (⟨(2, x0, x1), [x2], bs⟩ : YE)) (by omega) (by omega) (fun bz g2 cc2 => ?_)
    refine At.run 100 true [] [] rfl (by (repeat' apply And.intro) <;> first | exact True.intro | omega | (simp only [inK]; omega) | (simp; done) | (simp; omega) | exact decide_eq_true (by omega) | exact decide_eq_false (by omega) | rfl | (simp [Value.oneCell']; done) | exact i64s_one _ | exact AggOk.mk (by kernel_rfl) (by kernel_rfl)) ?_
    have hnext : (T ++ [(⟨(2, x0, x1), [x2], bs⟩ : YE)]).map YE.row = (b.H.map (r1 1)) ++ (b.S.take (i + 1)).map (r2) := by
      rw [List.map_append, hpre, List.take_add_one, hx, List.map_append, List.append_assoc]; rfl
    refine At.order (br := [(b5, 54, i64s [x0, x1, x2]), (bs, 2, i64s [x2]), (bq, 27, bkV b ⟨a1, some ⟨gg, o, none⟩, a3, a4, c1, c2, c3, c4⟩)]) (hr := [Seg.pack (T.flatMap Tryd.yeB) [], Seg.row g2 104 4 (T.length + 1) cc2 (T.flatMap roC ++ roC (⟨(2, x0, x1), [x2], bs⟩ : YE))]) [1] [1] rfl rfl ?_
    refine At.keep [false, true, true] [true, true] rfl ?_
    refine At.reshape (fun w' hw' => WOk.intoPack hw') ?_
    refine At.order (br := [(bq, 27, bkV b ⟨a1, some ⟨gg, o, none⟩, a3, a4, c1, c2, c3, c4⟩)]) (hr := [Seg.row g2 104 4 (T.length + 1) cc2 (T.flatMap roC ++ roC (⟨(2, x0, x1), [x2], bs⟩ : YE)), Seg.pack (T.flatMap Tryd.yeB ++ [(bs, 2, i64s [x2])]) []]) [] [1] rfl rfl ?_
    have ih := ih _ _ _ _ (by omega) ⟨i + 1, T ++ [(⟨(2, x0, x1), [x2], bs⟩ : YE)], g2, cc2, rfl, by omega, hnext, rfl, rfl, rfl⟩
    simp only [List.length_append, List.length_singleton, List.flatMap_append, List.flatMap_singleton, Tryd.yeB] at ih
    exact At.weak ih ⟨rfl, rfl, some_int_eq (by omega), trivial⟩
  have hie : b.S.take i = b.S := List.take_of_length_le (by omega)
  rw [hie] at hpre
  clear ih
  refine At.run 100 true [false] [hB 0] rfl (by (repeat' apply And.intro) <;> first | exact True.intro | omega | (simp only [inK]; omega) | (simp; done) | (simp; omega) | exact decide_eq_true (by omega) | exact decide_eq_false (by omega) | rfl | (simp [Value.oneCell']; done) | exact i64s_one _ | exact AggOk.mk (by kernel_rfl) (by kernel_rfl)) ?_
  refine At.loop (n := b.O.length) (env0 := [(1, .pointer (some ⟨bq, 0, none⟩)), (3, sv g (T).length c), (8, .int .i64 0)]) (fun m env bx hp => ∃ (i : Nat) (T : List YE) (g : Option Nat) (c : Nat), m = b.O.length - i ∧ i ≤ b.O.length ∧ T.map YE.row = (b.H.map (r1 1) ++ b.S.map r2) ++ (b.O.take i).map (r1 3) ∧
    env = [(1, .pointer (some ⟨bq, 0, none⟩)), (3, sv g (T).length c), (8, .int .i64 i)] ∧ bx = [(bq, 27, bkV b ⟨a1, a2, a3, a4, c1, c2, c3, c4⟩)] ∧ hp = [Seg.row g 104 4 (T).length c ((T).flatMap roC), Seg.pack ((T).flatMap Tryd.yeB) []]) rfl ⟨0, T, g, c, by simp, by omega, by rw [hpre]; simp, rfl, rfl, rfl⟩ ⟨rfl, rfl, rfl, trivial⟩ ?_
  clear hTl hpre
  clear T g c
  rintro m env bx hp ⟨i, T, g, c, rfl, hi2, hpre, rfl, rfl, rfl⟩ ih
  have hTl := congrArg List.length hpre
  simp only [List.length_append, List.length_map, List.length_take, List.length_nil] at hTl
  by_cases hlt : i < b.O.length
  · obtain ⟨x, hx⟩ : ∃ x, b.O[i]? = some x := ⟨_, List.getElem?_eq_getElem hlt⟩
    obtain ⟨hxl, hxi⟩ := hi.r3 x (List.mem_of_getElem? hx)
    have hne := slNe (sz := 6) (by omega) (fun x hx => (hi.r3 x hx).1) hx
    obtain ⟨gg, o, rfl, hc⟩ := ha3.get hne
    have hmg : gg ∉ (⟨w, kys [] []⟩ : Base).mods := by simp [kys]
    obtain ⟨x0, x1, x2, x3, x4, x5, rfl⟩ := len6 hxl
    have rE : ∀ {bx : Bx} {hp : List Seg}, RdW ⟨w, kys [] []⟩ bx hp gg (o + (i : Int).toNat * 6) (i64s [x0, x1, x2, x3, x4, x5]) := fun {_ _} => RdW.sl hc hmg (i * 6) (by omega) (fun j u hu => flat_rec (fun x hx => (hi.r3 x hx).1) hx j u hu)
    refine At.run 100 true [true] [hB 0, hB 0, hR (i64s [x0, x1, x2, x3, x4, x5])] rfl (by (repeat' apply And.intro) <;> first | exact rE | exact True.intro | omega | rfl | (simp only [inK]; omega) | exact decide_eq_true (by omega) | exact decide_eq_false (by omega) | (simp; done) | (simp; omega) | (simp [Value.oneCell']; done) | exact i64s_one _ | exact AggOk.mk (by kernel_rfl) (by kernel_rfl)) ?_
    refine At.step [] rfl rfl rfl rfl rfl trivial (OpOk.alloc (cs := [.int .i64 0, .int .i64 0, .int .i64 0, .int .i64 0, .int .i64 0, .int .i64 0]) rfl (by kernel_rfl) fun b5 hb5 => ?_)
    refine At.run 100 true [] [hB 0, hB 0, hB 0, hB 0, hB 0, hB 0, hB 0] rfl (by (repeat' apply And.intro) <;> first | exact i64s_one _ | exact True.intro | omega | rfl | (simp only [inK]; omega) | exact decide_eq_true (by omega) | exact decide_eq_false (by omega) | (simp; done) | (simp; omega) | (simp [Value.oneCell']; done) | exact i64s_one _ | exact AggOk.mk (by kernel_rfl) (by kernel_rfl)) ?_
    refine At.step [] rfl rfl rfl rfl rfl trivial (OpOk.buildSlice rfl rfl rfl rfl rfl rfl rfl (fun bs hbs => ?_))
    refine At.run 100 true [] [] rfl (by (repeat' apply And.intro) <;> first | exact True.intro | omega | (simp only [inK]; omega) | (simp; done) | (simp; omega) | exact decide_eq_true (by omega) | exact decide_eq_false (by omega) | rfl | (simp [Value.oneCell']; done) | exact i64s_one _ | exact AggOk.mk (by kernel_rfl) (by kernel_rfl)) ?_
    refine At.append1 0 4 48 rfl rfl rfl rfl rfl rfl rfl rfl rfl trivial (fun _ => rfl) trivial rfl rfl rfl rfl rfl rfl rfl rfl (fun _ => rfl) (roC_one (⟨(3, x0, 0), [x1, x2, x3, x4, x5], bs⟩ : YE)) (by omega) (by omega) (fun bz g2 cc2 => ?_)
    refine At.run 100 true [] [] rfl (by (repeat' apply And.intro) <;> first | exact True.intro | omega | (simp only [inK]; omega) | (simp; done) | (simp; omega) | exact decide_eq_true (by omega) | exact decide_eq_false (by omega) | rfl | (simp [Value.oneCell']; done) | exact i64s_one _ | exact AggOk.mk (by kernel_rfl) (by kernel_rfl)) ?_
    have hnext : (T ++ [(⟨(3, x0, 0), [x1, x2, x3, x4, x5], bs⟩ : YE)]).map YE.row = (b.H.map (r1 1) ++ b.S.map r2) ++ (b.O.take (i + 1)).map (r1 3) := by
      rw [List.map_append, hpre, List.take_add_one, hx, List.map_append, List.append_assoc]; rfl
    refine At.order (br := [(b5, 57, i64s [x0, x1, x2, x3, x4, x5]), (bs, 2, i64s [x1, x2, x3, x4, x5]), (bq, 27, bkV b ⟨a1, a2, some ⟨gg, o, none⟩, a4, c1, c2, c3, c4⟩)]) (hr := [Seg.pack (T.flatMap Tryd.yeB) [], Seg.row g2 104 4 (T.length + 1) cc2 (T.flatMap roC ++ roC (⟨(3, x0, 0), [x1, x2, x3, x4, x5], bs⟩ : YE))]) [1] [1] rfl rfl ?_
    refine At.keep [false, true, true] [true, true] rfl ?_
    refine At.reshape (fun w' hw' => WOk.intoPack hw') ?_
    refine At.order (br := [(bq, 27, bkV b ⟨a1, a2, some ⟨gg, o, none⟩, a4, c1, c2, c3, c4⟩)]) (hr := [Seg.row g2 104 4 (T.length + 1) cc2 (T.flatMap roC ++ roC (⟨(3, x0, 0), [x1, x2, x3, x4, x5], bs⟩ : YE)), Seg.pack (T.flatMap Tryd.yeB ++ [(bs, 2, i64s [x1, x2, x3, x4, x5])]) []]) [] [1] rfl rfl ?_
    have ih := ih _ _ _ _ (by omega) ⟨i + 1, T ++ [(⟨(3, x0, 0), [x1, x2, x3, x4, x5], bs⟩ : YE)], g2, cc2, rfl, by omega, hnext, rfl, rfl, rfl⟩
    simp only [List.length_append, List.length_singleton, List.flatMap_append, List.flatMap_singleton, Tryd.yeB] at ih
    exact At.weak ih ⟨rfl, rfl, some_int_eq (by omega), trivial⟩
  have hie : b.O.take i = b.O := List.take_of_length_le (by omega)
  rw [hie] at hpre
  clear ih
  refine At.run 100 true [false] [hB 0] rfl (by (repeat' apply And.intro) <;> first | exact True.intro | omega | (simp only [inK]; omega) | (simp; done) | (simp; omega) | exact decide_eq_true (by omega) | exact decide_eq_false (by omega) | rfl | (simp [Value.oneCell']; done) | exact i64s_one _ | exact AggOk.mk (by kernel_rfl) (by kernel_rfl)) ?_
  refine At.loop (n := b.R.length) (env0 := [(1, .pointer (some ⟨bq, 0, none⟩)), (3, sv g (T).length c), (10, .int .i64 0)]) (fun m env bx hp => ∃ (i : Nat) (T : List YE) (g : Option Nat) (c : Nat), m = b.R.length - i ∧ i ≤ b.R.length ∧ T.map YE.row = (b.H.map (r1 1) ++ b.S.map r2 ++ b.O.map (r1 3)) ++ (b.R.take i).map (r1 4) ∧
    env = [(1, .pointer (some ⟨bq, 0, none⟩)), (3, sv g (T).length c), (10, .int .i64 i)] ∧ bx = [(bq, 27, bkV b ⟨a1, a2, a3, a4, c1, c2, c3, c4⟩)] ∧ hp = [Seg.row g 104 4 (T).length c ((T).flatMap roC), Seg.pack ((T).flatMap Tryd.yeB) []]) rfl ⟨0, T, g, c, by simp, by omega, by rw [hpre]; simp, rfl, rfl, rfl⟩ ⟨rfl, rfl, rfl, trivial⟩ ?_
  clear hTl hpre
  clear T g c
  rintro m env bx hp ⟨i, T, g, c, rfl, hi2, hpre, rfl, rfl, rfl⟩ ih
  have hTl := congrArg List.length hpre
  simp only [List.length_append, List.length_map, List.length_take, List.length_nil] at hTl
  by_cases hlt : i < b.R.length
  · obtain ⟨x, hx⟩ : ∃ x, b.R[i]? = some x := ⟨_, List.getElem?_eq_getElem hlt⟩
    obtain ⟨hxl, hxi⟩ := hi.r4 x (List.mem_of_getElem? hx)
    have hne := slNe (sz := 2) (by omega) (fun x hx => (hi.r4 x hx).1) hx
    obtain ⟨gg, o, rfl, hc⟩ := ha4.get hne
    have hmg : gg ∉ (⟨w, kys [] []⟩ : Base).mods := by simp [kys]
    obtain ⟨x0, x1, rfl⟩ := len2 hxl
    have r0 : ∀ {bx : Bx} {hp : List Seg}, RdW ⟨w, kys [] []⟩ bx hp gg (o + (i : Int).toNat * 2 + 0) [.int .i64 x0] := fun {_ _} => RdW.sl hc hmg (i * 2 + 0) (by omega) (fun j u hu => by
      match j, hu with
      | 0, hu => simp only [List.getElem?_cons_zero, Option.some.injEq] at hu; subst hu; exact flat_rec (fun x hx => (hi.r4 x hx).1) hx 0 _ rfl)
    have r1' : ∀ {bx : Bx} {hp : List Seg}, RdW ⟨w, kys [] []⟩ bx hp gg (o + (i : Int).toNat * 2 + 1) [.int .i64 x1] := fun {_ _} => RdW.sl hc hmg (i * 2 + 1) (by omega) (fun j u hu => by
      match j, hu with
      | 0, hu => simp only [List.getElem?_cons_zero, Option.some.injEq] at hu; subst hu; exact flat_rec (fun x hx => (hi.r4 x hx).1) hx 1 _ rfl)
    refine At.run 100 true [true] [hB 0] rfl (by (repeat' apply And.intro) <;> first | exact True.intro | omega | (simp only [inK]; omega) | (simp; done) | (simp; omega) | exact decide_eq_true (by omega) | exact decide_eq_false (by omega) | rfl | (simp [Value.oneCell']; done) | exact i64s_one _ | exact AggOk.mk (by kernel_rfl) (by kernel_rfl)) ?_
    refine At.draw 18 rfl rfl rfl rfl ?_
    refine AtD.cutS (ι := Nat) 4 #[true, true, true, true, true, true, true, true, true, true, true, true, true, true, false, false, false, false] (fun q => [(95, sv g T.length c), (96, .pointer (some ⟨bq, 3, none⟩)), (97, .slice (some ⟨gg, o, none⟩) b.R.length c4), (98, .int .i64 i), (99, .pointer (some ⟨gg, o + (i : Int).toNat * 2, none⟩)), (100, .pointer (some ⟨gg, o + (i : Int).toNat * 2, none⟩)), (101, .int .i64 x0), (102, .pointer (some ⟨bq, 3, none⟩)), (103, .slice (some ⟨gg, o, none⟩) b.R.length c4), (104, .int .i64 i), (105, .pointer (some ⟨gg, o + (i : Int).toNat * 2, none⟩)), (106, .pointer (some ⟨gg, o + (i : Int).toNat * 2 + 1, none⟩)), (107, .int .i64 x1), (108, .slice (some ⟨q, 0, none⟩) 1 1), (1, .pointer (some ⟨bq, 0, none⟩)), (10, .int .i64 i)]) (fun q => [(q, 2, i64s [x1]), (bq, 27, bkV b ⟨a1, a2, a3, some ⟨gg, o, none⟩, c1, c2, c3, c4⟩)]) (fun q => [Seg.row g 104 4 T.length c (T.flatMap roC), Seg.pack (T.flatMap Tryd.yeB) []]) ?_ (fun hd5 => ?_)
    · rintro bs
      refine AtD.pures (ob := True) true (by kernel_rfl) [14] (fuel := 3) (by kernel_rfl) rfl (by (repeat' apply And.intro) <;> first | exact True.intro | omega | (simp only [inK]; omega) | (simp; done) | (simp; omega) | exact decide_eq_true (by omega) | exact decide_eq_false (by omega) | rfl | (simp [Value.oneCell']; done) | exact i64s_one _ | exact AggOk.mk (by kernel_rfl) (by kernel_rfl)) ?_
      refine AtD.fork1 15 (by kernel_rfl) (StepD.by [] rfl rfl rfl rfl trivial (OpOk.buildSlice rfl rfl rfl rfl rfl rfl rfl (fun bz hbz => ?_)))
      refine AtD.fork1 16 (by kernel_rfl) (StepD.by [] rfl rfl rfl rfl trivial (OpOk.append 0 4 48 (roC (⟨(4, x0, 0), [x1], bs⟩ : YE)) rfl rfl rfl rfl rfl rfl rfl (RdW.blk0 (i := 0) rfl) rfl (roC_one _) (by omega) (by omega) fun g2 cc2 => ?_))
      refine AtD.pures (ob := True) true (by kernel_rfl) [17] (fuel := 0) (by kernel_rfl) rfl (by (repeat' apply And.intro) <;> first | exact True.intro | omega | (simp only [inK]; omega) | (simp; done) | (simp; omega) | exact decide_eq_true (by omega) | exact decide_eq_false (by omega) | rfl | (simp [Value.oneCell']; done) | exact i64s_one _ | exact AggOk.mk (by kernel_rfl) (by kernel_rfl)) ?_
      refine AtD.done (by kernel_rfl) ?_
      refine At.run 100 true [] [] rfl (by (repeat' apply And.intro) <;> first | exact True.intro | omega | (simp only [inK]; omega) | (simp; done) | (simp; omega) | exact decide_eq_true (by omega) | exact decide_eq_false (by omega) | rfl | (simp [Value.oneCell']; done) | exact i64s_one _ | exact AggOk.mk (by kernel_rfl) (by kernel_rfl)) ?_
      refine At.keep [false, true, true] [true, true] rfl ?_
      have hnext : (T ++ [(⟨(4, x0, 0), [x1], bs⟩ : YE)]).map YE.row = (b.H.map (r1 1) ++ b.S.map r2 ++ b.O.map (r1 3)) ++ (b.R.take (i + 1)).map (r1 4) := by
        rw [List.map_append, hpre, List.take_add_one, hx, List.map_append, List.append_assoc]; rfl
      refine At.order (br := [(bs, 2, i64s [x1]), (bq, 27, bkV b ⟨a1, a2, a3, some ⟨gg, o, none⟩, c1, c2, c3, c4⟩)]) (hr := [Seg.pack (T.flatMap Tryd.yeB) [], Seg.row g2 104 4 (T.length + 1) cc2 (T.flatMap roC ++ roC (⟨(4, x0, 0), [x1], bs⟩ : YE))]) [] [1] rfl rfl ?_
      refine At.keep [true, true] [true, true] rfl ?_
      refine At.reshape (fun w' hw' => WOk.intoPack hw') ?_
      refine At.order (br := [(bq, 27, bkV b ⟨a1, a2, a3, some ⟨gg, o, none⟩, c1, c2, c3, c4⟩)]) (hr := [Seg.row g2 104 4 (T.length + 1) cc2 (T.flatMap roC ++ roC (⟨(4, x0, 0), [x1], bs⟩ : YE)), Seg.pack (T.flatMap Tryd.yeB ++ [(bs, 2, i64s [x1])]) []]) [] [1] rfl rfl ?_
      have ih := ih _ _ _ _ (by omega) ⟨i + 1, T ++ [(⟨(4, x0, 0), [x1], bs⟩ : YE)], g2, cc2, rfl, by omega, hnext, rfl, rfl, rfl⟩
      simp only [List.length_append, List.length_singleton, List.flatMap_append, List.flatMap_singleton, Tryd.yeB] at ih
      exact At.weak ih ⟨rfl, rfl, some_int_eq (by omega), trivial⟩
    refine AtD.cutS (ι := Unit) 5 #[true, true, true, true, true, true, true, true, true, true, true, true, true, false, false, false, false, false] (fun _ => [(95, sv g T.length c), (96, .pointer (some ⟨bq, 3, none⟩)), (97, .slice (some ⟨gg, o, none⟩) b.R.length c4), (98, .int .i64 i), (99, .pointer (some ⟨gg, o + (i : Int).toNat * 2, none⟩)), (100, .pointer (some ⟨gg, o + (i : Int).toNat * 2, none⟩)), (101, .int .i64 x0), (102, .pointer (some ⟨bq, 3, none⟩)), (103, .slice (some ⟨gg, o, none⟩) b.R.length c4), (104, .int .i64 i), (105, .pointer (some ⟨gg, o + (i : Int).toNat * 2, none⟩)), (106, .pointer (some ⟨gg, o + (i : Int).toNat * 2 + 1, none⟩)), (107, .int .i64 x1), (1, .pointer (some ⟨bq, 0, none⟩)), (10, .int .i64 i)]) (fun _ => [(bq, 27, bkV b ⟨a1, a2, a3, some ⟨gg, o, none⟩, c1, c2, c3, c4⟩)]) (fun _ => [Seg.row g 104 4 T.length c (T.flatMap roC), Seg.pack (T.flatMap Tryd.yeB) []]) ?_ (fun hd4 => ?_)
    · rintro ⟨⟩
      refine AtD.fork1 13 (by kernel_rfl) ?_
      refine StepD.by [] rfl rfl rfl rfl trivial (OpOk.buildSlice rfl rfl rfl rfl rfl rfl rfl (fun bs hbs => ?_))
      exact AtD.weak (hd5 bs) ⟨rfl, rfl, rfl, rfl, rfl, rfl, rfl, rfl, rfl, rfl, rfl, rfl, rfl, rfl, rfl, rfl, trivial⟩
    refine AtD.cutS (ι := Unit) 6 #[true, true, true, true, true, true, true, true, true, true, true, true, false, false, false, false, false, false] (fun _ => [(95, sv g T.length c), (96, .pointer (some ⟨bq, 3, none⟩)), (97, .slice (some ⟨gg, o, none⟩) b.R.length c4), (98, .int .i64 i), (99, .pointer (some ⟨gg, o + (i : Int).toNat * 2, none⟩)), (100, .pointer (some ⟨gg, o + (i : Int).toNat * 2, none⟩)), (101, .int .i64 x0), (102, .pointer (some ⟨bq, 3, none⟩)), (103, .slice (some ⟨gg, o, none⟩) b.R.length c4), (104, .int .i64 i), (105, .pointer (some ⟨gg, o + (i : Int).toNat * 2, none⟩)), (106, .pointer (some ⟨gg, o + (i : Int).toNat * 2 + 1, none⟩)), (1, .pointer (some ⟨bq, 0, none⟩)), (10, .int .i64 i)]) (fun _ => [(bq, 27, bkV b ⟨a1, a2, a3, some ⟨gg, o, none⟩, c1, c2, c3, c4⟩)]) (fun _ => [Seg.row g 104 4 T.length c (T.flatMap roC), Seg.pack (T.flatMap Tryd.yeB) []]) ?_ (fun hd3 => ?_)
    · rintro ⟨⟩
      refine AtD.fork1 12 (by kernel_rfl) ?_
      refine StepD.by [] rfl rfl rfl rfl trivial (OpOk.one true [] [hR [.int .i64 x1]] rfl (by (repeat' apply And.intro) <;> first | exact r1' | exact True.intro | omega | rfl | (simp only [inK]; omega) | exact decide_eq_true (by omega) | exact decide_eq_false (by omega) | (simp; done) | (simp; omega) | (simp [Value.oneCell']; done) | exact i64s_one _ | exact AggOk.mk (by kernel_rfl) (by kernel_rfl)) ?_)
      exact AtD.weak (hd4 ()) ⟨rfl, rfl, rfl, rfl, rfl, rfl, rfl, rfl, rfl, rfl, rfl, rfl, rfl, rfl, rfl, trivial⟩
    refine AtD.cutS (ι := Unit) 9 #[true, true, true, true, true, true, true, true, false, true, false, false, false, false, false, false, false, false] (fun _ => [(95, sv g T.length c), (96, .pointer (some ⟨bq, 3, none⟩)), (97, .slice (some ⟨gg, o, none⟩) b.R.length c4), (98, .int .i64 i), (99, .pointer (some ⟨gg, o + (i : Int).toNat * 2, none⟩)), (100, .pointer (some ⟨gg, o + (i : Int).toNat * 2, none⟩)), (101, .int .i64 x0), (102, .pointer (some ⟨bq, 3, none⟩)), (104, .int .i64 i), (1, .pointer (some ⟨bq, 0, none⟩)), (10, .int .i64 i)]) (fun _ => [(bq, 27, bkV b ⟨a1, a2, a3, some ⟨gg, o, none⟩, c1, c2, c3, c4⟩)]) (fun _ => [Seg.row g 104 4 T.length c (T.flatMap roC), Seg.pack (T.flatMap Tryd.yeB) []]) ?_ (fun hd2 => ?_)
    · rintro ⟨⟩
      refine AtD.fork1 8 (by kernel_rfl) ?_
      refine StepD.by [] rfl rfl rfl rfl trivial (OpOk.one true [] [hB 0] rfl (by (repeat' apply And.intro) <;> first | exact True.intro | omega | (simp only [inK]; omega) | (simp; done) | (simp; omega) | exact decide_eq_true (by omega) | exact decide_eq_false (by omega) | rfl | (simp [Value.oneCell']; done) | exact i64s_one _ | exact AggOk.mk (by kernel_rfl) (by kernel_rfl)) ?_)
      refine AtD.pures (ob := True) true (by kernel_rfl) [10, 11] (fuel := 6) (by kernel_rfl) rfl (by (repeat' apply And.intro) <;> first | exact True.intro | omega | (simp only [inK]; omega) | (simp; done) | (simp; omega) | exact decide_eq_true (by omega) | exact decide_eq_false (by omega) | rfl | (simp [Value.oneCell']; done) | exact i64s_one _ | exact AggOk.mk (by kernel_rfl) (by kernel_rfl)) ?_
      exact AtD.weak (hd3 ()) ⟨rfl, rfl, rfl, rfl, rfl, rfl, rfl, rfl, rfl, rfl, rfl, rfl, rfl, rfl, trivial⟩
    refine AtD.cutS (ι := Nat) 5 #[true, true, true, true, true, true, false, true, true, true, true, true, true, true, false, false, false, false] (fun q => [(95, sv g T.length c), (96, .pointer (some ⟨bq, 3, none⟩)), (97, .slice (some ⟨gg, o, none⟩) b.R.length c4), (98, .int .i64 i), (99, .pointer (some ⟨gg, o + (i : Int).toNat * 2, none⟩)), (100, .pointer (some ⟨gg, o + (i : Int).toNat * 2, none⟩)), (102, .pointer (some ⟨bq, 3, none⟩)), (103, .slice (some ⟨gg, o, none⟩) b.R.length c4), (104, .int .i64 i), (105, .pointer (some ⟨gg, o + (i : Int).toNat * 2, none⟩)), (106, .pointer (some ⟨gg, o + (i : Int).toNat * 2 + 1, none⟩)), (107, .int .i64 x1), (108, .slice (some ⟨q, 0, none⟩) 1 1), (1, .pointer (some ⟨bq, 0, none⟩)), (10, .int .i64 i)]) (fun q => [(q, 2, i64s [x1]), (bq, 27, bkV b ⟨a1, a2, a3, some ⟨gg, o, none⟩, c1, c2, c3, c4⟩)]) (fun q => [Seg.row g 104 4 T.length c (T.flatMap roC), Seg.pack (T.flatMap Tryd.yeB) []]) ?_ (fun hd8 => ?_)
    · rintro bs
      refine AtD.fork1 6 (by kernel_rfl) ?_
      refine StepD.by [] rfl rfl rfl rfl trivial (OpOk.one true [] [hR [.int .i64 x0]] rfl (by (repeat' apply And.intro) <;> first | exact r0 | exact True.intro | omega | rfl | (simp only [inK]; omega) | exact decide_eq_true (by omega) | exact decide_eq_false (by omega) | (simp; done) | (simp; omega) | (simp [Value.oneCell']; done) | exact i64s_one _ | exact AggOk.mk (by kernel_rfl) (by kernel_rfl)) ?_)
      exact AtD.weak (hd5 bs) ⟨rfl, rfl, rfl, rfl, rfl, rfl, rfl, rfl, rfl, rfl, rfl, rfl, rfl, rfl, rfl, rfl, trivial⟩
    refine AtD.cutS (ι := Unit) 6 #[true, true, true, true, true, true, false, true, true, true, true, true, true, false, false, false, false, false] (fun _ => [(95, sv g T.length c), (96, .pointer (some ⟨bq, 3, none⟩)), (97, .slice (some ⟨gg, o, none⟩) b.R.length c4), (98, .int .i64 i), (99, .pointer (some ⟨gg, o + (i : Int).toNat * 2, none⟩)), (100, .pointer (some ⟨gg, o + (i : Int).toNat * 2, none⟩)), (102, .pointer (some ⟨bq, 3, none⟩)), (103, .slice (some ⟨gg, o, none⟩) b.R.length c4), (104, .int .i64 i), (105, .pointer (some ⟨gg, o + (i : Int).toNat * 2, none⟩)), (106, .pointer (some ⟨gg, o + (i : Int).toNat * 2 + 1, none⟩)), (107, .int .i64 x1), (1, .pointer (some ⟨bq, 0, none⟩)), (10, .int .i64 i)]) (fun _ => [(bq, 27, bkV b ⟨a1, a2, a3, some ⟨gg, o, none⟩, c1, c2, c3, c4⟩)]) (fun _ => [Seg.row g 104 4 T.length c (T.flatMap roC), Seg.pack (T.flatMap Tryd.yeB) []]) ?_ (fun hd7 => ?_)
    · rintro ⟨⟩
      refine AtD.fork2 6 13 (by kernel_rfl) ?_ ?_
      · refine StepD.by [] rfl rfl rfl rfl trivial (OpOk.one true [] [hR [.int .i64 x0]] rfl (by (repeat' apply And.intro) <;> first | exact r0 | exact True.intro | omega | rfl | (simp only [inK]; omega) | exact decide_eq_true (by omega) | exact decide_eq_false (by omega) | (simp; done) | (simp; omega) | (simp [Value.oneCell']; done) | exact i64s_one _ | exact AggOk.mk (by kernel_rfl) (by kernel_rfl)) ?_)
        exact AtD.weak (hd4 ()) ⟨rfl, rfl, rfl, rfl, rfl, rfl, rfl, rfl, rfl, rfl, rfl, rfl, rfl, rfl, rfl, trivial⟩
      · refine StepD.by [] rfl rfl rfl rfl trivial (OpOk.buildSlice rfl rfl rfl rfl rfl rfl rfl (fun bs hbs => ?_))
        exact AtD.weak (hd8 bs) ⟨rfl, rfl, rfl, rfl, rfl, rfl, rfl, rfl, rfl, rfl, rfl, rfl, rfl, rfl, rfl, trivial⟩
    refine AtD.cutS (ι := Unit) 7 #[true, true, true, true, true, true, false, true, true, true, true, true, false, false, false, false, false, false] (fun _ => [(95, sv g T.length c), (96, .pointer (some ⟨bq, 3, none⟩)), (97, .slice (some ⟨gg, o, none⟩) b.R.length c4), (98, .int .i64 i), (99, .pointer (some ⟨gg, o + (i : Int).toNat * 2, none⟩)), (100, .pointer (some ⟨gg, o + (i : Int).toNat * 2, none⟩)), (102, .pointer (some ⟨bq, 3, none⟩)), (103, .slice (some ⟨gg, o, none⟩) b.R.length c4), (104, .int .i64 i), (105, .pointer (some ⟨gg, o + (i : Int).toNat * 2, none⟩)), (106, .pointer (some ⟨gg, o + (i : Int).toNat * 2 + 1, none⟩)), (1, .pointer (some ⟨bq, 0, none⟩)), (10, .int .i64 i)]) (fun _ => [(bq, 27, bkV b ⟨a1, a2, a3, some ⟨gg, o, none⟩, c1, c2, c3, c4⟩)]) (fun _ => [Seg.row g 104 4 T.length c (T.flatMap roC), Seg.pack (T.flatMap Tryd.yeB) []]) ?_ (fun hd6 => ?_)
    · rintro ⟨⟩
      refine AtD.fork2 6 12 (by kernel_rfl) ?_ ?_
      · refine StepD.by [] rfl rfl rfl rfl trivial (OpOk.one true [] [hR [.int .i64 x0]] rfl (by (repeat' apply And.intro) <;> first | exact r0 | exact True.intro | omega | rfl | (simp only [inK]; omega) | exact decide_eq_true (by omega) | exact decide_eq_false (by omega) | (simp; done) | (simp; omega) | (simp [Value.oneCell']; done) | exact i64s_one _ | exact AggOk.mk (by kernel_rfl) (by kernel_rfl)) ?_)
        exact AtD.weak (hd3 ()) ⟨rfl, rfl, rfl, rfl, rfl, rfl, rfl, rfl, rfl, rfl, rfl, rfl, rfl, rfl, trivial⟩
      · refine StepD.by [] rfl rfl rfl rfl trivial (OpOk.one true [] [hR [.int .i64 x1]] rfl (by (repeat' apply And.intro) <;> first | exact r1' | exact True.intro | omega | rfl | (simp only [inK]; omega) | exact decide_eq_true (by omega) | exact decide_eq_false (by omega) | (simp; done) | (simp; omega) | (simp [Value.oneCell']; done) | exact i64s_one _ | exact AggOk.mk (by kernel_rfl) (by kernel_rfl)) ?_)
        exact AtD.weak (hd7 ()) ⟨rfl, rfl, rfl, rfl, rfl, rfl, rfl, rfl, rfl, rfl, rfl, rfl, rfl, rfl, trivial⟩
    refine AtD.cutS (ι := Unit) 10 #[true, true, true, true, true, true, false, true, false, true, false, false, false, false, false, false, false, false] (fun _ => [(95, sv g T.length c), (96, .pointer (some ⟨bq, 3, none⟩)), (97, .slice (some ⟨gg, o, none⟩) b.R.length c4), (98, .int .i64 i), (99, .pointer (some ⟨gg, o + (i : Int).toNat * 2, none⟩)), (100, .pointer (some ⟨gg, o + (i : Int).toNat * 2, none⟩)), (102, .pointer (some ⟨bq, 3, none⟩)), (104, .int .i64 i), (1, .pointer (some ⟨bq, 0, none⟩)), (10, .int .i64 i)]) (fun _ => [(bq, 27, bkV b ⟨a1, a2, a3, some ⟨gg, o, none⟩, c1, c2, c3, c4⟩)]) (fun _ => [Seg.row g 104 4 T.length c (T.flatMap roC), Seg.pack (T.flatMap Tryd.yeB) []]) ?_ (fun hd1 => ?_)
    · rintro ⟨⟩
      refine AtD.fork2 6 8 (by kernel_rfl) ?_ ?_
      · refine StepD.by [] rfl rfl rfl rfl trivial (OpOk.one true [] [hR [.int .i64 x0]] rfl (by (repeat' apply And.intro) <;> first | exact r0 | exact True.intro | omega | rfl | (simp only [inK]; omega) | exact decide_eq_true (by omega) | exact decide_eq_false (by omega) | (simp; done) | (simp; omega) | (simp [Value.oneCell']; done) | exact i64s_one _ | exact AggOk.mk (by kernel_rfl) (by kernel_rfl)) ?_)
        exact AtD.weak (hd2 ()) ⟨rfl, rfl, rfl, rfl, rfl, rfl, rfl, rfl, rfl, rfl, rfl, trivial⟩
      · refine StepD.by [] rfl rfl rfl rfl trivial (OpOk.one true [] [hB 0] rfl (by (repeat' apply And.intro) <;> first | exact True.intro | omega | (simp only [inK]; omega) | (simp; done) | (simp; omega) | exact decide_eq_true (by omega) | exact decide_eq_false (by omega) | rfl | (simp [Value.oneCell']; done) | exact i64s_one _ | exact AggOk.mk (by kernel_rfl) (by kernel_rfl)) ?_)
        refine AtD.pures (ob := True) true (by kernel_rfl) [10, 11] (fuel := 7) (by kernel_rfl) rfl (by (repeat' apply And.intro) <;> first | exact True.intro | omega | (simp only [inK]; omega) | (simp; done) | (simp; omega) | exact decide_eq_true (by omega) | exact decide_eq_false (by omega) | rfl | (simp [Value.oneCell']; done) | exact i64s_one _ | exact AggOk.mk (by kernel_rfl) (by kernel_rfl)) ?_
        exact AtD.weak (hd6 ()) ⟨rfl, rfl, rfl, rfl, rfl, rfl, rfl, rfl, rfl, rfl, rfl, rfl, rfl, trivial⟩
    refine AtD.cutS (ι := Nat) 8 #[true, true, false, true, false, false, false, true, true, true, true, true, true, true, false, false, false, false] (fun q => [(95, sv g T.length c), (96, .pointer (some ⟨bq, 3, none⟩)), (98, .int .i64 i), (102, .pointer (some ⟨bq, 3, none⟩)), (103, .slice (some ⟨gg, o, none⟩) b.R.length c4), (104, .int .i64 i), (105, .pointer (some ⟨gg, o + (i : Int).toNat * 2, none⟩)), (106, .pointer (some ⟨gg, o + (i : Int).toNat * 2 + 1, none⟩)), (107, .int .i64 x1), (108, .slice (some ⟨q, 0, none⟩) 1 1), (1, .pointer (some ⟨bq, 0, none⟩)), (10, .int .i64 i)]) (fun q => [(q, 2, i64s [x1]), (bq, 27, bkV b ⟨a1, a2, a3, some ⟨gg, o, none⟩, c1, c2, c3, c4⟩)]) (fun q => [Seg.row g 104 4 T.length c (T.flatMap roC), Seg.pack (T.flatMap Tryd.yeB) []]) ?_ (fun hd11 => ?_)
    · rintro bs
      refine AtD.fork1 2 (by kernel_rfl) ?_
      refine StepD.by [] rfl rfl rfl rfl trivial (OpOk.one true [] [hB 1] rfl (by (repeat' apply And.intro) <;> first | exact True.intro | omega | (simp only [inK]; omega) | (simp; done) | (simp; omega) | exact decide_eq_true (by omega) | exact decide_eq_false (by omega) | rfl | (simp [Value.oneCell']; done) | exact i64s_one _ | exact AggOk.mk (by kernel_rfl) (by kernel_rfl)) ?_)
      refine AtD.pures (ob := True) true (by kernel_rfl) [4, 5] (fuel := 5) (by kernel_rfl) rfl (by (repeat' apply And.intro) <;> first | exact True.intro | omega | (simp only [inK]; omega) | (simp; done) | (simp; omega) | exact decide_eq_true (by omega) | exact decide_eq_false (by omega) | rfl | (simp [Value.oneCell']; done) | exact i64s_one _ | exact AggOk.mk (by kernel_rfl) (by kernel_rfl)) ?_
      exact AtD.weak (hd8 bs) ⟨rfl, rfl, rfl, rfl, rfl, rfl, rfl, rfl, rfl, rfl, rfl, rfl, rfl, rfl, rfl, trivial⟩
    refine AtD.cutS (ι := Unit) 9 #[true, true, false, true, false, false, false, true, true, true, true, true, true, false, false, false, false, false] (fun _ => [(95, sv g T.length c), (96, .pointer (some ⟨bq, 3, none⟩)), (98, .int .i64 i), (102, .pointer (some ⟨bq, 3, none⟩)), (103, .slice (some ⟨gg, o, none⟩) b.R.length c4), (104, .int .i64 i), (105, .pointer (some ⟨gg, o + (i : Int).toNat * 2, none⟩)), (106, .pointer (some ⟨gg, o + (i : Int).toNat * 2 + 1, none⟩)), (107, .int .i64 x1), (1, .pointer (some ⟨bq, 0, none⟩)), (10, .int .i64 i)]) (fun _ => [(bq, 27, bkV b ⟨a1, a2, a3, some ⟨gg, o, none⟩, c1, c2, c3, c4⟩)]) (fun _ => [Seg.row g 104 4 T.length c (T.flatMap roC), Seg.pack (T.flatMap Tryd.yeB) []]) ?_ (fun hd10 => ?_)
    · rintro ⟨⟩
      refine AtD.fork2 2 13 (by kernel_rfl) ?_ ?_
      · refine StepD.by [] rfl rfl rfl rfl trivial (OpOk.one true [] [hB 0] rfl (by (repeat' apply And.intro) <;> first | exact True.intro | omega | (simp only [inK]; omega) | (simp; done) | (simp; omega) | exact decide_eq_true (by omega) | exact decide_eq_false (by omega) | rfl | (simp [Value.oneCell']; done) | exact i64s_one _ | exact AggOk.mk (by kernel_rfl) (by kernel_rfl)) ?_)
        refine AtD.pures (ob := True) true (by kernel_rfl) [4, 5] (fuel := 6) (by kernel_rfl) rfl (by (repeat' apply And.intro) <;> first | exact True.intro | omega | (simp only [inK]; omega) | (simp; done) | (simp; omega) | exact decide_eq_true (by omega) | exact decide_eq_false (by omega) | rfl | (simp [Value.oneCell']; done) | exact i64s_one _ | exact AggOk.mk (by kernel_rfl) (by kernel_rfl)) ?_
        exact AtD.weak (hd7 ()) ⟨rfl, rfl, rfl, rfl, rfl, rfl, rfl, rfl, rfl, rfl, rfl, rfl, rfl, rfl, trivial⟩
      · refine StepD.by [] rfl rfl rfl rfl trivial (OpOk.buildSlice rfl rfl rfl rfl rfl rfl rfl (fun bs hbs => ?_))
        exact AtD.weak (hd11 bs) ⟨rfl, rfl, rfl, rfl, rfl, rfl, rfl, rfl, rfl, rfl, rfl, rfl, trivial⟩
    refine AtD.cutS (ι := Unit) 10 #[true, true, false, true, false, false, false, true, true, true, true, true, false, false, false, false, false, false] (fun _ => [(95, sv g T.length c), (96, .pointer (some ⟨bq, 3, none⟩)), (98, .int .i64 i), (102, .pointer (some ⟨bq, 3, none⟩)), (103, .slice (some ⟨gg, o, none⟩) b.R.length c4), (104, .int .i64 i), (105, .pointer (some ⟨gg, o + (i : Int).toNat * 2, none⟩)), (106, .pointer (some ⟨gg, o + (i : Int).toNat * 2 + 1, none⟩)), (1, .pointer (some ⟨bq, 0, none⟩)), (10, .int .i64 i)]) (fun _ => [(bq, 27, bkV b ⟨a1, a2, a3, some ⟨gg, o, none⟩, c1, c2, c3, c4⟩)]) (fun _ => [Seg.row g 104 4 T.length c (T.flatMap roC), Seg.pack (T.flatMap Tryd.yeB) []]) ?_ (fun hd9 => ?_)
    · rintro ⟨⟩
      refine AtD.fork2 2 12 (by kernel_rfl) ?_ ?_
      · refine StepD.by [] rfl rfl rfl rfl trivial (OpOk.one true [] [hB 0] rfl (by (repeat' apply And.intro) <;> first | exact True.intro | omega | (simp only [inK]; omega) | (simp; done) | (simp; omega) | exact decide_eq_true (by omega) | exact decide_eq_false (by omega) | rfl | (simp [Value.oneCell']; done) | exact i64s_one _ | exact AggOk.mk (by kernel_rfl) (by kernel_rfl)) ?_)
        refine AtD.pures (ob := True) true (by kernel_rfl) [4, 5] (fuel := 7) (by kernel_rfl) rfl (by (repeat' apply And.intro) <;> first | exact True.intro | omega | (simp only [inK]; omega) | (simp; done) | (simp; omega) | exact decide_eq_true (by omega) | exact decide_eq_false (by omega) | rfl | (simp [Value.oneCell']; done) | exact i64s_one _ | exact AggOk.mk (by kernel_rfl) (by kernel_rfl)) ?_
        exact AtD.weak (hd6 ()) ⟨rfl, rfl, rfl, rfl, rfl, rfl, rfl, rfl, rfl, rfl, rfl, rfl, rfl, trivial⟩
      · refine StepD.by [] rfl rfl rfl rfl trivial (OpOk.one true [] [hR [.int .i64 x1]] rfl (by (repeat' apply And.intro) <;> first | exact r1' | exact True.intro | omega | rfl | (simp only [inK]; omega) | exact decide_eq_true (by omega) | exact decide_eq_false (by omega) | (simp; done) | (simp; omega) | (simp [Value.oneCell']; done) | exact i64s_one _ | exact AggOk.mk (by kernel_rfl) (by kernel_rfl)) ?_)
        exact AtD.weak (hd10 ()) ⟨rfl, rfl, rfl, rfl, rfl, rfl, rfl, rfl, rfl, rfl, rfl, trivial⟩
    refine AtD.cutS (ι := Unit) 13 #[true, true, false, true, false, false, false, true, false, true, false, false, false, false, false, false, false, false] (fun _ => [(95, sv g T.length c), (96, .pointer (some ⟨bq, 3, none⟩)), (98, .int .i64 i), (102, .pointer (some ⟨bq, 3, none⟩)), (104, .int .i64 i), (1, .pointer (some ⟨bq, 0, none⟩)), (10, .int .i64 i)]) (fun _ => [(bq, 27, bkV b ⟨a1, a2, a3, some ⟨gg, o, none⟩, c1, c2, c3, c4⟩)]) (fun _ => [Seg.row g 104 4 T.length c (T.flatMap roC), Seg.pack (T.flatMap Tryd.yeB) []]) ?_ (fun hd0 => ?_)
    · rintro ⟨⟩
      refine AtD.fork2 2 8 (by kernel_rfl) ?_ ?_
      · refine StepD.by [] rfl rfl rfl rfl trivial (OpOk.one true [] [hB 0] rfl (by (repeat' apply And.intro) <;> first | exact True.intro | omega | (simp only [inK]; omega) | (simp; done) | (simp; omega) | exact decide_eq_true (by omega) | exact decide_eq_false (by omega) | rfl | (simp [Value.oneCell']; done) | exact i64s_one _ | exact AggOk.mk (by kernel_rfl) (by kernel_rfl)) ?_)
        refine AtD.pures (ob := True) true (by kernel_rfl) [4, 5] (fuel := 10) (by kernel_rfl) rfl (by (repeat' apply And.intro) <;> first | exact True.intro | omega | (simp only [inK]; omega) | (simp; done) | (simp; omega) | exact decide_eq_true (by omega) | exact decide_eq_false (by omega) | rfl | (simp [Value.oneCell']; done) | exact i64s_one _ | exact AggOk.mk (by kernel_rfl) (by kernel_rfl)) ?_
        exact AtD.weak (hd1 ()) ⟨rfl, rfl, rfl, rfl, rfl, rfl, rfl, rfl, rfl, rfl, trivial⟩
      · refine StepD.by [] rfl rfl rfl rfl trivial (OpOk.one true [] [hB 0] rfl (by (repeat' apply And.intro) <;> first | exact True.intro | omega | (simp only [inK]; omega) | (simp; done) | (simp; omega) | exact decide_eq_true (by omega) | exact decide_eq_false (by omega) | rfl | (simp [Value.oneCell']; done) | exact i64s_one _ | exact AggOk.mk (by kernel_rfl) (by kernel_rfl)) ?_)
        refine AtD.pures (ob := True) true (by kernel_rfl) [10, 11] (fuel := 10) (by kernel_rfl) rfl (by (repeat' apply And.intro) <;> first | exact True.intro | omega | (simp only [inK]; omega) | (simp; done) | (simp; omega) | exact decide_eq_true (by omega) | exact decide_eq_false (by omega) | rfl | (simp [Value.oneCell']; done) | exact i64s_one _ | exact AggOk.mk (by kernel_rfl) (by kernel_rfl)) ?_
        exact AtD.weak (hd9 ()) ⟨rfl, rfl, rfl, rfl, rfl, rfl, rfl, rfl, rfl, rfl, trivial⟩
    refine AtD.pures (ob := True) true (by kernel_rfl) [0, 1, 3, 7, 9] (fuel := 13) (by kernel_rfl) rfl (by (repeat' apply And.intro) <;> first | exact True.intro | omega | (simp only [inK]; omega) | (simp; done) | (simp; omega) | exact decide_eq_true (by omega) | exact decide_eq_false (by omega) | rfl | (simp [Value.oneCell']; done) | exact i64s_one _ | exact AggOk.mk (by kernel_rfl) (by kernel_rfl)) ?_
    exact AtD.weak (hd0 ()) ⟨rfl, rfl, rfl, rfl, rfl, rfl, rfl, trivial⟩
  have hie : b.R.take i = b.R := List.take_of_length_le (by omega)
  rw [hie] at hpre
  clear ih
  refine At.run 100 true [false] [hB 0, hB 0] rfl (by (repeat' apply And.intro) <;> first | exact True.intro | omega | (simp only [inK]; omega) | (simp; done) | (simp; omega) | exact decide_eq_true (by omega) | exact decide_eq_false (by omega) | rfl | (simp [Value.oneCell']; done) | exact i64s_one _ | exact AggOk.mk (by kernel_rfl) (by kernel_rfl)) ?_
  refine At.step [] rfl rfl rfl rfl rfl trivial (OpOk.buildSlice rfl rfl rfl rfl rfl rfl rfl (fun bs hbs => ?_))
  refine At.run 100 true [] [] rfl (by (repeat' apply And.intro) <;> first | exact True.intro | omega | (simp only [inK]; omega) | (simp; done) | (simp; omega) | exact decide_eq_true (by omega) | exact decide_eq_false (by omega) | rfl | (simp [Value.oneCell']; done) | exact i64s_one _ | exact AggOk.mk (by kernel_rfl) (by kernel_rfl)) ?_
  refine At.append1 0 4 48 rfl rfl rfl rfl rfl rfl rfl rfl rfl trivial (fun _ => rfl) trivial rfl rfl rfl rfl rfl rfl rfl rfl (fun _ => rfl) (roC_one (⟨(5, 0, 0), [b.c], bs⟩ : YE)) (by omega) (by omega) (fun bz g2 cc2 => ?_)
  refine At.run 100 true [] [] rfl (by (repeat' apply And.intro) <;> first | exact True.intro | omega | (simp only [inK]; omega) | (simp; done) | (simp; omega) | exact decide_eq_true (by omega) | exact decide_eq_false (by omega) | rfl | (simp [Value.oneCell']; done) | exact i64s_one _ | exact AggOk.mk (by kernel_rfl) (by kernel_rfl)) ?_
  refine At.order (br := [(bs, 2, i64s [b.c]), (bq, 27, bkV b ⟨a1, a2, a3, a4, c1, c2, c3, c4⟩)]) (hr := [Seg.pack (T.flatMap Tryd.yeB) [], Seg.row g2 104 4 (T.length + 1) cc2 (T.flatMap roC ++ roC (⟨(5, 0, 0), [b.c], bs⟩ : YE))]) [] [1] rfl rfl ?_
  refine At.reshape (fun w' hw' => WOk.intoPack hw') ?_
  refine At.order (br := [(bq, 27, bkV b ⟨a1, a2, a3, a4, c1, c2, c3, c4⟩)]) (hr := [Seg.row g2 104 4 (T.length + 1) cc2 (T.flatMap roC ++ roC (⟨(5, 0, 0), [b.c], bs⟩ : YE)), Seg.pack (T.flatMap Tryd.yeB ++ [(bs, 2, i64s [b.c])]) []]) [] [1] rfl rfl ?_
  refine At.keep [] [true, true] rfl ?_
  exact At.ret [] rfl Tryd.func36 rfl trivial ⟨T ++ [(⟨(5, 0, 0), [b.c], bs⟩ : YE)], g2, cc2, by rw [List.length_append]; rfl, rfl, by simp only [List.length_append, List.length_singleton, List.flatMap_append, List.flatMap_singleton, Tryd.yeB], by rw [List.map_append, hpre]; simp only [rowsB, List.append_assoc]; rfl⟩

end Go.Proofs

/-
  Walks of layer 14's document: the changes of two books.
-/
namespace Go.Proofs
open Go Go.Eng
set_option maxRecDepth 100000
set_option maxHeartbeats 4000000
attribute [local irreducible] Tri

def adE (x : YE) : Option Addr := some ⟨x.b, 0, none⟩
def chW (x : YE) : ChE := ⟨x.k, x.v, adE x, x.v.length, [], none, 0⟩
def chI (y : YE) : ChE := ⟨y.k, [], none, 0, y.v, adE y, y.v.length⟩
def chB (x y : YE) : ChE := ⟨x.k, x.v, adE x, x.v.length, y.v, adE y, y.v.length⟩
/-- Rows gone along at once. -/
def mgE : List YE → List YE → List ChE
  | [], [] => []
  | x :: T, [] => chW x :: mgE T []
  | [], y :: U => chI y :: mgE [] U
  | x :: T, y :: U => if lt3 x.k y.k then chW x :: mgE T (y :: U) else if lt3 y.k x.k then chI y :: mgE (x :: T) U else (if x.v = y.v then [] else [chB x y]) ++ mgE T U
termination_by T U => T.length + U.length
theorem drop_at {α : Type} {l : List α} {i : Nat} {x : α} (h : l[i]? = some x) : l.drop i = x :: l.drop (i + 1) := by
  have hl := (List.getElem?_eq_some_iff.1 h).1
  rw [List.drop_eq_getElem_cons hl]
  congr 1
  rw [List.getElem?_eq_getElem hl] at h
  exact Option.some.inj h

theorem Tryd.less_w (l a b m c d : Int) (w : World) : Fun Tryd.prog 35 [.int .i64 l, .int .i64 a, .int .i64 b, .int .i64 m, .int .i64 c, .int .i64 d] w (.bool (decide (lt3 (l, a, b) (m, c, d)))) := by
  refine Tri.enter (bx := []) (hp := []) Tryd.func35 rfl (by kernel_rfl) rfl (Own.nil w) ?_
  by_cases h1 : l < m
  · rw [decide_eq_true (show lt3 (l, a, b) (m, c, d) from .inl h1)]
    refine At.run 100 true [true] [] rfl (by (repeat' apply And.intro) <;> first | exact True.intro | omega | (simp only [inK]; omega) | (simp; done) | (simp; omega) | exact decide_eq_true (by omega) | exact decide_eq_false (by omega) | rfl | (simp [Value.oneCell']; done) | exact i64s_one _ | exact AggOk.mk (by kernel_rfl) (by kernel_rfl)) ?_
    exact At.retK [] [] [] rfl rfl Tryd.func35 rfl trivial ⟨rfl, rfl, rfl⟩
  by_cases h2 : l = m
  · by_cases h3 : a < c
    · rw [decide_eq_true (show lt3 (l, a, b) (m, c, d) from .inr ⟨h2, .inl h3⟩)]
      refine At.run 100 true [false, true, true] [] rfl (by (repeat' apply And.intro) <;> first | exact True.intro | omega | (simp only [inK]; omega) | (simp; done) | (simp; omega) | exact decide_eq_true (by omega) | exact decide_eq_false (by omega) | rfl | (simp [Value.oneCell']; done) | exact i64s_one _ | exact AggOk.mk (by kernel_rfl) (by kernel_rfl)) ?_
      exact At.retK [] [] [] rfl rfl Tryd.func35 rfl trivial ⟨rfl, rfl, rfl⟩
    by_cases h4 : a = c
    · have e : decide (lt3 (l, a, b) (m, c, d)) = decide (b < d) := by
        rw [decide_eq_decide]
        simp only [lt3]
        omega
      rw [e]
      refine At.run 100 true [false, true, false, true] [] rfl (by (repeat' apply And.intro) <;> first | exact True.intro | omega | (simp only [inK]; omega) | (simp; done) | (simp; omega) | exact decide_eq_true (by omega) | exact decide_eq_false (by omega) | rfl | (simp [Value.oneCell']; done) | exact i64s_one _ | exact AggOk.mk (by kernel_rfl) (by kernel_rfl)) ?_
      exact At.retK [] [] [] rfl rfl Tryd.func35 rfl trivial ⟨rfl, rfl, rfl⟩
    · rw [decide_eq_false (show ¬ lt3 (l, a, b) (m, c, d) by simp only [lt3]; omega)]
      refine At.run 100 true [false, true, false, false] [] rfl (by (repeat' apply And.intro) <;> first | exact True.intro | omega | (simp only [inK]; omega) | (simp; done) | (simp; omega) | exact decide_eq_true (by omega) | exact decide_eq_false (by omega) | rfl | (simp [Value.oneCell']; done) | exact i64s_one _ | exact AggOk.mk (by kernel_rfl) (by kernel_rfl)) ?_
      exact At.retK [] [] [] rfl rfl Tryd.func35 rfl trivial ⟨rfl, rfl, rfl⟩
  · rw [decide_eq_false (show ¬ lt3 (l, a, b) (m, c, d) by simp only [lt3]; omega)]
    refine At.run 100 true [false, false] [] rfl (by (repeat' apply And.intro) <;> first | exact True.intro | omega | (simp only [inK]; omega) | (simp; done) | (simp; omega) | exact decide_eq_true (by omega) | exact decide_eq_false (by omega) | rfl | (simp [Value.oneCell']; done) | exact i64s_one _ | exact AggOk.mk (by kernel_rfl) (by kernel_rfl)) ?_
    exact At.retK [] [] [] rfl rfl Tryd.func35 rfl trivial ⟨rfl, rfl, rfl⟩

end Go.Proofs

/-
  Plain laws of two books' changes: both ways of finding them tell the same.
-/
import Derived.Test.YtfpoclhenokhhaaM21
import Derived.Test.YtfpoclhenokhhaaM22
import Derived.Test.YtfpoclhenokhhaaM9
/-
  Plain laws of two books' changes: both ways of finding them tell the same.
-/
namespace Go.Proofs
open Go Go.Eng
set_option maxRecDepth 100000
set_option maxHeartbeats 4000000
attribute [local irreducible] Tri

abbrev ChP := K3T × List Int × List Int
theorem strict_eq {α : Type} {lt : α → α → Prop} (hi : ∀ x, ¬ lt x x) (ht : ∀ x y z, lt x y → lt y z → lt x z) : ∀ {l1 l2 : List α}, l1.Pairwise lt → l2.Pairwise lt → (∀ x, x ∈ l1 ↔ x ∈ l2) → l1 = l2
  | [], [], _, _, _ => rfl
  | [], y :: l2, _, _, h => by have := (h y).2 (List.mem_cons_self ..); cases this
  | x :: l1, [], _, _, h => by have := (h x).1 (List.mem_cons_self ..); cases this
  | x :: l1, y :: l2, h1, h2, h => by
    rw [List.pairwise_cons] at h1 h2
    have hxy : x = y := by
      rcases List.mem_cons.1 ((h x).1 (List.mem_cons_self ..)) with e | hx
      · exact e
      · rcases List.mem_cons.1 ((h y).2 (List.mem_cons_self ..)) with e | hy
        · exact e.symm
        · exact (hi _ (ht _ _ _ (h1.1 y hy) (h2.1 x hx))).elim
    subst hxy
    rw [strict_eq hi ht h1.2 h2.2 fun z => ⟨fun hz => ?_, fun hz => ?_⟩]
    · rcases List.mem_cons.1 ((h z).1 (List.mem_cons_of_mem _ hz)) with e | hz2
      · subst e; exact (hi _ (h1.1 _ hz)).elim
      · exact hz2
    · rcases List.mem_cons.1 ((h z).2 (List.mem_cons_of_mem _ hz)) with e | hz2
      · subst e; exact (hi _ (h2.1 _ hz)).elim
      · exact hz2

/-- Rows whose keys rise, and which have values. -/
structure YOk (T : List YE) : Prop where
  ris : T.Pairwise fun x y => lt3 x.k y.k
  ne : ∀ x, x ∈ T → x.v ≠ []
theorem YOk.tail {x : YE} {T : List YE} (h : YOk (x :: T)) : YOk T := ⟨(List.pairwise_cons.1 h.ris).2, fun y hy => h.ne y (List.mem_cons_of_mem _ hy)⟩
theorem YOk.lt {x : YE} {T : List YE} (h : YOk (x :: T)) : ∀ y, y ∈ T → lt3 x.k y.k := (List.pairwise_cons.1 h.ris).1
theorem YOk.of {T : List YE} {b : Bk} (hT : T.map YE.row = rowsB b) (h : RowsOk (rowsB b)) : YOk T := by
  rw [← hT] at h
  refine ⟨?_, fun x hx => h.ne x.row (List.mem_map_of_mem hx)⟩
  have := h.ris
  rw [List.pairwise_map] at this
  exact this
theorem getT_cons (x : YE) (T : List YE) (k : K3T) : getT (x :: T) k = if x.k = k then x.v else getT T k := by
  unfold getT
  rw [List.find?_cons]
  by_cases h : x.k = k
  · rw [if_pos h, decide_eq_true h]
  · rw [if_neg h, decide_eq_false h]
theorem getT_far {T : List YE} {k : K3T} (h : ∀ x, x ∈ T → lt3 k x.k) : getT T k = [] := by
  unfold getT
  cases hf : T.find? (fun x => decide (x.k = k)) with
  | none => rfl
  | some x => exact (lt3_ne (h x (find_k hf).1) (find_k hf).2.symm).elim
theorem getT_mem {T : List YE} (h : YOk T) {x : YE} (hx : x ∈ T) : getT T x.k = x.v := by
  induction T with
  | nil => cases hx
  | cons y T ih =>
    rw [getT_cons]
    rcases List.mem_cons.1 hx with rfl | hx
    · rw [if_pos rfl]
    · rw [if_neg (lt3_ne (h.lt x hx)), ih h.tail hx]
theorem getT_row {T : List YE} (h : YOk T) (k : K3T) (v : List Int) : (k, v) ∈ T.map YE.row ↔ getT T k = v ∧ v ≠ [] := by
  constructor
  · intro hm
    obtain ⟨x, hx, e⟩ := List.mem_map.1 hm
    have e1 : x.k = k := congrArg Prod.fst e
    have e2 : x.v = v := congrArg Prod.snd e
    subst e1 e2
    exact ⟨getT_mem h hx, h.ne x hx⟩
  · rintro ⟨rfl, hv⟩
    unfold getT at *
    cases hf : T.find? (fun x => decide (x.k = k)) with
    | none => rw [hf] at hv; exact (hv rfl).elim
    | some x =>
      have h1 := find_k hf
      exact List.mem_map.2 ⟨x, h1.1, by show (x.k, x.v) = _; rw [h1.2]⟩
/-- What a key's change is. -/
def IsCh (T U : List YE) (e : ChP) : Prop := e.2.1 = getT T e.1 ∧ e.2.2 = getT U e.1 ∧ e.2.1 ≠ e.2.2
theorem mgE_mem : ∀ (T U : List YE), YOk T → YOk U → ∀ e : ChP, e ∈ (mgE T U).map chP ↔ IsCh T U e := by
  intro T U
  fun_induction mgE T U with
  | case1 => intro _ _ e; simp [IsCh, getT]; exact fun h1 h2 => h1.trans h2.symm
  | case2 x T ih =>
    intro hT hU e
    have h0 : getT ([] : List YE) e.1 = [] := rfl
    have hx : getT T x.k = [] := getT_far hT.lt
    have hne := hT.ne x (List.mem_cons_self ..)
    obtain ⟨k, a, b⟩ := e
    rw [List.map_cons, List.mem_cons, ih hT.tail hU]
    simp only [IsCh, getT_cons, chP, chW, Prod.mk.injEq] at *
    by_cases hk : x.k = k
    · subst hk
      simp only [true_and, if_true, hx, h0]
      constructor
      · rintro (⟨rfl, rfl⟩ | ⟨rfl, rfl, h⟩)
        · exact ⟨rfl, rfl, hne⟩
        · exact (h rfl).elim
      · rintro ⟨rfl, rfl, h⟩
        exact .inl ⟨rfl, rfl⟩
    · simp only [if_neg hk, Ne.symm hk, false_and, false_or]
  | case3 y U ih =>
    intro hT hU e
    have h0 : getT ([] : List YE) e.1 = [] := rfl
    have hx : getT U y.k = [] := getT_far hU.lt
    have hne := hU.ne y (List.mem_cons_self ..)
    obtain ⟨k, a, b⟩ := e
    rw [List.map_cons, List.mem_cons, ih hT hU.tail]
    simp only [IsCh, getT_cons, chP, chI, Prod.mk.injEq] at *
    by_cases hk : y.k = k
    · subst hk
      simp only [true_and, if_true, hx, h0]
      constructor
      · rintro (⟨rfl, rfl⟩ | ⟨rfl, rfl, h⟩)
        · exact ⟨rfl, rfl, hne.symm⟩
        · exact (h rfl).elim
      · rintro ⟨rfl, rfl, h⟩
        exact .inl ⟨rfl, rfl⟩
    · simp only [if_neg hk, Ne.symm hk, false_and, false_or]
  | case4 x T y U h1 ih =>
    intro hT hU e
    have hx : getT T x.k = [] := getT_far hT.lt
    have hy : getT (y :: U) x.k = [] := getT_far fun z hz => by
      rcases List.mem_cons.1 hz with rfl | hz
      · exact h1
      · exact lt3_trans h1 (hU.lt z hz)
    have hne := hT.ne x (List.mem_cons_self ..)
    obtain ⟨k, a, b⟩ := e
    rw [List.map_cons, List.mem_cons, ih hT.tail hU]
    simp only [IsCh, getT_cons x T, chP, chW, Prod.mk.injEq] at *
    by_cases hk : x.k = k
    · subst hk
      simp only [true_and, if_true, hx, hy]
      constructor
      · rintro (⟨rfl, rfl⟩ | ⟨rfl, rfl, h⟩)
        · exact ⟨rfl, rfl, hne⟩
        · exact (h rfl).elim
      · rintro ⟨rfl, rfl, h⟩
        exact .inl ⟨rfl, rfl⟩
    · simp only [if_neg hk, Ne.symm hk, false_and, false_or]
  | case5 x T y U h1 h2 ih =>
    intro hT hU e
    have hy : getT U y.k = [] := getT_far hU.lt
    have hx : getT (x :: T) y.k = [] := getT_far fun z hz => by
      rcases List.mem_cons.1 hz with rfl | hz
      · exact h2
      · exact lt3_trans h2 (hT.lt z hz)
    have hne := hU.ne y (List.mem_cons_self ..)
    obtain ⟨k, a, b⟩ := e
    rw [List.map_cons, List.mem_cons, ih hT hU.tail]
    simp only [IsCh, getT_cons y U, chP, chI, Prod.mk.injEq] at *
    by_cases hk : y.k = k
    · subst hk
      simp only [true_and, if_true, hx, hy]
      constructor
      · rintro (⟨rfl, rfl⟩ | ⟨rfl, rfl, h⟩)
        · exact ⟨rfl, rfl, hne.symm⟩
        · exact (h rfl).elim
      · rintro ⟨rfl, rfl, h⟩
        exact .inl ⟨rfl, rfl⟩
    · simp only [if_neg hk, Ne.symm hk, false_and, false_or]
  | case6 x T y U h1 h2 ih =>
    intro hT hU e
    have hk0 : x.k = y.k := by
      rcases lt3_tri x.k y.k with h | h | h
      · exact (h1 h).elim
      · exact h
      · exact (h2 h).elim
    have hx : getT T x.k = [] := getT_far hT.lt
    have hy : getT U x.k = [] := by rw [hk0]; exact getT_far hU.lt
    obtain ⟨k, a, b⟩ := e
    rw [List.map_append, List.mem_append, ih hT.tail hU.tail]
    simp only [IsCh, getT_cons, ← hk0] at *
    by_cases hk : x.k = k
    · subst hk
      simp only [if_true, hx, hy]
      by_cases h3 : x.v = y.v
      · rw [if_pos h3]
        constructor
        · rintro (h | ⟨rfl, rfl, h⟩)
          · cases h
          · exact (h rfl).elim
        · rintro ⟨rfl, rfl, h⟩
          exact (h h3).elim
      · rw [if_neg h3]
        simp only [List.map_cons, List.map_nil, List.mem_singleton, chP, chB, Prod.mk.injEq, true_and]
        constructor
        · rintro (⟨rfl, rfl⟩ | ⟨rfl, rfl, h⟩)
          · exact ⟨rfl, rfl, h3⟩
          · exact (h rfl).elim
        · rintro ⟨rfl, rfl, h⟩
          exact .inl ⟨rfl, rfl⟩
    · have : ¬ ((k, a, b) ∈ (if x.v = y.v then ([] : List ChE) else [chB x y]).map chP) := by
        split
        · simp
        · simp only [List.map_cons, List.map_nil, List.mem_singleton, chP, chB, Prod.mk.injEq, not_and]
          intro h; exact (hk h.symm).elim
      simp only [if_neg hk, this, false_or]
theorem mgE_ris : ∀ (T U : List YE), YOk T → YOk U → ((mgE T U).map chP).Pairwise fun p q => lt3 p.1 q.1 := by
  have far : ∀ {T U : List YE} {k : K3T}, YOk T → YOk U → (∀ x, x ∈ T → lt3 k x.k) → (∀ y, y ∈ U → lt3 k y.k) → ∀ p, p ∈ (mgE T U).map chP → lt3 k p.1 := by
    intro T U k hT hU h1 h2 p hp
    obtain ⟨e1, e2, e3⟩ := (mgE_mem T U hT hU p).1 hp
    by_cases h : getT T p.1 = []
    · have hne : getT U p.1 ≠ [] := fun h' => e3 (by rw [e1, e2, h, h'])
      obtain ⟨x, hx, e⟩ := List.mem_map.1 ((getT_row hU p.1 _).2 ⟨rfl, hne⟩)
      rw [← show x.k = p.1 from congrArg Prod.fst e]; exact h2 x hx
    · obtain ⟨x, hx, e⟩ := List.mem_map.1 ((getT_row hT p.1 _).2 ⟨rfl, h⟩)
      rw [← show x.k = p.1 from congrArg Prod.fst e]; exact h1 x hx
  intro T U
  fun_induction mgE T U with
  | case1 => intro _ _; exact List.Pairwise.nil
  | case2 x T ih =>
    intro hT hU
    rw [List.map_cons, List.pairwise_cons]
    exact ⟨far hT.tail hU hT.lt (fun _ h => by cases h), ih hT.tail hU⟩
  | case3 y U ih =>
    intro hT hU
    rw [List.map_cons, List.pairwise_cons]
    exact ⟨far hT hU.tail (fun _ h => by cases h) hU.lt, ih hT hU.tail⟩
  | case4 x T y U h1 ih =>
    intro hT hU
    rw [List.map_cons, List.pairwise_cons]
    refine ⟨far hT.tail hU hT.lt fun z hz => ?_, ih hT.tail hU⟩
    rcases List.mem_cons.1 hz with rfl | hz
    · exact h1
    · exact lt3_trans h1 (hU.lt z hz)
  | case5 x T y U h1 h2 ih =>
    intro hT hU
    rw [List.map_cons, List.pairwise_cons]
    refine ⟨far hT hU.tail (fun z hz => ?_) hU.lt, ih hT hU.tail⟩
    rcases List.mem_cons.1 hz with rfl | hz
    · exact h2
    · exact lt3_trans h2 (hT.lt z hz)
  | case6 x T y U h1 h2 ih =>
    intro hT hU
    have hk0 : x.k = y.k := by
      rcases lt3_tri x.k y.k with h | h | h
      · exact (h1 h).elim
      · exact h
      · exact (h2 h).elim
    split
    · exact ih hT.tail hU.tail
    · rw [List.map_append, List.map_cons, List.map_nil, List.singleton_append, List.pairwise_cons]
      exact ⟨far hT.tail hU.tail hT.lt (by rw [show (chP (chB x y)).1 = y.k from hk0]; exact hU.lt), ih hT.tail hU.tail⟩
theorem sort3_ris {ks : List K3T} (hn : ks.Nodup) : (sort3 ks).Pairwise lt3 := by
  have hle : ∀ x y : K3T, (!(_root_.Go.Proofs.ltOf cf3) y x) = true ↔ ¬ lt3 y x := fun x y => by rw [cf3_b]; simp
  have hp : (sort3 ks).Pairwise fun x y => ¬ lt3 y x := by
    refine (List.pairwise_mergeSort (fun a b c h1 h2 => ?_) (fun a b => ?_) ks).imp (fun h => (hle _ _).1 h)
    · rw [hle] at *
      intro h
      rcases lt3_tri b c with h3 | h3 | h3
      · exact h1 (lt3_trans h3 h)
      · subst h3; exact h1 h
      · exact h2 h3
    · rw [Bool.or_eq_true, hle, hle]
      rcases lt3_tri a b with h3 | h3 | h3
      · exact .inl fun h => lt3_irrefl _ (lt3_trans h3 h)
      · subst h3; exact .inl (lt3_irrefl _)
      · exact .inr fun h => lt3_irrefl _ (lt3_trans h3 h)
  have hn2 : (sort3 ks).Nodup := (List.mergeSort_perm ks _).nodup_iff.2 hn
  refine (List.pairwise_and_iff.2 ⟨hp, hn2⟩).imp fun h => ?_
  rcases lt3_tri _ _ with h3 | h3 | h3
  · exact h3
  · exact (h.2 h3).elim
  · exact (h.1 h3).elim
theorem YOk.nodup {T : List YE} (h : YOk T) : (T.map (·.k)).Nodup := by
  rw [List.nodup_iff_pairwise_ne, List.pairwise_map]
  exact h.ris.imp fun h => lt3_ne h
theorem hasT_iff {T : List YE} {k : K3T} : hasT T k = true ↔ k ∈ T.map (·.k) := by
  unfold hasT
  rw [List.find?_isSome]
  constructor
  · rintro ⟨x, hx, e⟩
    exact List.mem_map.2 ⟨x, hx, by simpa using e⟩
  · intro h
    obtain ⟨x, hx, e⟩ := List.mem_map.1 h
    exact ⟨x, hx, by simpa using e⟩
theorem keysT_nodup {T U : List YE} (hT : YOk T) (hU : YOk U) : (keysT T U).Nodup := by
  unfold keysT
  rw [List.nodup_append]
  refine ⟨hT.nodup, ?_, ?_⟩
  · rw [List.nodup_iff_pairwise_ne, List.pairwise_map]
    exact (hU.ris.filter _).imp fun h => lt3_ne h
  · intro a ha b hb e
    subst e
    obtain ⟨x, hx, rfl⟩ := List.mem_map.1 hb
    rw [List.mem_filter] at hx
    have := hasT_iff.2 ha
    rw [this] at hx
    exact absurd hx.2 (by simp)
theorem keysT_mem {T U : List YE} {k : K3T} : k ∈ keysT T U ↔ k ∈ T.map (·.k) ∨ k ∈ U.map (·.k) := by
  unfold keysT
  rw [List.mem_append]
  constructor
  · rintro (h | h)
    · exact .inl h
    · obtain ⟨x, hx, rfl⟩ := List.mem_map.1 h
      exact .inr (List.mem_map_of_mem (List.mem_filter.1 hx).1)
  · rintro (h | h)
    · exact .inl h
    · cases hh : hasT T k with
      | true => exact .inl (hasT_iff.1 hh)
      | false =>
        obtain ⟨x, hx, rfl⟩ := List.mem_map.1 h
        exact .inr (List.mem_map.2 ⟨x, List.mem_filter.2 ⟨hx, by rw [hh]; rfl⟩, rfl⟩)
theorem getT_key {T : List YE} {k : K3T} (h : getT T k ≠ []) : k ∈ T.map (·.k) := by
  unfold getT at h
  cases hf : T.find? (fun x => decide (x.k = k)) with
  | none => rw [hf] at h; exact (h rfl).elim
  | some x => exact List.mem_map.2 ⟨x, (find_k hf).1, (find_k hf).2⟩
theorem diffK_eq {T U : List YE} (hT : YOk T) (hU : YOk U) : (diffK T U (sort3 (keysT T U))).map chP = (mgE T U).map chP := by
  refine strict_eq (lt := fun p q : ChP => lt3 p.1 q.1) (fun _ => lt3_irrefl _) (fun _ _ _ => lt3_trans) ?_ (mgE_ris T U hT hU) fun e => ?_
  · unfold diffK
    rw [List.map_map, List.pairwise_map]
    exact ((sort3_ris (keysT_nodup hT hU)).filter _).imp fun h => h
  · rw [mgE_mem T U hT hU, IsCh]
    unfold diffK
    rw [List.map_map, List.mem_map]
    constructor
    · rintro ⟨k, hk, rfl⟩
      have := (List.mem_filter.1 hk).2
      refine ⟨rfl, rfl, fun h => ?_⟩
      have h' : getT T k = getT U k := h
      rw [h'] at this
      simp at this
    · obtain ⟨k, a, b⟩ := e
      rintro ⟨h1, h2, h⟩
      obtain rfl : a = getT T k := h1
      obtain rfl : b = getT U k := h2
      refine ⟨k, List.mem_filter.2 ⟨(List.mergeSort_perm _ _).mem_iff.2 (keysT_mem.2 ?_), ?_⟩, rfl⟩
      · by_cases h1 : getT T k = []
        · exact .inr (getT_key fun h2 => h (by show getT T k = getT U k; rw [h1, h2]))
        · exact .inl (getT_key h1)
      · rw [decide_eq_false h]; rfl
theorem mgE_nil {T U : List YE} (hT : YOk T) (hU : YOk U) : mgE T U = [] ↔ T.map YE.row = U.map YE.row := by
  have hr : ∀ {V : List YE}, YOk V → (V.map YE.row).Pairwise fun p q => lt3 p.1 q.1 := fun h => List.pairwise_map.2 h.ris
  constructor
  · intro h
    refine strict_eq (lt := fun p q : RowB => lt3 p.1 q.1) (fun _ => lt3_irrefl _) (fun _ _ _ => lt3_trans) (hr hT) (hr hU) fun e => ?_
    obtain ⟨k, v⟩ := e
    rw [getT_row hT, getT_row hU]
    have hk : getT T k = getT U k := Classical.byContradiction fun hne => by
      have := (mgE_mem T U hT hU (k, getT T k, getT U k)).2 ⟨rfl, rfl, hne⟩
      rw [h] at this; cases this
    rw [hk]
  · intro h
    have hk : ∀ k, getT T k = getT U k := fun k => by
      by_cases h1 : getT T k = []
      · by_cases h2 : getT U k = []
        · rw [h1, h2]
        · have := (getT_row hU k _).2 ⟨rfl, h2⟩
          rw [← h, getT_row hT] at this
          exact this.1
      · have := (getT_row hT k _).2 ⟨rfl, h1⟩
        rw [h, getT_row hU] at this
        exact this.1.symm
    cases hm : mgE T U with
    | nil => rfl
    | cons e l =>
      have := (mgE_mem T U hT hU (chP e)).1 (by rw [hm]; exact List.mem_map_of_mem (List.mem_cons_self ..))
      exact (this.2.2 (by rw [this.1, this.2.1, hk])).elim

theorem getT_congr {T T' : List YE} (hT : YOk T) (hT' : YOk T') (h : T.map YE.row = T'.map YE.row) (k : K3T) : getT T k = getT T' k := by
  by_cases h1 : getT T k = []
  · by_cases h2 : getT T' k = []
    · rw [h1, h2]
    · have := (getT_row hT' k _).2 ⟨rfl, h2⟩
      rw [← h, getT_row hT] at this
      exact this.1
  · have := (getT_row hT k _).2 ⟨rfl, h1⟩
    rw [h, getT_row hT'] at this
    exact this.1.symm
theorem mgE_congr {T U T' U' : List YE} (hT : YOk T) (hU : YOk U) (hT' : YOk T') (hU' : YOk U') (h : T.map YE.row = T'.map YE.row) (k : U.map YE.row = U'.map YE.row) : (mgE T U).map chP = (mgE T' U').map chP :=
  strict_eq (lt := fun p q : ChP => lt3 p.1 q.1) (fun _ => lt3_irrefl _) (fun _ _ _ => lt3_trans) (mgE_ris T U hT hU) (mgE_ris T' U' hT' hU') fun e => by
    rw [mgE_mem T U hT hU, mgE_mem T' U' hT' hU', IsCh, IsCh, getT_congr hT hT' h, getT_congr hU hU' k]

/-- Rows that are alike are of books that are alike. -/
theorem r1_inj {l : Int} {sz : Nat} (hs : 0 < sz) : ∀ {A B : List (List Int)}, (∀ x, x ∈ A → x.length = sz) → (∀ x, x ∈ B → x.length = sz) → A.map (r1 l) = B.map (r1 l) → A = B
  | [], [], _, _, _ => rfl
  | [], _ :: _, _, _, h => by simp at h
  | _ :: _, [], _, _, h => by simp at h
  | x :: A, y :: B, hA, hB, h => by
    simp only [List.map_cons, List.cons.injEq, r1, Prod.mk.injEq, true_and, and_true] at h
    have hx := hA x (List.mem_cons_self ..)
    have hy := hB y (List.mem_cons_self ..)
    have e : x = y := by
      match x, y, h.1 with
      | [], _, _ => simp only [List.length_nil] at hx; omega
      | _ :: _, [], _ => simp only [List.length_nil] at hy; omega
      | a :: x, b :: y, h1 => simpa [k0] using h1
    rw [e, r1_inj hs (fun z hz => hA z (List.mem_cons_of_mem _ hz)) (fun z hz => hB z (List.mem_cons_of_mem _ hz)) h.2]
theorem r2_inj : ∀ {A B : List (List Int)}, (∀ x, x ∈ A → x.length = 3) → (∀ x, x ∈ B → x.length = 3) → A.map r2 = B.map r2 → A = B
  | [], [], _, _, _ => rfl
  | [], _ :: _, _, _, h => by simp at h
  | _ :: _, [], _, _, h => by simp at h
  | x :: A, y :: B, hA, hB, h => by
    simp only [List.map_cons, List.cons.injEq, r2, Prod.mk.injEq, true_and] at h
    have hx := hA x (List.mem_cons_self ..)
    have hy := hB y (List.mem_cons_self ..)
    have e : x = y := by
      obtain ⟨a, b, c, rfl⟩ := len3 hx
      obtain ⟨a', b', c', rfl⟩ := len3 hy
      simpa [k0, k1, and_assoc] using h.1
    rw [e, r2_inj (fun z hz => hA z (List.mem_cons_of_mem _ hz)) (fun z hz => hB z (List.mem_cons_of_mem _ hz)) h.2]
theorem fil_all {l : Int} {A : List RowB} (h : ∀ p, p ∈ A → p.1.1 = l) : A.filter (fun p => decide (p.1.1 = l)) = A := List.filter_eq_self.2 fun p hp => decide_eq_true (h p hp)
theorem fil_none {l : Int} {A : List RowB} (h : ∀ p, p ∈ A → p.1.1 ≠ l) : A.filter (fun p => decide (p.1.1 = l)) = [] := List.filter_eq_nil_iff.2 fun p hp => by simpa using h p hp
theorem r1_list {l : Int} {A : List (List Int)} : ∀ p, p ∈ A.map (r1 l) → p.1.1 = l := fun p hp => by obtain ⟨x, -, rfl⟩ := List.mem_map.1 hp; rfl
theorem r2_list {A : List (List Int)} : ∀ p, p ∈ A.map r2 → p.1.1 = 2 := fun p hp => by obtain ⟨x, -, rfl⟩ := List.mem_map.1 hp; rfl
theorem rowsB_fil (b : Bk) : (rowsB b).filter (fun p => decide (p.1.1 = 1)) = b.H.map (r1 1) ∧ (rowsB b).filter (fun p => decide (p.1.1 = 2)) = b.S.map r2 ∧ (rowsB b).filter (fun p => decide (p.1.1 = 3)) = b.O.map (r1 3) ∧ (rowsB b).filter (fun p => decide (p.1.1 = 4)) = b.R.map (r1 4) ∧ (rowsB b).filter (fun p => decide (p.1.1 = 5)) = [((5, 0, 0), [b.c])] := by
  have n1 : ∀ {l m : Int} {A : List (List Int)}, l ≠ m → (A.map (r1 l)).filter (fun p => decide (p.1.1 = m)) = [] := fun h => fil_none fun p hp => by rw [r1_list p hp]; exact h
  have n2 : ∀ {m : Int} {A : List (List Int)}, 2 ≠ m → (A.map r2).filter (fun p => decide (p.1.1 = m)) = [] := fun h => fil_none fun p hp => by rw [r2_list p hp]; exact h
  have y1 : ∀ {l : Int} {A : List (List Int)}, (A.map (r1 l)).filter (fun p => decide (p.1.1 = l)) = A.map (r1 l) := fil_all r1_list
  have y2 : ∀ {A : List (List Int)}, (A.map r2).filter (fun p => decide (p.1.1 = 2)) = A.map r2 := fil_all r2_list
  refine ⟨?_, ?_, ?_, ?_, ?_⟩ <;> simp only [rowsB, List.filter_append]
  · rw [y1, n2 (by decide), n1 (by decide), n1 (by decide)]; simp
  · rw [n1 (by decide), y2, n1 (by decide), n1 (by decide)]; simp
  · rw [n1 (by decide), n2 (by decide), y1, n1 (by decide)]; simp
  · rw [n1 (by decide), n2 (by decide), n1 (by decide), y1]; simp
  · rw [n1 (by decide), n2 (by decide), n1 (by decide), n1 (by decide)]; simp
theorem rowsB_inj {a b : Bk} (ha : BkIn a) (hb : BkIn b) (h : rowsB a = rowsB b) : a.H = b.H ∧ a.S = b.S ∧ a.O = b.O ∧ a.R = b.R ∧ a.c = b.c := by
  obtain ⟨a1, a2, a3, a4, a5⟩ := rowsB_fil a
  obtain ⟨b1, b2, b3, b4, b5⟩ := rowsB_fil b
  rw [h] at a1 a2 a3 a4 a5
  refine ⟨r1_inj (by omega) (fun x hx => (ha.r1 x hx).1) (fun x hx => (hb.r1 x hx).1) (a1.symm.trans b1), r2_inj (fun x hx => (ha.r2 x hx).1) (fun x hx => (hb.r2 x hx).1) (a2.symm.trans b2), r1_inj (by omega) (fun x hx => (ha.r3 x hx).1) (fun x hx => (hb.r3 x hx).1) (a3.symm.trans b3), r1_inj (by omega) (fun x hx => (ha.r4 x hx).1) (fun x hx => (hb.r4 x hx).1) (a4.symm.trans b4), ?_⟩
  have := a5.symm.trans b5
  simpa using this
theorem mgE_same {T U : List YE} {a b : Bk} (hT : T.map YE.row = rowsB a) (hU : U.map YE.row = rowsB b) (ha : BkIn a) (hb : BkIn b) (la : listsB a = true) (lb : listsB b = true) : decide (mgE T U = []) = sameB a b := by
  rw [sameB, decide_eq_decide, mgE_nil (YOk.of hT (rowsB_ok ha la)) (YOk.of hU (rowsB_ok hb lb)), hT, hU]
  constructor
  · exact rowsB_inj ha hb
  · rintro ⟨h1, h2, h3, h4, h5⟩
    rw [rowsB, rowsB, h1, h2, h3, h4, h5]
end Go.Proofs

/-
  Walks of layer 14's statements: the example, and the changes of any two books.
-/
namespace Go.Proofs
open Go Go.Eng
set_option maxRecDepth 100000
set_option maxHeartbeats 4000000
attribute [local irreducible] Tri

theorem Try.sl_of {S : Base} {bx : Bx} {hp : List Seg} {T : List YE} {w : World} (hw : WOk S bx hp w) (hm : Seg.pack (T.flatMap Try.yeB) [] ∈ hp) {x : YE} (hx : x ∈ T) : SlOk w (adE x) (i64s x.v) :=
  SlOk.blk ((hw.hp _ hm).1 (x.b, 2, i64s x.v) (List.mem_flatMap.2 ⟨x, hx, by simp [Try.yeB]⟩))
theorem Try.diffK_chl {S : Base} {bx : Bx} {hp : List Seg} {T U : List YE} {a b : Bk} {w : World} (hw : WOk S bx hp w) (hm1 : Seg.pack (T.flatMap Try.yeB) [] ∈ hp) (hm2 : Seg.pack (U.flatMap Try.yeB) [] ∈ hp) (hT : T.map YE.row = rowsB a) (hU : U.map YE.row = rowsB b) (hia : BkIn a) (hib : BkIn b) (ks : List K3T) : ChL w (diffK T U ks) := by
  intro e he
  unfold diffK at he
  obtain ⟨k, -, rfl⟩ := List.mem_map.1 he
  have h1 := getT_len hT hia k
  have h2 := getT_len hU hib k
  exact ⟨Try.val_sl hw hm1 k, Try.val_sl hw hm2 k, by show (getT T k).length ≤ _; omega, by show (getT U k).length ≤ _; omega⟩
theorem mgE_from : ∀ (T U : List YE) (e : ChE), e ∈ mgE T U → (e.was = [] ∨ ∃ x, x ∈ T ∧ e.was = x.v ∧ e.wa = adE x) ∧ (e.is = [] ∨ ∃ y, y ∈ U ∧ e.is = y.v ∧ e.ia = adE y) := by
  intro T U
  have up : ∀ {T U T' U' : List YE} {e : ChE}, (∀ x, x ∈ T → x ∈ T') → (∀ x, x ∈ U → x ∈ U') → ((e.was = [] ∨ ∃ x, x ∈ T ∧ e.was = x.v ∧ e.wa = adE x) ∧ (e.is = [] ∨ ∃ y, y ∈ U ∧ e.is = y.v ∧ e.ia = adE y)) →
      ((e.was = [] ∨ ∃ x, x ∈ T' ∧ e.was = x.v ∧ e.wa = adE x) ∧ (e.is = [] ∨ ∃ y, y ∈ U' ∧ e.is = y.v ∧ e.ia = adE y)) := by
    rintro T U T' U' e h1 h2 ⟨h3, h4⟩
    refine ⟨?_, ?_⟩
    · rcases h3 with h | ⟨x, h, g⟩
      · exact .inl h
      · exact .inr ⟨x, h1 x h, g⟩
    · rcases h4 with h | ⟨x, h, g⟩
      · exact .inl h
      · exact .inr ⟨x, h2 x h, g⟩
  fun_induction mgE T U with
  | case1 => intro e he; cases he
  | case2 x T ih =>
    intro e he
    rcases List.mem_cons.1 he with rfl | he
    · exact ⟨.inr ⟨x, List.mem_cons_self .., rfl, rfl⟩, .inl rfl⟩
    · exact up (fun _ h => List.mem_cons_of_mem _ h) (fun _ h => h) (ih e he)
  | case3 y U ih =>
    intro e he
    rcases List.mem_cons.1 he with rfl | he
    · exact ⟨.inl rfl, .inr ⟨y, List.mem_cons_self .., rfl, rfl⟩⟩
    · exact up (fun _ h => h) (fun _ h => List.mem_cons_of_mem _ h) (ih e he)
  | case4 x T y U h1 ih =>
    intro e he
    rcases List.mem_cons.1 he with rfl | he
    · exact ⟨.inr ⟨x, List.mem_cons_self .., rfl, rfl⟩, .inl rfl⟩
    · exact up (fun _ h => List.mem_cons_of_mem _ h) (fun _ h => h) (ih e he)
  | case5 x T y U h1 h2 ih =>
    intro e he
    rcases List.mem_cons.1 he with rfl | he
    · exact ⟨.inl rfl, .inr ⟨y, List.mem_cons_self .., rfl, rfl⟩⟩
    · exact up (fun _ h => h) (fun _ h => List.mem_cons_of_mem _ h) (ih e he)
  | case6 x T y U h1 h2 ih =>
    intro e he
    rcases List.mem_append.1 he with he | he
    · split at he
      · cases he
      · rw [List.mem_singleton] at he
        subst he
        exact ⟨.inr ⟨x, List.mem_cons_self .., rfl, rfl⟩, .inr ⟨y, List.mem_cons_self .., rfl, rfl⟩⟩
    · exact up (fun _ h => List.mem_cons_of_mem _ h) (fun _ h => List.mem_cons_of_mem _ h) (ih e he)
theorem Try.mgE_chl {S : Base} {bx : Bx} {hp : List Seg} {T U : List YE} {a b : Bk} {w : World} (hw : WOk S bx hp w) (hm1 : Seg.pack (T.flatMap Try.yeB) [] ∈ hp) (hm2 : Seg.pack (U.flatMap Try.yeB) [] ∈ hp) (hT : T.map YE.row = rowsB a) (hU : U.map YE.row = rowsB b) (hia : BkIn a) (hib : BkIn b) : ChL w (mgE T U) := by
  intro e he
  have lt : ∀ x, x ∈ T → x.v.length ≤ 5 := fun x hx => (rowsB_in hia x.row (by rw [← hT]; exact List.mem_map_of_mem hx)).len
  have lu : ∀ x, x ∈ U → x.v.length ≤ 5 := fun x hx => (rowsB_in hib x.row (by rw [← hU]; exact List.mem_map_of_mem hx)).len
  obtain ⟨h1, h2⟩ := mgE_from T U e he
  have g1 : SlOk w e.wa (i64s e.was) ∧ e.was.length ≤ 5 := by
    rcases h1 with h | ⟨x, hx, e1, e2⟩
    · rw [h]; exact ⟨.inl rfl, by simp⟩
    · rw [e1, e2]; exact ⟨Try.sl_of hw hm1 hx, lt x hx⟩
  have g2 : SlOk w e.ia (i64s e.is) ∧ e.is.length ≤ 5 := by
    rcases h2 with h | ⟨x, hx, e1, e2⟩
    · rw [h]; exact ⟨.inl rfl, by simp⟩
    · rw [e1, e2]; exact ⟨Try.sl_of hw hm2 hx, lu x hx⟩
  exact ⟨g1.1, g2.1, by have := g1.2; omega, by have := g2.2; omega⟩
theorem mgE_len : ∀ (T U : List YE), (mgE T U).length ≤ T.length + U.length := by
  intro T U
  fun_induction mgE T U with
  | case1 => simp
  | case2 x T ih => simp only [List.length_cons, List.length_nil] at *; omega
  | case3 y U ih => simp only [List.length_cons, List.length_nil] at *; omega
  | case4 x T y U h1 ih => simp only [List.length_cons] at *; omega
  | case5 x T y U h1 h2 ih => simp only [List.length_cons] at *; omega
  | case6 x T y U h1 h2 ih =>
    rw [List.length_append]
    simp only [List.length_cons] at *
    split <;> simp <;> omega

def bk0 : Bk := ⟨[], [], [], [], 0⟩
def bk1 : Bk := ⟨[], [], [], [[3, 10]], 0⟩
theorem bk0_in : BkIn bk0 := ⟨fun x hx => by simp [bk0] at hx, fun x hx => by simp [bk0] at hx, fun x hx => by simp [bk0] at hx, fun x hx => by simp [bk0] at hx, by simp [bk0], by simp [bk0], by simp [bk0], by simp [bk0], by simp [bk0, inK]⟩
theorem bk1_in : BkIn bk1 := ⟨fun x hx => by simp [bk1] at hx, fun x hx => by simp [bk1] at hx, fun x hx => by simp [bk1] at hx, fun x hx => by
  simp only [bk1, List.mem_singleton] at hx; subst hx; exact ⟨rfl, fun y hy => by simp at hy; rcases hy with rfl | rfl <;> simp [inK]⟩, by simp [bk1], by simp [bk1], by simp [bk1], by simp [bk1], by simp [bk1, inK]⟩
theorem bk01 {T U : List YE} (hT : T.map YE.row = rowsB bk0) (hU : U.map YE.row = rowsB bk1) : (diffK T U (sort3 (keysT T U))).map chP = [((4, 3, 0), [], [10])] := by
  rw [diffK_eq (YOk.of hT (rowsB_ok bk0_in (by decide))) (YOk.of hU (rowsB_ok bk1_in (by decide)))]
  obtain ⟨x, rfl⟩ : ∃ x, T = [x] := by
    have h := congrArg List.length hT
    rcases T with _ | ⟨x, _ | ⟨y, T⟩⟩
    · simp [rowsB, bk0] at h
    · exact ⟨x, rfl⟩
    · simp [rowsB, bk0] at h
  obtain ⟨y, z, rfl⟩ : ∃ y z, U = [y, z] := by
    have h := congrArg List.length hU
    rcases U with _ | ⟨x, _ | ⟨y, _ | ⟨z, U⟩⟩⟩
    · simp [rowsB, bk1] at h
    · simp [rowsB, bk1] at h
    · exact ⟨x, y, rfl⟩
    · simp [rowsB, bk1] at h
  simp [rowsB, bk0, bk1, YE.row, r1, k0] at hT hU
  obtain ⟨hx, hxv⟩ := hT
  obtain ⟨⟨hy, hyv⟩, hz, hzv⟩ := hU
  rw [mgE, if_neg (by rw [hx, hy]; decide), if_pos (by rw [hx, hy]; decide), mgE, if_neg (by rw [hx, hz]; decide), if_neg (by rw [hx, hz]; decide), if_pos (by rw [hxv, hzv]), mgE]
  simp [chP, chI, hy, hyv]

def e01 (g : Nat) : ChE := ⟨(4, 3, 0), [], none, 0, [10], some ⟨g, 0, none⟩, 1⟩
theorem Try.alive14_w (w : World) : Fun Try.prog 30 [] w (.bool true) := by
  refine Tri.enter (bx := []) (hp := []) Try.func30 rfl (by kernel_rfl) rfl (Own.nil w) ?_
  refine At.run 100 true [] [] rfl (by (repeat' apply And.intro) <;> first | exact True.intro | omega | (simp only [inK]; omega) | (simp; done) | (simp; omega) | exact decide_eq_true (by omega) | exact decide_eq_false (by omega) | rfl | (simp [Value.oneCell']; done) | exact i64s_one _ | exact AggOk.mk (by kernel_rfl) (by kernel_rfl)) ?_
  refine At.step [] rfl rfl rfl rfl rfl trivial (OpOk.buildSlice rfl rfl rfl rfl rfl rfl rfl (fun bs hbs => ?_))
  refine At.run 100 true [] [] rfl (by (repeat' apply And.intro) <;> first | exact True.intro | omega | (simp only [inK]; omega) | (simp; done) | (simp; omega) | exact decide_eq_true (by omega) | exact decide_eq_false (by omega) | rfl | (simp [Value.oneCell']; done) | exact i64s_one _ | exact AggOk.mk (by kernel_rfl) (by kernel_rfl)) ?_
  refine At.step [] rfl rfl rfl rfl rfl trivial (OpOk.call (Q := Try.DiffR bk0 bk1) rfl (fun w' hw' => Try.Diff_w bk0 bk1 ⟨none, none, none, none, 0, 0, 0, 0⟩ ⟨none, none, none, some ⟨bs, 0, none⟩, 0, 0, 0, 1⟩ w' bk0_in bk1_in ⟨.inl rfl, .inl rfl, .inl rfl, .inl rfl⟩ ⟨.inl rfl, .inl rfl, .inl rfl, SlOk.blk (hw'.bx (bs, 121, i64s [3, 10]) (List.mem_cons_self ..))⟩) ?_)
  rintro v bx' hp' ⟨rfl, hR⟩
  rw [if_pos ⟨by decide, by decide⟩] at hR
  obtain ⟨T, U, g1, c1, hT, hU, rfl, rfl⟩ := hR
  have hD := bk01 hT hU
  generalize hDd : diffK T U (sort3 (keysT T U)) = D at *
  have hDl : D.length = 1 := by have := congrArg List.length hD; simpa using this
  refine At.run 100 true [true] [] rfl (by (repeat' apply And.intro) <;> first | exact True.intro | omega | (simp only [inK]; omega) | (simp; done) | (simp; omega) | exact decide_eq_true (by omega) | exact decide_eq_false (by omega) | rfl | (simp [Value.oneCell']; done) | exact i64s_one _ | exact AggOk.mk (by kernel_rfl) (by kernel_rfl)) ?_
  refine At.step [true] rfl rfl rfl rfl rfl rfl (OpOk.call rfl (fun w' hw' => Try.Plain_w D (svA g1) c1 w' (by omega) (SlOk.row (hw'.hp _ (List.mem_cons_self ..)))) ?_)
  rintro v bx' hp' ⟨rfl, g2, c2, rfl, rfl⟩
  refine At.run 100 true [true] [] rfl (by (repeat' apply And.intro) <;> first | exact True.intro | omega | (simp only [inK]; omega) | (simp; done) | (simp; omega) | exact decide_eq_true (by omega) | exact decide_eq_false (by omega) | rfl | (simp [Value.oneCell']; done) | exact i64s_one _ | exact AggOk.mk (by kernel_rfl) (by kernel_rfl)) ?_
  refine At.step [true] rfl rfl rfl rfl rfl rfl (OpOk.buildSlice rfl rfl rfl rfl rfl rfl rfl (fun b1 hb1 => ?_))
  refine At.run 100 true [true] [] rfl (by (repeat' apply And.intro) <;> first | exact True.intro | omega | (simp only [inK]; omega) | (simp; done) | (simp; omega) | exact decide_eq_true (by omega) | exact decide_eq_false (by omega) | rfl | (simp [Value.oneCell']; done) | exact i64s_one _ | exact AggOk.mk (by kernel_rfl) (by kernel_rfl)) ?_
  refine At.step [true] rfl rfl rfl rfl rfl rfl (OpOk.buildSlice rfl rfl rfl rfl rfl rfl rfl (fun b2 hb2 => ?_))
  have hS : CallOb Try.prog ⟨w, kys [] []⟩ [(b2, 123, chC (e01 b1)), (b1, 2, i64s [10]), (bs, 121, i64s [3, 10])] [Seg.row g2 123 5 D.length c2 (D.flatMap chC), Seg.row g1 132 5 D.length c1 (D.flatMap chC), Seg.pack (T.flatMap Try.yeB) [], Seg.pack (U.flatMap Try.yeB) []] 34 [sv g2 D.length c2, .slice (some ⟨b2, 0, none⟩) 1 1] (.bool true) := fun w' hw' => by
    have := Try.rSame14_w D [e01 b1] (svA g2) (some ⟨b2, 0, none⟩) c2 1 w' (by omega) (by simp) (SlOk.row (hw'.hp _ (List.mem_cons_self ..))) (SlOk.blk (hw'.bx (b2, 123, chC (e01 b1)) (List.mem_cons_self ..)))
      (by rw [← hDd]; exact Try.diffK_chl hw' (by simp) (by simp) hT hU bk0_in bk1_in _)
      (fun e he => by rw [List.mem_singleton] at he; subst he; exact ⟨.inl rfl, SlOk.blk (hw'.bx (b1, 2, i64s [10]) (by simp)), by simp [e01], by simp [e01]⟩)
    rw [hD, show [e01 b1].map chP = [((4, 3, 0), [], [10])] from rfl, decide_eq_true rfl] at this
    exact this
  refine At.run 100 true [true, true] [hC (.bool true)] rfl (by (repeat' apply And.intro) <;> first | exact hS | exact True.intro | omega | rfl | (simp only [inK]; omega) | exact decide_eq_true (by omega) | exact decide_eq_false (by omega) | (simp; done) | (simp; omega) | (simp [Value.oneCell']; done) | exact i64s_one _ | exact AggOk.mk (by kernel_rfl) (by kernel_rfl)) ?_
  exact At.retK [] [] [] rfl rfl Try.func30 rfl trivial ⟨rfl, rfl, rfl⟩

theorem Try.tells14_w (a b : Bk) (A B : BkA) (w : World) (hfa : BkFit a) (hfb : BkFit b) (hoa : BkOk w a A) (hob : BkOk w b B) : Fun Try.prog 7 [.agg ⟨bkV a A⟩, .agg ⟨bkV b B⟩] w (.bool true) := by
  refine Tri.enter (bx := []) (hp := []) Try.func7 rfl (by kernel_rfl) rfl (Own.nil w) ?_
  have hA : ∀ {bx : Bx} {hp : List Seg}, CallOb Try.prog ⟨w, kys [] []⟩ bx hp 30 [] (.bool true) := fun {_ _} w' _ => Try.alive14_w w'
  have hG : ∀ {bx : Bx} {hp : List Seg}, CallOb Try.prog ⟨w, kys [] []⟩ bx hp 31 [.agg ⟨bkV a A⟩] (.bool (greatB a)) := fun {_ _} w' _ => Try.great2_w a A w' hfa.l1 hfa.l2 hfa.l3 hfa.l4
  have hH : ∀ {bx : Bx} {hp : List Seg}, CallOb Try.prog ⟨w, kys [] []⟩ bx hp 31 [.agg ⟨bkV b B⟩] (.bool (greatB b)) := fun {_ _} w' _ => Try.great2_w b B w' hfb.l1 hfb.l2 hfb.l3 hfb.l4
  refine At.run 100 true [] [] rfl trivial ?_
  refine At.step [] rfl rfl rfl rfl rfl trivial (OpOk.box rfl rfl rfl fun bq hbq => ?_)
  refine At.step [] rfl rfl rfl rfl rfl trivial (OpOk.box rfl rfl rfl fun b3 hb3 => ?_)
  cases ga : greatB a with
  | true =>
    rw [ga] at hG
    refine At.run 100 true [false, true, true] [hC (.bool true), hB 1, hC (.bool true)] rfl (by (repeat' apply And.intro) <;> first | exact hA | exact hG | exact True.intro | omega | rfl | (simp only [inK]; omega) | exact decide_eq_true (by omega) | exact decide_eq_false (by omega) | (simp; done) | (simp; omega) | (simp [Value.oneCell']; done) | exact i64s_one _ | exact AggOk.mk (by kernel_rfl) (by kernel_rfl)) ?_
    exact At.retK [] [] [] rfl rfl Try.func7 rfl trivial ⟨rfl, rfl, rfl⟩
  | false =>
  rw [ga] at hG
  cases gb : greatB b with
  | true =>
    rw [gb] at hH
    refine At.run 100 true [false, false, true] [hC (.bool true), hB 1, hC (.bool false), hB 0, hC (.bool true)] rfl (by (repeat' apply And.intro) <;> first | exact hA | exact hG | exact hH | exact True.intro | omega | rfl | (simp only [inK]; omega) | exact decide_eq_true (by omega) | exact decide_eq_false (by omega) | (simp; done) | (simp; omega) | (simp [Value.oneCell']; done) | exact i64s_one _ | exact AggOk.mk (by kernel_rfl) (by kernel_rfl)) ?_
    exact At.retK [] [] [] rfl rfl Try.func7 rfl trivial ⟨rfl, rfl, rfl⟩
  | false =>
  rw [gb] at hH
  have hia := hfa.in ga
  have hib := hfb.in gb
  refine At.run 100 true [false, false, false] [hC (.bool true), hB 1, hC (.bool false), hB 0, hC (.bool false), hB 1, hB 0] rfl (by (repeat' apply And.intro) <;> first | exact hA | exact hG | exact hH | exact True.intro | omega | rfl | (simp only [inK]; omega) | exact decide_eq_true (by omega) | exact decide_eq_false (by omega) | (simp; done) | (simp; omega) | (simp [Value.oneCell']; done) | exact i64s_one _ | exact AggOk.mk (by kernel_rfl) (by kernel_rfl)) ?_
  refine At.step [] rfl rfl rfl rfl rfl trivial (OpOk.call (Q := Try.DiffR a b) rfl (fun w' hw' => Try.Diff_w a b A B w' hia hib (hoa.ext hw'.ext (by simp [kys])) (hob.ext hw'.ext (by simp [kys]))) ?_)
  rintro v bx' hp' ⟨rfl, hR⟩
  have hMa : ∀ {bx : Bx} {hp : List Seg}, CallOb Try.prog ⟨w, kys [] []⟩ bx hp 33 [.agg ⟨bkV a A⟩] (.bool (mayB a)) := fun {_ _} w' hw' => Try.rMay_w a A w' hia (hoa.ext hw'.ext (by simp [kys]))
  have hMb : ∀ {bx : Bx} {hp : List Seg}, CallOb Try.prog ⟨w, kys [] []⟩ bx hp 33 [.agg ⟨bkV b B⟩] (.bool (mayB b)) := fun {_ _} w' hw' => Try.rMay_w b B w' hib (hob.ext hw'.ext (by simp [kys]))
  cases ha : mayB a with
  | false =>
    rw [ha] at hMa
    rw [if_neg (by rw [ha]; simp)] at hR
    obtain ⟨rfl, rfl⟩ := hR
    refine At.run 100 true [true, true, true] [hB 1, hC (.bool false)] rfl (by (repeat' apply And.intro) <;> first | exact hMa | exact True.intro | omega | rfl | (simp only [inK]; omega) | exact decide_eq_true (by omega) | exact decide_eq_false (by omega) | (simp; done) | (simp; omega) | (simp [Value.oneCell']; done) | exact i64s_one _ | exact AggOk.mk (by kernel_rfl) (by kernel_rfl)) ?_
    exact At.retK [] [] [] rfl rfl Try.func7 rfl trivial ⟨rfl, rfl, rfl⟩
  | true =>
  rw [ha] at hMa
  cases hb : mayB b with
  | false =>
    rw [hb] at hMb
    rw [if_neg (by rw [hb]; simp)] at hR
    obtain ⟨rfl, rfl⟩ := hR
    refine At.run 100 true [false, true, true] [hB 1, hC (.bool true), hB 0, hC (.bool false)] rfl (by (repeat' apply And.intro) <;> first | exact hMa | exact hMb | exact True.intro | omega | rfl | (simp only [inK]; omega) | exact decide_eq_true (by omega) | exact decide_eq_false (by omega) | (simp; done) | (simp; omega) | (simp [Value.oneCell']; done) | exact i64s_one _ | exact AggOk.mk (by kernel_rfl) (by kernel_rfl)) ?_
    exact At.retK [] [] [] rfl rfl Try.func7 rfl trivial ⟨rfl, rfl, rfl⟩
  | true =>
  rw [hb] at hMb
  rw [if_pos ⟨ha, hb⟩] at hR
  obtain ⟨T, U, g1, c1, hT, hU, rfl, rfl⟩ := hR
  have hla : listsB a = true := by simp only [mayB, Bool.and_eq_true] at ha; exact ha.1
  have hlb : listsB b = true := by simp only [mayB, Bool.and_eq_true] at hb; exact hb.1
  have hyT := YOk.of hT (rowsB_ok hia hla)
  have hyU := YOk.of hU (rowsB_ok hib hlb)
  have hD := diffK_eq hyT hyU
  have hN := mgE_same hT hU hia hib hla hlb
  have hDl : (diffK T U (sort3 (keysT T U))).length = (mgE T U).length := by have := congrArg List.length hD; simpa using this
  have hml := mgE_len T U
  have htl := (rowsB_len hT hia).2
  have hul := (rowsB_len hU hib).2
  refine At.run 100 true [false, false] [hB 1, hC (.bool true), hB 0, hC (.bool true)] rfl (by (repeat' apply And.intro) <;> first | exact hMa | exact hMb | exact True.intro | omega | rfl | (simp only [inK]; omega) | exact decide_eq_true (by omega) | exact decide_eq_false (by omega) | (simp; done) | (simp; omega) | (simp [Value.oneCell']; done) | exact i64s_one _ | exact AggOk.mk (by kernel_rfl) (by kernel_rfl)) ?_
  generalize hDd : diffK T U (sort3 (keysT T U)) = D at *
  refine At.draw 20 rfl rfl rfl rfl ?_
  refine AtD.pures (ob := True) true (by kernel_rfl) [0, 1, 2] (fuel := 17) (by kernel_rfl) rfl (by (repeat' apply And.intro) <;> first | exact True.intro | omega | (simp only [inK]; omega) | (simp; done) | (simp; omega) | exact decide_eq_true (by omega) | exact decide_eq_false (by omega) | rfl | (simp [Value.oneCell']; done) | exact i64s_one _ | exact AggOk.mk (by kernel_rfl) (by kernel_rfl)) ?_
  refine AtD.pureG (fuel := 16) (i := 3) true [true] (by kernel_rfl) (by kernel_rfl) rfl rfl rfl rfl (by (repeat' apply And.intro) <;> first | exact True.intro | omega | (simp only [inK]; omega) | (simp; done) | (simp; omega) | exact decide_eq_true (by omega) | exact decide_eq_false (by omega) | rfl | (simp [Value.oneCell']; done) | exact i64s_one _ | exact AggOk.mk (by kernel_rfl) (by kernel_rfl)) rfl (by (repeat' apply And.intro) <;> first | exact True.intro | omega | (simp only [inK]; omega) | (simp; done) | (simp; omega) | exact decide_eq_true (by omega) | exact decide_eq_false (by omega) | rfl | (simp [Value.oneCell']; done) | exact i64s_one _ | exact AggOk.mk (by kernel_rfl) (by kernel_rfl)) ?_
  refine AtD.cutS (ι := Option Nat × Nat) 13 #[true, true, true, true, true, true, true, false, false, false, false, false, false, false, false, false, false, false, false, false]
    (fun q => [(38, .bool true), (40, sv q.1 D.length q.2), (41, .agg ⟨bkV a A⟩), (42, .agg ⟨bkV b B⟩), (5, sv g1 D.length c1), (2, .pointer (some ⟨bq, 0, none⟩)), (3, .pointer (some ⟨b3, 0, none⟩))]) (fun _ => [(b3, 63, bkV b B), (bq, 63, bkV a A)])
    (fun q => [Seg.row q.1 123 5 D.length q.2 (D.flatMap chC), Seg.row g1 132 5 D.length c1 (D.flatMap chC), Seg.pack (T.flatMap Try.yeB) [], Seg.pack (U.flatMap Try.yeB) []]) ?_ (fun hd => ?_)
  · rintro ⟨g2, c2⟩
    dsimp only
    refine AtD.fork1 7 (by kernel_rfl) (StepD.by [true] rfl rfl rfl rfl rfl (OpOk.call rfl (fun w' hw' => Try.rDiff_w a b A B w' hia hib (hoa.ext hw'.ext (by simp [kys])) (hob.ext hw'.ext (by simp [kys]))) ?_))
    rintro v bx' hp' ⟨rfl, T', U', g3, c3, hT', hU', rfl, rfl⟩
    have hyT' := YOk.of hT' (rowsB_ok hia hla)
    have hyU' := YOk.of hU' (rowsB_ok hib hlb)
    have hE := mgE_congr hyT hyU hyT' hyU' (hT.trans hT'.symm) (hU.trans hU'.symm)
    have hml' := mgE_len T' U'
    have htl' := (rowsB_len hT' hia).2
    have hul' := (rowsB_len hU' hib).2
    have hS : CallOb Try.prog ⟨w, kys [] []⟩ [(b3, 63, bkV b B), (bq, 63, bkV a A)] [Seg.row g3 123 5 (mgE T' U').length c3 ((mgE T' U').flatMap chC), Seg.pack (T'.flatMap Try.yeB) [], Seg.pack (U'.flatMap Try.yeB) [], Seg.row g2 123 5 D.length c2 (D.flatMap chC), Seg.row g1 132 5 D.length c1 (D.flatMap chC), Seg.pack (T.flatMap Try.yeB) [], Seg.pack (U.flatMap Try.yeB) []]
        34 [sv g2 D.length c2, sv g3 (mgE T' U').length c3] (.bool true) := fun w' hw' => by
      have := Try.rSame14_w D (mgE T' U') (svA g2) (svA g3) c2 c3 w' (by omega) (by omega) (SlOk.row (hw'.hp (Seg.row g2 123 5 D.length c2 (D.flatMap chC)) (by simp))) (SlOk.row (hw'.hp _ (List.mem_cons_self ..)))
        (by rw [← hDd]; exact Try.diffK_chl hw' (by simp) (by simp) hT hU hia hib _) (Try.mgE_chl hw' (by simp) (by simp) hT' hU' hia hib)
      rw [decide_eq_true (hD.trans hE)] at this
      exact this
    refine AtD.fork1 8 (by kernel_rfl) (StepD.by [true] rfl rfl rfl rfl rfl (OpOk.one true [] [hC (.bool true)] rfl (by (repeat' apply And.intro) <;> first | exact hS | exact True.intro | omega | rfl | (simp only [inK]; omega) | exact decide_eq_true (by omega) | exact decide_eq_false (by omega) | (simp; done) | (simp; omega) | (simp [Value.oneCell']; done) | exact i64s_one _ | exact AggOk.mk (by kernel_rfl) (by kernel_rfl)) ?_))
    have hX : ∀ {bx : Bx} {hp : List Seg}, CallOb Try.prog ⟨w, kys [] []⟩ bx hp 37 [.agg ⟨bkV a A⟩, .agg ⟨bkV b B⟩] (.bool (sameB a b)) := fun {_ _} w' hw' => Try.rSame_w a b A B w' hia hib (hoa.ext hw'.ext (by simp [kys])) (hob.ext hw'.ext (by simp [kys]))
    refine AtD.lex 9 11 0 true [true, true, true] [hB 1, hB 0, hC (.bool (sameB a b))] ⟨by kernel_rfl, by kernel_rfl, by kernel_rfl, rfl, by kernel_rfl, by kernel_rfl⟩ rfl rfl rfl (by (repeat' apply And.intro) <;> first | exact hX | exact True.intro | omega | rfl | (simp only [inK]; omega) | exact decide_eq_true (by omega) | exact decide_eq_false (by omega) | (simp; done) | (simp; omega) | (simp [Value.oneCell']; done) | exact i64s_one _ | exact AggOk.mk (by kernel_rfl) (by kernel_rfl)) (fun _ => by kernel_rfl) ?_
    refine AtD.done (by kernel_rfl) ?_
    refine At.run 100 true [] [] rfl (by (repeat' apply And.intro) <;> first | exact True.intro | omega | (simp only [inK]; omega) | (simp; done) | (simp; omega) | exact decide_eq_true (by omega) | exact decide_eq_false (by omega) | rfl | (simp [Value.oneCell']; done) | exact i64s_one _ | exact AggOk.mk (by kernel_rfl) (by kernel_rfl)) ?_
    refine At.retK [] [] [] rfl rfl Try.func7 rfl trivial ⟨?_, rfl, rfl⟩
    have hb2 : (decide ((D.length : Int) = 0) == sameB a b) = true := by
      rw [← hN, hDl, beq_iff_eq, decide_eq_decide]
      constructor
      · intro h; exact List.eq_nil_of_length_eq_zero (by omega)
      · intro h; rw [h]; rfl
    show Value.bool (decide ((D.length : Int) = 0) == sameB a b) = Value.bool true
    rw [hb2]
  refine AtD.fork3 4 5 6 (by kernel_rfl) ?_ ?_ ?_
  · refine StepD.by [true] rfl rfl rfl rfl rfl (OpOk.call rfl (fun w' hw' => Try.Plain_w D (svA g1) c1 w' (by omega) (SlOk.row (hw'.hp _ (List.mem_cons_self ..)))) ?_)
    rintro v bx' hp' ⟨rfl, g2, c2, rfl, rfl⟩
    refine AtD.fork2 5 6 (by kernel_rfl) ?_ ?_
    · refine StepD.by [true] rfl rfl rfl rfl rfl (OpOk.one true [] [hB 1] rfl (by (repeat' apply And.intro) <;> first | exact True.intro | omega | (simp only [inK]; omega) | (simp; done) | (simp; omega) | exact decide_eq_true (by omega) | exact decide_eq_false (by omega) | rfl | (simp [Value.oneCell']; done) | exact i64s_one _ | exact AggOk.mk (by kernel_rfl) (by kernel_rfl)) ?_)
      refine AtD.fork1 6 (by kernel_rfl) (StepD.by [true] rfl rfl rfl rfl rfl (OpOk.one true [] [hB 0] rfl (by (repeat' apply And.intro) <;> first | exact True.intro | omega | (simp only [inK]; omega) | (simp; done) | (simp; omega) | exact decide_eq_true (by omega) | exact decide_eq_false (by omega) | rfl | (simp [Value.oneCell']; done) | exact i64s_one _ | exact AggOk.mk (by kernel_rfl) (by kernel_rfl)) ?_))
      exact AtD.weak (hd ⟨g2, c2⟩) ⟨rfl, rfl, rfl, rfl, rfl, rfl, rfl, trivial⟩
    · refine StepD.by [true] rfl rfl rfl rfl rfl (OpOk.one true [] [hB 0] rfl (by (repeat' apply And.intro) <;> first | exact True.intro | omega | (simp only [inK]; omega) | (simp; done) | (simp; omega) | exact decide_eq_true (by omega) | exact decide_eq_false (by omega) | rfl | (simp [Value.oneCell']; done) | exact i64s_one _ | exact AggOk.mk (by kernel_rfl) (by kernel_rfl)) ?_)
      refine AtD.fork1 5 (by kernel_rfl) (StepD.by [true] rfl rfl rfl rfl rfl (OpOk.one true [] [hB 1] rfl (by (repeat' apply And.intro) <;> first | exact True.intro | omega | (simp only [inK]; omega) | (simp; done) | (simp; omega) | exact decide_eq_true (by omega) | exact decide_eq_false (by omega) | rfl | (simp [Value.oneCell']; done) | exact i64s_one _ | exact AggOk.mk (by kernel_rfl) (by kernel_rfl)) ?_))
      exact AtD.weak (hd ⟨g2, c2⟩) ⟨rfl, rfl, rfl, rfl, rfl, rfl, rfl, trivial⟩
  · refine StepD.by [true] rfl rfl rfl rfl rfl (OpOk.one true [] [hB 1] rfl (by (repeat' apply And.intro) <;> first | exact True.intro | omega | (simp only [inK]; omega) | (simp; done) | (simp; omega) | exact decide_eq_true (by omega) | exact decide_eq_false (by omega) | rfl | (simp [Value.oneCell']; done) | exact i64s_one _ | exact AggOk.mk (by kernel_rfl) (by kernel_rfl)) ?_)
    refine AtD.fork2 4 6 (by kernel_rfl) ?_ ?_
    · refine StepD.by [true] rfl rfl rfl rfl rfl (OpOk.call rfl (fun w' hw' => Try.Plain_w D (svA g1) c1 w' (by omega) (SlOk.row (hw'.hp _ (List.mem_cons_self ..)))) ?_)
      rintro v bx' hp' ⟨rfl, g2, c2, rfl, rfl⟩
      refine AtD.fork1 6 (by kernel_rfl) (StepD.by [true] rfl rfl rfl rfl rfl (OpOk.one true [] [hB 0] rfl (by (repeat' apply And.intro) <;> first | exact True.intro | omega | (simp only [inK]; omega) | (simp; done) | (simp; omega) | exact decide_eq_true (by omega) | exact decide_eq_false (by omega) | rfl | (simp [Value.oneCell']; done) | exact i64s_one _ | exact AggOk.mk (by kernel_rfl) (by kernel_rfl)) ?_))
      exact AtD.weak (hd ⟨g2, c2⟩) ⟨rfl, rfl, rfl, rfl, rfl, rfl, rfl, trivial⟩
    · refine StepD.by [true] rfl rfl rfl rfl rfl (OpOk.one true [] [hB 0] rfl (by (repeat' apply And.intro) <;> first | exact True.intro | omega | (simp only [inK]; omega) | (simp; done) | (simp; omega) | exact decide_eq_true (by omega) | exact decide_eq_false (by omega) | rfl | (simp [Value.oneCell']; done) | exact i64s_one _ | exact AggOk.mk (by kernel_rfl) (by kernel_rfl)) ?_)
      refine AtD.fork1 4 (by kernel_rfl) (StepD.by [true] rfl rfl rfl rfl rfl (OpOk.call rfl (fun w' hw' => Try.Plain_w D (svA g1) c1 w' (by omega) (SlOk.row (hw'.hp _ (List.mem_cons_self ..)))) ?_))
      rintro v bx' hp' ⟨rfl, g2, c2, rfl, rfl⟩
      exact AtD.weak (hd ⟨g2, c2⟩) ⟨rfl, rfl, rfl, rfl, rfl, rfl, rfl, trivial⟩
  · refine StepD.by [true] rfl rfl rfl rfl rfl (OpOk.one true [] [hB 0] rfl (by (repeat' apply And.intro) <;> first | exact True.intro | omega | (simp only [inK]; omega) | (simp; done) | (simp; omega) | exact decide_eq_true (by omega) | exact decide_eq_false (by omega) | rfl | (simp [Value.oneCell']; done) | exact i64s_one _ | exact AggOk.mk (by kernel_rfl) (by kernel_rfl)) ?_)
    refine AtD.fork2 4 5 (by kernel_rfl) ?_ ?_
    · refine StepD.by [true] rfl rfl rfl rfl rfl (OpOk.call rfl (fun w' hw' => Try.Plain_w D (svA g1) c1 w' (by omega) (SlOk.row (hw'.hp _ (List.mem_cons_self ..)))) ?_)
      rintro v bx' hp' ⟨rfl, g2, c2, rfl, rfl⟩
      refine AtD.fork1 5 (by kernel_rfl) (StepD.by [true] rfl rfl rfl rfl rfl (OpOk.one true [] [hB 1] rfl (by (repeat' apply And.intro) <;> first | exact True.intro | omega | (simp only [inK]; omega) | (simp; done) | (simp; omega) | exact decide_eq_true (by omega) | exact decide_eq_false (by omega) | rfl | (simp [Value.oneCell']; done) | exact i64s_one _ | exact AggOk.mk (by kernel_rfl) (by kernel_rfl)) ?_))
      exact AtD.weak (hd ⟨g2, c2⟩) ⟨rfl, rfl, rfl, rfl, rfl, rfl, rfl, trivial⟩
    · refine StepD.by [true] rfl rfl rfl rfl rfl (OpOk.one true [] [hB 1] rfl (by (repeat' apply And.intro) <;> first | exact True.intro | omega | (simp only [inK]; omega) | (simp; done) | (simp; omega) | exact decide_eq_true (by omega) | exact decide_eq_false (by omega) | rfl | (simp [Value.oneCell']; done) | exact i64s_one _ | exact AggOk.mk (by kernel_rfl) (by kernel_rfl)) ?_)
      refine AtD.fork1 4 (by kernel_rfl) (StepD.by [true] rfl rfl rfl rfl rfl (OpOk.call rfl (fun w' hw' => Try.Plain_w D (svA g1) c1 w' (by omega) (SlOk.row (hw'.hp _ (List.mem_cons_self ..)))) ?_))
      rintro v bx' hp' ⟨rfl, g2, c2, rfl, rfl⟩
      exact AtD.weak (hd ⟨g2, c2⟩) ⟨rfl, rfl, rfl, rfl, rfl, rfl, rfl, trivial⟩
end Go.Proofs

/-
  Plain laws of two books' changes: both ways of finding them tell the same.
-/
import Derived.Test.YtfpoclhenokhhaaDoorM21
import Derived.Test.YtfpoclhenokhhaaDoorM22
/-
  Plain laws of two books' changes: both ways of finding them tell the same.
-/
namespace Go.Proofs
open Go Go.Eng
set_option maxRecDepth 100000
set_option maxHeartbeats 4000000
attribute [local irreducible] Tri

abbrev ChP := K3T × List Int × List Int
theorem strict_eq {α : Type} {lt : α → α → Prop} (hi : ∀ x, ¬ lt x x) (ht : ∀ x y z, lt x y → lt y z → lt x z) : ∀ {l1 l2 : List α}, l1.Pairwise lt → l2.Pairwise lt → (∀ x, x ∈ l1 ↔ x ∈ l2) → l1 = l2
  | [], [], _, _, _ => rfl
  | [], y :: l2, _, _, h => by have := (h y).2 (List.mem_cons_self ..); cases this
  | x :: l1, [], _, _, h => by have := (h x).1 (List.mem_cons_self ..); cases this
  | x :: l1, y :: l2, h1, h2, h => by
    rw [List.pairwise_cons] at h1 h2
    have hxy : x = y := by
      rcases List.mem_cons.1 ((h x).1 (List.mem_cons_self ..)) with e | hx
      · exact e
      · rcases List.mem_cons.1 ((h y).2 (List.mem_cons_self ..)) with e | hy
        · exact e.symm
        · exact (hi _ (ht _ _ _ (h1.1 y hy) (h2.1 x hx))).elim
    subst hxy
    rw [strict_eq hi ht h1.2 h2.2 fun z => ⟨fun hz => ?_, fun hz => ?_⟩]
    · rcases List.mem_cons.1 ((h z).1 (List.mem_cons_of_mem _ hz)) with e | hz2
      · subst e; exact (hi _ (h1.1 _ hz)).elim
      · exact hz2
    · rcases List.mem_cons.1 ((h z).2 (List.mem_cons_of_mem _ hz)) with e | hz2
      · subst e; exact (hi _ (h2.1 _ hz)).elim
      · exact hz2

/-- Rows whose keys rise, and which have values. -/
structure YOk (T : List YE) : Prop where
  ris : T.Pairwise fun x y => lt3 x.k y.k
  ne : ∀ x, x ∈ T → x.v ≠ []
theorem YOk.tail {x : YE} {T : List YE} (h : YOk (x :: T)) : YOk T := ⟨(List.pairwise_cons.1 h.ris).2, fun y hy => h.ne y (List.mem_cons_of_mem _ hy)⟩
theorem YOk.lt {x : YE} {T : List YE} (h : YOk (x :: T)) : ∀ y, y ∈ T → lt3 x.k y.k := (List.pairwise_cons.1 h.ris).1
theorem YOk.of {T : List YE} {b : Bk} (hT : T.map YE.row = rowsB b) (h : RowsOk (rowsB b)) : YOk T := by
  rw [← hT] at h
  refine ⟨?_, fun x hx => h.ne x.row (List.mem_map_of_mem hx)⟩
  have := h.ris
  rw [List.pairwise_map] at this
  exact this
theorem getT_cons (x : YE) (T : List YE) (k : K3T) : getT (x :: T) k = if x.k = k then x.v else getT T k := by
  unfold getT
  rw [List.find?_cons]
  by_cases h : x.k = k
  · rw [if_pos h, decide_eq_true h]
  · rw [if_neg h, decide_eq_false h]
theorem getT_far {T : List YE} {k : K3T} (h : ∀ x, x ∈ T → lt3 k x.k) : getT T k = [] := by
  unfold getT
  cases hf : T.find? (fun x => decide (x.k = k)) with
  | none => rfl
  | some x => exact (lt3_ne (h x (find_k hf).1) (find_k hf).2.symm).elim
theorem getT_mem {T : List YE} (h : YOk T) {x : YE} (hx : x ∈ T) : getT T x.k = x.v := by
  induction T with
  | nil => cases hx
  | cons y T ih =>
    rw [getT_cons]
    rcases List.mem_cons.1 hx with rfl | hx
    · rw [if_pos rfl]
    · rw [if_neg (lt3_ne (h.lt x hx)), ih h.tail hx]
theorem getT_row {T : List YE} (h : YOk T) (k : K3T) (v : List Int) : (k, v) ∈ T.map YE.row ↔ getT T k = v ∧ v ≠ [] := by
  constructor
  · intro hm
    obtain ⟨x, hx, e⟩ := List.mem_map.1 hm
    have e1 : x.k = k := congrArg Prod.fst e
    have e2 : x.v = v := congrArg Prod.snd e
    subst e1 e2
    exact ⟨getT_mem h hx, h.ne x hx⟩
  · rintro ⟨rfl, hv⟩
    unfold getT at *
    cases hf : T.find? (fun x => decide (x.k = k)) with
    | none => rw [hf] at hv; exact (hv rfl).elim
    | some x =>
      have h1 := find_k hf
      exact List.mem_map.2 ⟨x, h1.1, by show (x.k, x.v) = _; rw [h1.2]⟩
/-- What a key's change is. -/
def IsCh (T U : List YE) (e : ChP) : Prop := e.2.1 = getT T e.1 ∧ e.2.2 = getT U e.1 ∧ e.2.1 ≠ e.2.2
theorem mgE_mem : ∀ (T U : List YE), YOk T → YOk U → ∀ e : ChP, e ∈ (mgE T U).map chP ↔ IsCh T U e := by
  intro T U
  fun_induction mgE T U with
  | case1 => intro _ _ e; simp [IsCh, getT]; exact fun h1 h2 => h1.trans h2.symm
  | case2 x T ih =>
    intro hT hU e
    have h0 : getT ([] : List YE) e.1 = [] := rfl
    have hx : getT T x.k = [] := getT_far hT.lt
    have hne := hT.ne x (List.mem_cons_self ..)
    obtain ⟨k, a, b⟩ := e
    rw [List.map_cons, List.mem_cons, ih hT.tail hU]
    simp only [IsCh, getT_cons, chP, chW, Prod.mk.injEq] at *
    by_cases hk : x.k = k
    · subst hk
      simp only [true_and, if_true, hx, h0]
      constructor
      · rintro (⟨rfl, rfl⟩ | ⟨rfl, rfl, h⟩)
        · exact ⟨rfl, rfl, hne⟩
        · exact (h rfl).elim
      · rintro ⟨rfl, rfl, h⟩
        exact .inl ⟨rfl, rfl⟩
    · simp only [if_neg hk, Ne.symm hk, false_and, false_or]
  | case3 y U ih =>
    intro hT hU e
    have h0 : getT ([] : List YE) e.1 = [] := rfl
    have hx : getT U y.k = [] := getT_far hU.lt
    have hne := hU.ne y (List.mem_cons_self ..)
    obtain ⟨k, a, b⟩ := e
    rw [List.map_cons, List.mem_cons, ih hT hU.tail]
    simp only [IsCh, getT_cons, chP, chI, Prod.mk.injEq] at *
    by_cases hk : y.k = k
    · subst hk
      simp only [true_and, if_true, hx, h0]
      constructor
      · rintro (⟨rfl, rfl⟩ | ⟨rfl, rfl, h⟩)
        · exact ⟨rfl, rfl, hne.symm⟩
        · exact (h rfl).elim
      · rintro ⟨rfl, rfl, h⟩
        exact .inl ⟨rfl, rfl⟩
    · simp only [if_neg hk, Ne.symm hk, false_and, false_or]
  | case4 x T y U h1 ih =>
    intro hT hU e
    have hx : getT T x.k = [] := getT_far hT.lt
    have hy : getT (y :: U) x.k = [] := getT_far fun z hz => by
      rcases List.mem_cons.1 hz with rfl | hz
      · exact h1
      · exact lt3_trans h1 (hU.lt z hz)
    have hne := hT.ne x (List.mem_cons_self ..)
    obtain ⟨k, a, b⟩ := e
    rw [List.map_cons, List.mem_cons, ih hT.tail hU]
    simp only [IsCh, getT_cons x T, chP, chW, Prod.mk.injEq] at *
    by_cases hk : x.k = k
    · subst hk
      simp only [true_and, if_true, hx, hy]
      constructor
      · rintro (⟨rfl, rfl⟩ | ⟨rfl, rfl, h⟩)
        · exact ⟨rfl, rfl, hne⟩
        · exact (h rfl).elim
      · rintro ⟨rfl, rfl, h⟩
        exact .inl ⟨rfl, rfl⟩
    · simp only [if_neg hk, Ne.symm hk, false_and, false_or]
  | case5 x T y U h1 h2 ih =>
    intro hT hU e
    have hy : getT U y.k = [] := getT_far hU.lt
    have hx : getT (x :: T) y.k = [] := getT_far fun z hz => by
      rcases List.mem_cons.1 hz with rfl | hz
      · exact h2
      · exact lt3_trans h2 (hT.lt z hz)
    have hne := hU.ne y (List.mem_cons_self ..)
    obtain ⟨k, a, b⟩ := e
    rw [List.map_cons, List.mem_cons, ih hT hU.tail]
    simp only [IsCh, getT_cons y U, chP, chI, Prod.mk.injEq] at *
    by_cases hk : y.k = k
    · subst hk
      simp only [true_and, if_true, hx, hy]
      constructor
      · rintro (⟨rfl, rfl⟩ | ⟨rfl, rfl, h⟩)
        · exact ⟨rfl, rfl, hne.symm⟩
        · exact (h rfl).elim
      · rintro ⟨rfl, rfl, h⟩
        exact .inl ⟨rfl, rfl⟩
    · simp only [if_neg hk, Ne.symm hk, false_and, false_or]
  | case6 x T y U h1 h2 ih =>
    intro hT hU e
    have hk0 : x.k = y.k := by
      rcases lt3_tri x.k y.k with h | h | h
      · exact (h1 h).elim
      · exact h
      · exact (h2 h).elim
    have hx : getT T x.k = [] := getT_far hT.lt
    have hy : getT U x.k = [] := by rw [hk0]; exact getT_far hU.lt
    obtain ⟨k, a, b⟩ := e
    rw [List.map_append, List.mem_append, ih hT.tail hU.tail]
    simp only [IsCh, getT_cons, ← hk0] at *
    by_cases hk : x.k = k
    · subst hk
      simp only [if_true, hx, hy]
      by_cases h3 : x.v = y.v
      · rw [if_pos h3]
        constructor
        · rintro (h | ⟨rfl, rfl, h⟩)
          · cases h
          · exact (h rfl).elim
        · rintro ⟨rfl, rfl, h⟩
          exact (h h3).elim
      · rw [if_neg h3]
        simp only [List.map_cons, List.map_nil, List.mem_singleton, chP, chB, Prod.mk.injEq, true_and]
        constructor
        · rintro (⟨rfl, rfl⟩ | ⟨rfl, rfl, h⟩)
          · exact ⟨rfl, rfl, h3⟩
          · exact (h rfl).elim
        · rintro ⟨rfl, rfl, h⟩
          exact .inl ⟨rfl, rfl⟩
    · have : ¬ ((k, a, b) ∈ (if x.v = y.v then ([] : List ChE) else [chB x y]).map chP) := by
        split
        · simp
        · simp only [List.map_cons, List.map_nil, List.mem_singleton, chP, chB, Prod.mk.injEq, not_and]
          intro h; exact (hk h.symm).elim
      simp only [if_neg hk, this, false_or]
theorem mgE_ris : ∀ (T U : List YE), YOk T → YOk U → ((mgE T U).map chP).Pairwise fun p q => lt3 p.1 q.1 := by
  have far : ∀ {T U : List YE} {k : K3T}, YOk T → YOk U → (∀ x, x ∈ T → lt3 k x.k) → (∀ y, y ∈ U → lt3 k y.k) → ∀ p, p ∈ (mgE T U).map chP → lt3 k p.1 := by
    intro T U k hT hU h1 h2 p hp
    obtain ⟨e1, e2, e3⟩ := (mgE_mem T U hT hU p).1 hp
    by_cases h : getT T p.1 = []
    · have hne : getT U p.1 ≠ [] := fun h' => e3 (by rw [e1, e2, h, h'])
      obtain ⟨x, hx, e⟩ := List.mem_map.1 ((getT_row hU p.1 _).2 ⟨rfl, hne⟩)
      rw [← show x.k = p.1 from congrArg Prod.fst e]; exact h2 x hx
    · obtain ⟨x, hx, e⟩ := List.mem_map.1 ((getT_row hT p.1 _).2 ⟨rfl, h⟩)
      rw [← show x.k = p.1 from congrArg Prod.fst e]; exact h1 x hx
  intro T U
  fun_induction mgE T U with
  | case1 => intro _ _; exact List.Pairwise.nil
  | case2 x T ih =>
    intro hT hU
    rw [List.map_cons, List.pairwise_cons]
    exact ⟨far hT.tail hU hT.lt (fun _ h => by cases h), ih hT.tail hU⟩
  | case3 y U ih =>
    intro hT hU
    rw [List.map_cons, List.pairwise_cons]
    exact ⟨far hT hU.tail (fun _ h => by cases h) hU.lt, ih hT hU.tail⟩
  | case4 x T y U h1 ih =>
    intro hT hU
    rw [List.map_cons, List.pairwise_cons]
    refine ⟨far hT.tail hU hT.lt fun z hz => ?_, ih hT.tail hU⟩
    rcases List.mem_cons.1 hz with rfl | hz
    · exact h1
    · exact lt3_trans h1 (hU.lt z hz)
  | case5 x T y U h1 h2 ih =>
    intro hT hU
    rw [List.map_cons, List.pairwise_cons]
    refine ⟨far hT hU.tail (fun z hz => ?_) hU.lt, ih hT hU.tail⟩
    rcases List.mem_cons.1 hz with rfl | hz
    · exact h2
    · exact lt3_trans h2 (hT.lt z hz)
  | case6 x T y U h1 h2 ih =>
    intro hT hU
    have hk0 : x.k = y.k := by
      rcases lt3_tri x.k y.k with h | h | h
      · exact (h1 h).elim
      · exact h
      · exact (h2 h).elim
    split
    · exact ih hT.tail hU.tail
    · rw [List.map_append, List.map_cons, List.map_nil, List.singleton_append, List.pairwise_cons]
      exact ⟨far hT.tail hU.tail hT.lt (by rw [show (chP (chB x y)).1 = y.k from hk0]; exact hU.lt), ih hT.tail hU.tail⟩
theorem sort3_ris {ks : List K3T} (hn : ks.Nodup) : (sort3 ks).Pairwise lt3 := by
  have hle : ∀ x y : K3T, (!(_root_.Go.Proofs.ltOf cf3) y x) = true ↔ ¬ lt3 y x := fun x y => by rw [cf3_b]; simp
  have hp : (sort3 ks).Pairwise fun x y => ¬ lt3 y x := by
    refine (List.pairwise_mergeSort (fun a b c h1 h2 => ?_) (fun a b => ?_) ks).imp (fun h => (hle _ _).1 h)
    · rw [hle] at *
      intro h
      rcases lt3_tri b c with h3 | h3 | h3
      · exact h1 (lt3_trans h3 h)
      · subst h3; exact h1 h
      · exact h2 h3
    · rw [Bool.or_eq_true, hle, hle]
      rcases lt3_tri a b with h3 | h3 | h3
      · exact .inl fun h => lt3_irrefl _ (lt3_trans h3 h)
      · subst h3; exact .inl (lt3_irrefl _)
      · exact .inr fun h => lt3_irrefl _ (lt3_trans h3 h)
  have hn2 : (sort3 ks).Nodup := (List.mergeSort_perm ks _).nodup_iff.2 hn
  refine (List.pairwise_and_iff.2 ⟨hp, hn2⟩).imp fun h => ?_
  rcases lt3_tri _ _ with h3 | h3 | h3
  · exact h3
  · exact (h.2 h3).elim
  · exact (h.1 h3).elim
theorem YOk.nodup {T : List YE} (h : YOk T) : (T.map (·.k)).Nodup := by
  rw [List.nodup_iff_pairwise_ne, List.pairwise_map]
  exact h.ris.imp fun h => lt3_ne h
theorem hasT_iff {T : List YE} {k : K3T} : hasT T k = true ↔ k ∈ T.map (·.k) := by
  unfold hasT
  rw [List.find?_isSome]
  constructor
  · rintro ⟨x, hx, e⟩
    exact List.mem_map.2 ⟨x, hx, by simpa using e⟩
  · intro h
    obtain ⟨x, hx, e⟩ := List.mem_map.1 h
    exact ⟨x, hx, by simpa using e⟩
theorem keysT_nodup {T U : List YE} (hT : YOk T) (hU : YOk U) : (keysT T U).Nodup := by
  unfold keysT
  rw [List.nodup_append]
  refine ⟨hT.nodup, ?_, ?_⟩
  · rw [List.nodup_iff_pairwise_ne, List.pairwise_map]
    exact (hU.ris.filter _).imp fun h => lt3_ne h
  · intro a ha b hb e
    subst e
    obtain ⟨x, hx, rfl⟩ := List.mem_map.1 hb
    rw [List.mem_filter] at hx
    have := hasT_iff.2 ha
    rw [this] at hx
    exact absurd hx.2 (by simp)
theorem keysT_mem {T U : List YE} {k : K3T} : k ∈ keysT T U ↔ k ∈ T.map (·.k) ∨ k ∈ U.map (·.k) := by
  unfold keysT
  rw [List.mem_append]
  constructor
  · rintro (h | h)
    · exact .inl h
    · obtain ⟨x, hx, rfl⟩ := List.mem_map.1 h
      exact .inr (List.mem_map_of_mem (List.mem_filter.1 hx).1)
  · rintro (h | h)
    · exact .inl h
    · cases hh : hasT T k with
      | true => exact .inl (hasT_iff.1 hh)
      | false =>
        obtain ⟨x, hx, rfl⟩ := List.mem_map.1 h
        exact .inr (List.mem_map.2 ⟨x, List.mem_filter.2 ⟨hx, by rw [hh]; rfl⟩, rfl⟩)
theorem getT_key {T : List YE} {k : K3T} (h : getT T k ≠ []) : k ∈ T.map (·.k) := by
  unfold getT at h
  cases hf : T.find? (fun x => decide (x.k = k)) with
  | none => rw [hf] at h; exact (h rfl).elim
  | some x => exact List.mem_map.2 ⟨x, (find_k hf).1, (find_k hf).2⟩
theorem diffK_eq {T U : List YE} (hT : YOk T) (hU : YOk U) : (diffK T U (sort3 (keysT T U))).map chP = (mgE T U).map chP := by
  refine strict_eq (lt := fun p q : ChP => lt3 p.1 q.1) (fun _ => lt3_irrefl _) (fun _ _ _ => lt3_trans) ?_ (mgE_ris T U hT hU) fun e => ?_
  · unfold diffK
    rw [List.map_map, List.pairwise_map]
    exact ((sort3_ris (keysT_nodup hT hU)).filter _).imp fun h => h
  · rw [mgE_mem T U hT hU, IsCh]
    unfold diffK
    rw [List.map_map, List.mem_map]
    constructor
    · rintro ⟨k, hk, rfl⟩
      have := (List.mem_filter.1 hk).2
      refine ⟨rfl, rfl, fun h => ?_⟩
      have h' : getT T k = getT U k := h
      rw [h'] at this
      simp at this
    · obtain ⟨k, a, b⟩ := e
      rintro ⟨h1, h2, h⟩
      obtain rfl : a = getT T k := h1
      obtain rfl : b = getT U k := h2
      refine ⟨k, List.mem_filter.2 ⟨(List.mergeSort_perm _ _).mem_iff.2 (keysT_mem.2 ?_), ?_⟩, rfl⟩
      · by_cases h1 : getT T k = []
        · exact .inr (getT_key fun h2 => h (by show getT T k = getT U k; rw [h1, h2]))
        · exact .inl (getT_key h1)
      · rw [decide_eq_false h]; rfl
theorem mgE_nil {T U : List YE} (hT : YOk T) (hU : YOk U) : mgE T U = [] ↔ T.map YE.row = U.map YE.row := by
  have hr : ∀ {V : List YE}, YOk V → (V.map YE.row).Pairwise fun p q => lt3 p.1 q.1 := fun h => List.pairwise_map.2 h.ris
  constructor
  · intro h
    refine strict_eq (lt := fun p q : RowB => lt3 p.1 q.1) (fun _ => lt3_irrefl _) (fun _ _ _ => lt3_trans) (hr hT) (hr hU) fun e => ?_
    obtain ⟨k, v⟩ := e
    rw [getT_row hT, getT_row hU]
    have hk : getT T k = getT U k := Classical.byContradiction fun hne => by
      have := (mgE_mem T U hT hU (k, getT T k, getT U k)).2 ⟨rfl, rfl, hne⟩
      rw [h] at this; cases this
    rw [hk]
  · intro h
    have hk : ∀ k, getT T k = getT U k := fun k => by
      by_cases h1 : getT T k = []
      · by_cases h2 : getT U k = []
        · rw [h1, h2]
        · have := (getT_row hU k _).2 ⟨rfl, h2⟩
          rw [← h, getT_row hT] at this
          exact this.1
      · have := (getT_row hT k _).2 ⟨rfl, h1⟩
        rw [h, getT_row hU] at this
        exact this.1.symm
    cases hm : mgE T U with
    | nil => rfl
    | cons e l =>
      have := (mgE_mem T U hT hU (chP e)).1 (by rw [hm]; exact List.mem_map_of_mem (List.mem_cons_self ..))
      exact (this.2.2 (by rw [this.1, this.2.1, hk])).elim

theorem getT_congr {T T' : List YE} (hT : YOk T) (hT' : YOk T') (h : T.map YE.row = T'.map YE.row) (k : K3T) : getT T k = getT T' k := by
  by_cases h1 : getT T k = []
  · by_cases h2 : getT T' k = []
    · rw [h1, h2]
    · have := (getT_row hT' k _).2 ⟨rfl, h2⟩
      rw [← h, getT_row hT] at this
      exact this.1
  · have := (getT_row hT k _).2 ⟨rfl, h1⟩
    rw [h, getT_row hT'] at this
    exact this.1.symm
theorem mgE_congr {T U T' U' : List YE} (hT : YOk T) (hU : YOk U) (hT' : YOk T') (hU' : YOk U') (h : T.map YE.row = T'.map YE.row) (k : U.map YE.row = U'.map YE.row) : (mgE T U).map chP = (mgE T' U').map chP :=
  strict_eq (lt := fun p q : ChP => lt3 p.1 q.1) (fun _ => lt3_irrefl _) (fun _ _ _ => lt3_trans) (mgE_ris T U hT hU) (mgE_ris T' U' hT' hU') fun e => by
    rw [mgE_mem T U hT hU, mgE_mem T' U' hT' hU', IsCh, IsCh, getT_congr hT hT' h, getT_congr hU hU' k]

/-- Rows that are alike are of books that are alike. -/
theorem r1_inj {l : Int} {sz : Nat} (hs : 0 < sz) : ∀ {A B : List (List Int)}, (∀ x, x ∈ A → x.length = sz) → (∀ x, x ∈ B → x.length = sz) → A.map (r1 l) = B.map (r1 l) → A = B
  | [], [], _, _, _ => rfl
  | [], _ :: _, _, _, h => by simp at h
  | _ :: _, [], _, _, h => by simp at h
  | x :: A, y :: B, hA, hB, h => by
    simp only [List.map_cons, List.cons.injEq, r1, Prod.mk.injEq, true_and, and_true] at h
    have hx := hA x (List.mem_cons_self ..)
    have hy := hB y (List.mem_cons_self ..)
    have e : x = y := by
      match x, y, h.1 with
      | [], _, _ => simp only [List.length_nil] at hx; omega
      | _ :: _, [], _ => simp only [List.length_nil] at hy; omega
      | a :: x, b :: y, h1 => simpa [k0] using h1
    rw [e, r1_inj hs (fun z hz => hA z (List.mem_cons_of_mem _ hz)) (fun z hz => hB z (List.mem_cons_of_mem _ hz)) h.2]
theorem r2_inj : ∀ {A B : List (List Int)}, (∀ x, x ∈ A → x.length = 3) → (∀ x, x ∈ B → x.length = 3) → A.map r2 = B.map r2 → A = B
  | [], [], _, _, _ => rfl
  | [], _ :: _, _, _, h => by simp at h
  | _ :: _, [], _, _, h => by simp at h
  | x :: A, y :: B, hA, hB, h => by
    simp only [List.map_cons, List.cons.injEq, r2, Prod.mk.injEq, true_and] at h
    have hx := hA x (List.mem_cons_self ..)
    have hy := hB y (List.mem_cons_self ..)
    have e : x = y := by
      obtain ⟨a, b, c, rfl⟩ := len3 hx
      obtain ⟨a', b', c', rfl⟩ := len3 hy
      simpa [k0, k1, and_assoc] using h.1
    rw [e, r2_inj (fun z hz => hA z (List.mem_cons_of_mem _ hz)) (fun z hz => hB z (List.mem_cons_of_mem _ hz)) h.2]
theorem fil_all {l : Int} {A : List RowB} (h : ∀ p, p ∈ A → p.1.1 = l) : A.filter (fun p => decide (p.1.1 = l)) = A := List.filter_eq_self.2 fun p hp => decide_eq_true (h p hp)
theorem fil_none {l : Int} {A : List RowB} (h : ∀ p, p ∈ A → p.1.1 ≠ l) : A.filter (fun p => decide (p.1.1 = l)) = [] := List.filter_eq_nil_iff.2 fun p hp => by simpa using h p hp
theorem r1_list {l : Int} {A : List (List Int)} : ∀ p, p ∈ A.map (r1 l) → p.1.1 = l := fun p hp => by obtain ⟨x, -, rfl⟩ := List.mem_map.1 hp; rfl
theorem r2_list {A : List (List Int)} : ∀ p, p ∈ A.map r2 → p.1.1 = 2 := fun p hp => by obtain ⟨x, -, rfl⟩ := List.mem_map.1 hp; rfl
theorem rowsB_fil (b : Bk) : (rowsB b).filter (fun p => decide (p.1.1 = 1)) = b.H.map (r1 1) ∧ (rowsB b).filter (fun p => decide (p.1.1 = 2)) = b.S.map r2 ∧ (rowsB b).filter (fun p => decide (p.1.1 = 3)) = b.O.map (r1 3) ∧ (rowsB b).filter (fun p => decide (p.1.1 = 4)) = b.R.map (r1 4) ∧ (rowsB b).filter (fun p => decide (p.1.1 = 5)) = [((5, 0, 0), [b.c])] := by
  have n1 : ∀ {l m : Int} {A : List (List Int)}, l ≠ m → (A.map (r1 l)).filter (fun p => decide (p.1.1 = m)) = [] := fun h => fil_none fun p hp => by rw [r1_list p hp]; exact h
  have n2 : ∀ {m : Int} {A : List (List Int)}, 2 ≠ m → (A.map r2).filter (fun p => decide (p.1.1 = m)) = [] := fun h => fil_none fun p hp => by rw [r2_list p hp]; exact h
  have y1 : ∀ {l : Int} {A : List (List Int)}, (A.map (r1 l)).filter (fun p => decide (p.1.1 = l)) = A.map (r1 l) := fil_all r1_list
  have y2 : ∀ {A : List (List Int)}, (A.map r2).filter (fun p => decide (p.1.1 = 2)) = A.map r2 := fil_all r2_list
  refine ⟨?_, ?_, ?_, ?_, ?_⟩ <;> simp only [rowsB, List.filter_append]
  · rw [y1, n2 (by decide), n1 (by decide), n1 (by decide)]; simp
  · rw [n1 (by decide), y2, n1 (by decide), n1 (by decide)]; simp
  · rw [n1 (by decide), n2 (by decide), y1, n1 (by decide)]; simp
  · rw [n1 (by decide), n2 (by decide), n1 (by decide), y1]; simp
  · rw [n1 (by decide), n2 (by decide), n1 (by decide), n1 (by decide)]; simp
theorem rowsB_inj {a b : Bk} (ha : BkIn a) (hb : BkIn b) (h : rowsB a = rowsB b) : a.H = b.H ∧ a.S = b.S ∧ a.O = b.O ∧ a.R = b.R ∧ a.c = b.c := by
  obtain ⟨a1, a2, a3, a4, a5⟩ := rowsB_fil a
  obtain ⟨b1, b2, b3, b4, b5⟩ := rowsB_fil b
  rw [h] at a1 a2 a3 a4 a5
  refine ⟨r1_inj (by omega) (fun x hx => (ha.r1 x hx).1) (fun x hx => (hb.r1 x hx).1) (a1.symm.trans b1), r2_inj (fun x hx => (ha.r2 x hx).1) (fun x hx => (hb.r2 x hx).1) (a2.symm.trans b2), r1_inj (by omega) (fun x hx => (ha.r3 x hx).1) (fun x hx => (hb.r3 x hx).1) (a3.symm.trans b3), r1_inj (by omega) (fun x hx => (ha.r4 x hx).1) (fun x hx => (hb.r4 x hx).1) (a4.symm.trans b4), ?_⟩
  have := a5.symm.trans b5
  simpa using this
theorem mgE_same {T U : List YE} {a b : Bk} (hT : T.map YE.row = rowsB a) (hU : U.map YE.row = rowsB b) (ha : BkIn a) (hb : BkIn b) (la : listsB a = true) (lb : listsB b = true) : decide (mgE T U = []) = sameB a b := by
  rw [sameB, decide_eq_decide, mgE_nil (YOk.of hT (rowsB_ok ha la)) (YOk.of hU (rowsB_ok hb lb)), hT, hU]
  constructor
  · exact rowsB_inj ha hb
  · rintro ⟨h1, h2, h3, h4, h5⟩
    rw [rowsB, rowsB, h1, h2, h3, h4, h5]
end Go.Proofs

/-
  Plain laws of patches: tables of keys and values, and what changes make of them.
-/
namespace Go.Proofs
open Go Go.Eng
set_option maxRecDepth 100000
set_option maxHeartbeats 4000000
attribute [local irreducible] Tri

abbrev FunT := K3T → List Int
def valR (R : List RowB) : FunT := fun k => match R.find? fun r => decide (r.1 = k) with
  | some r => r.2
  | none => []
theorem valR_cons (r : RowB) (R : List RowB) (k : K3T) : valR (r :: R) k = if r.1 = k then r.2 else valR R k := by
  unfold valR
  rw [List.find?_cons]
  by_cases h : r.1 = k
  · rw [if_pos h, decide_eq_true h]
  · rw [if_neg h, decide_eq_false h]
theorem valR_mem {R : List RowB} (h : (R.map (·.1)).Nodup) {k : K3T} {v : List Int} (hm : (k, v) ∈ R) : valR R k = v := by
  induction R with
  | nil => cases hm
  | cons r R ih =>
    rw [List.map_cons, List.nodup_cons] at h
    rw [valR_cons]
    rcases List.mem_cons.1 hm with rfl | hm
    · rw [if_pos rfl]
    · rw [if_neg (fun e => h.1 (by rw [e]; exact List.mem_map.2 ⟨_, hm, rfl⟩)), ih h.2 hm]
theorem valR_none {R : List RowB} {k : K3T} (h : ∀ r, r ∈ R → r.1 ≠ k) : valR R k = [] := by
  induction R with
  | nil => rfl
  | cons r R ih => rw [valR_cons, if_neg (h r (List.mem_cons_self ..)), ih fun x hx => h x (List.mem_cons_of_mem _ hx)]
def upd (f : FunT) (k : K3T) (v : List Int) : FunT := fun k' => if k' = k then v else f k'

/-- How many values things of a list have. -/
def widN (l : Int) : Nat := if l = 1 then 3 else if l = 3 then 5 else 1
/-- A row that a book may have. -/
structure RowWf (r : RowB) : Prop where
  l1 : 1 ≤ r.1.1
  l5 : r.1.1 ≤ 5
  k1 : inK .i64 r.1.2.1
  k2 : inK .i64 r.1.2.2
  v : ∀ x, x ∈ r.2 → inK .i64 x
  len : r.2.length = widN r.1.1
  b0 : r.1.1 ≠ 2 → r.1.2.2 = 0
  a0 : r.1.1 = 5 → r.1.2.1 = 0
theorem widN_pos (l : Int) : 0 < widN l := by unfold widN; split; · omega
                                              split <;> omega
theorem RowWf.ne {r : RowB} (h : RowWf r) : r.2 ≠ [] := fun e => by
  have := h.len
  have := widN_pos r.1.1
  rw [e, List.length_nil] at *; omega
theorem RowWf.in3 {r : RowB} (h : RowWf r) : In3 r.1 := ⟨by have := h.l1; have := h.l5; simp only [inK]; omega, h.k1, h.k2⟩
theorem rowsB_wf {b : Bk} (hi : BkIn b) : ∀ r, r ∈ rowsB b → RowWf r := by
  have one : ∀ {sz : Nat} {l : Int} {x : List Int}, 1 ≤ l → l ≤ 4 → l ≠ 2 → 0 < sz → sz = widN l + 1 → x.length = sz → (∀ y, y ∈ x → inK .i64 y) → RowWf (r1 l x) := by
    intro sz l x h1 h2 h3 h4 h5 hx hin
    exact ⟨h1, by show l ≤ 5; omega, hin _ (k0_mem (by omega)), by simp [r1, inK], fun y hy => hin y (mem_drop' hy), by show (x.drop 1).length = widN l; rw [List.length_drop]; omega, fun _ => rfl, fun e => by have : l = 5 := e; omega⟩
  intro p hp
  simp only [rowsB, List.mem_append, List.mem_map, List.mem_singleton] at hp
  rcases hp with ⟨x, hx, rfl⟩ | ⟨x, hx, rfl⟩ | ⟨x, hx, rfl⟩ | ⟨x, hx, rfl⟩ | rfl
  · exact one (sz := 4) (by omega) (by omega) (by omega) (by omega) (by decide) (hi.r1 x hx).1 (hi.r1 x hx).2
  · have hl := (hi.r2 x hx).1
    exact ⟨by simp [r2], by simp [r2], (hi.r2 x hx).2 _ (k0_mem (by omega)), (hi.r2 x hx).2 _ (k1_mem (by omega)), fun y hy => (hi.r2 x hx).2 y (mem_drop' hy), by show (x.drop 2).length = widN 2; rw [List.length_drop, hl]; rfl, fun h => (h rfl).elim, fun e => by cases e⟩
  · exact one (sz := 6) (by omega) (by omega) (by omega) (by omega) (by decide) (hi.r3 x hx).1 (hi.r3 x hx).2
  · exact one (sz := 2) (by omega) (by omega) (by omega) (by omega) (by decide) (hi.r4 x hx).1 (hi.r4 x hx).2
  · exact ⟨by show (1 : Int) ≤ 5; omega, by show (5 : Int) ≤ 5; omega, by simp [inK], by simp [inK], fun y hy => by rw [List.mem_singleton] at hy; subst hy; exact hi.cc, rfl, fun _ => rfl, fun _ => rfl⟩

/-- Rows that are the table of a function. -/
structure TabR (R : List RowB) (f : FunT) : Prop where
  nd : (R.map (·.1)).Nodup
  wf : ∀ r, r ∈ R → RowWf r
  iff : ∀ k v, (k, v) ∈ R ↔ f k = v ∧ v ≠ []
theorem TabR.of {R : List RowB} (nd : (R.map (·.1)).Nodup) (wf : ∀ r, r ∈ R → RowWf r) : TabR R (valR R) := by
  refine ⟨nd, wf, fun k v => ⟨fun h => ⟨valR_mem nd h, (wf _ h).ne⟩, ?_⟩⟩
  rintro ⟨rfl, h⟩
  unfold valR at *
  cases hf : R.find? (fun r => decide (r.1 = k)) with
  | none => rw [hf] at h; exact (h rfl).elim
  | some r =>
    have h1 := List.mem_of_find?_eq_some hf
    have h2 : r.1 = k := by simpa using List.find?_some hf
    subst h2
    exact h1
theorem TabR.wfF {R : List RowB} {f : FunT} (h : TabR R f) {k : K3T} (hk : f k ≠ []) : RowWf (k, f k) := h.wf _ ((h.iff k _).2 ⟨rfl, hk⟩)
theorem TabR.find {R : List RowB} {f : FunT} (h : TabR R f) {k : K3T} (hk : f k ≠ []) : ∃ i : Nat, R[i]? = some (k, f k) := List.mem_iff_getElem?.1 ((h.iff k _).2 ⟨rfl, hk⟩)
theorem TabR.miss {R : List RowB} {f : FunT} (h : TabR R f) {k : K3T} (hk : f k = []) : ∀ r, r ∈ R → r.1 ≠ k := by
  rintro ⟨k', v⟩ hr e
  have e : k' = k := e
  subst e
  obtain ⟨h1, h2⟩ := (h.iff k' v).1 hr
  exact h2 (h1.symm.trans hk)
theorem mem_erase_iff {R : List RowB} (h : (R.map (·.1)).Nodup) {i : Nat} {k : K3T} {v : List Int} (hi : R[i]? = some (k, v)) (r : RowB) : r ∈ R.eraseIdx i ↔ r ∈ R ∧ r.1 ≠ k := by
  induction R generalizing i with
  | nil => cases hi
  | cons x R ih =>
    rw [List.map_cons, List.nodup_cons] at h
    cases i with
    | zero =>
      have e : x = (k, v) := Option.some.inj hi
      subst e
      rw [List.eraseIdx_cons_zero, List.mem_cons]
      constructor
      · intro hr
        exact ⟨.inr hr, fun e => h.1 (List.mem_map.2 ⟨r, hr, e⟩)⟩
      · rintro ⟨rfl | hr, hne⟩
        · exact (hne rfl).elim
        · exact hr
    | succ i =>
      have hi : R[i]? = some (k, v) := by simpa using hi
      rw [List.eraseIdx_cons_succ, List.mem_cons, List.mem_cons, ih h.2 hi]
      constructor
      · rintro (rfl | hr)
        · exact ⟨.inl rfl, fun e => h.1 (by rw [e]; exact List.mem_map.2 ⟨_, List.mem_of_getElem? hi, rfl⟩)⟩
        · exact ⟨.inr hr.1, hr.2⟩
      · rintro ⟨rfl | hr, hne⟩
        · exact .inl rfl
        · exact .inr ⟨hr, hne⟩
theorem TabR.erase {R : List RowB} {f : FunT} (h : TabR R f) {i : Nat} {k : K3T} {v : List Int} (hi : R[i]? = some (k, v)) : TabR (R.eraseIdx i) (upd f k []) := by
  refine ⟨h.nd.sublist (List.Sublist.map _ (List.eraseIdx_sublist ..)), fun r hr => h.wf r ((List.eraseIdx_sublist ..).mem hr), fun k' v' => ?_⟩
  rw [mem_erase_iff h.nd hi, h.iff]
  unfold upd
  by_cases e : k' = k
  · rw [if_pos e]
    exact ⟨fun x => (x.2 e).elim, fun x => (x.2 x.1.symm).elim⟩
  · rw [if_neg e]
    exact ⟨fun x => x.1, fun x => ⟨x, e⟩⟩
theorem mem_set_iff {R : List RowB} (h : (R.map (·.1)).Nodup) {i : Nat} {k : K3T} {v u : List Int} (hi : R[i]? = some (k, v)) (r : RowB) : r ∈ R.set i (k, u) ↔ r = (k, u) ∨ r ∈ R ∧ r.1 ≠ k := by
  induction R generalizing i with
  | nil => cases hi
  | cons x R ih =>
    rw [List.map_cons, List.nodup_cons] at h
    cases i with
    | zero =>
      have e : x = (k, v) := Option.some.inj hi
      subst e
      rw [List.set_cons_zero, List.mem_cons, List.mem_cons]
      constructor
      · rintro (hr | hr)
        · exact .inl hr
        · exact .inr ⟨.inr hr, fun e => h.1 (List.mem_map.2 ⟨r, hr, e⟩)⟩
      · rintro (hr | ⟨rfl | hr, hne⟩)
        · exact .inl hr
        · exact (hne rfl).elim
        · exact .inr hr
    | succ i =>
      have hi : R[i]? = some (k, v) := by simpa using hi
      rw [List.set_cons_succ, List.mem_cons, List.mem_cons, ih h.2 hi]
      constructor
      · rintro (rfl | hr | hr)
        · exact .inr ⟨.inl rfl, fun e => h.1 (by rw [e]; exact List.mem_map.2 ⟨_, List.mem_of_getElem? hi, rfl⟩)⟩
        · exact .inl hr
        · exact .inr ⟨.inr hr.1, hr.2⟩
      · rintro (hr | ⟨rfl | hr, hne⟩)
        · exact .inr (.inl hr)
        · exact .inl rfl
        · exact .inr (.inr ⟨hr, hne⟩)
theorem TabR.set {R : List RowB} {f : FunT} (h : TabR R f) {i : Nat} {k : K3T} {v u : List Int} (hi : R[i]? = some (k, v)) (hu : RowWf (k, u)) : TabR (R.set i (k, u)) (upd f k u) := by
  refine ⟨?_, fun r hr => ?_, fun k' v' => ?_⟩
  · have : (R.set i (k, u)).map (·.1) = R.map (·.1) := by
      rw [List.map_set]
      apply List.ext_getElem?
      intro j
      rw [List.getElem?_set]
      by_cases e : i = j
      · subst e
        have hl := (List.getElem?_eq_some_iff.1 hi).1
        rw [if_pos rfl, if_pos (by rw [List.length_map]; exact hl), List.getElem?_map, hi]; rfl
      · rw [if_neg e]
    rw [this]; exact h.nd
  · rcases (mem_set_iff h.nd hi r).1 hr with rfl | hr
    · exact hu
    · exact h.wf r hr.1
  · rw [mem_set_iff h.nd hi, h.iff]
    unfold upd
    by_cases e : k' = k
    · subst e
      rw [if_pos rfl]
      constructor
      · rintro (e | e)
        · have : v' = u := congrArg Prod.snd e
          subst this; exact ⟨rfl, hu.ne⟩
        · exact (e.2 rfl).elim
      · rintro ⟨rfl, -⟩; exact .inl rfl
    · rw [if_neg e]
      constructor
      · rintro (e2 | e2)
        · exact (e (congrArg Prod.fst e2)).elim
        · exact e2.1
      · intro x; exact .inr ⟨x, e⟩
theorem TabR.push {R : List RowB} {f : FunT} (h : TabR R f) {k : K3T} {u : List Int} (hk : ∀ r, r ∈ R → r.1 ≠ k) (hu : RowWf (k, u)) : TabR (R ++ [(k, u)]) (upd f k u) := by
  refine ⟨?_, fun r hr => ?_, fun k' v' => ?_⟩
  · rw [List.map_append, List.nodup_append]
    refine ⟨h.nd, by simp, fun a ha b hb e => ?_⟩
    obtain ⟨r, hr, rfl⟩ := List.mem_map.1 ha
    simp only [List.map_cons, List.map_nil, List.mem_singleton] at hb
    exact hk r hr (e.trans hb)
  · rcases List.mem_append.1 hr with hr | hr
    · exact h.wf r hr
    · rw [List.mem_singleton] at hr; subst hr; exact hu
  · rw [List.mem_append, List.mem_singleton, h.iff]
    unfold upd
    by_cases e : k' = k
    · subst e
      rw [if_pos rfl]
      constructor
      · rintro (e | e)
        · exact (hk (k', v') ((h.iff k' v').2 e) rfl).elim
        · have : v' = u := congrArg Prod.snd e
          subst this; exact ⟨rfl, hu.ne⟩
      · rintro ⟨rfl, -⟩; exact .inr rfl
    · rw [if_neg e]
      constructor
      · rintro (e2 | e2)
        · exact e2
        · exact (e (congrArg Prod.fst e2)).elim
      · intro x; exact .inl x

/-- May a list's things have these values? -/
def valuesB (l : Int) (v : List Int) : Bool := if v = [] then decide (l ≠ 5) else decide (v.length = widN l) && (decide (l ≠ 3) || (decide (nthI v 2 = 0) || decide (nthI v 2 = 1)))
/-- May a change be? -/
def mayC (e : ChP) : Bool := decide (1 ≤ e.1.1 ∧ e.1.1 ≤ 5 ∧ e.2.1 ≠ e.2.2 ∧ (e.1.1 ≠ 2 → e.1.2.2 = 0) ∧ (e.1.1 = 5 → e.1.2.1 = 0)) && (valuesB e.1.1 e.2.1 && valuesB e.1.1 e.2.2)
structure RightP (l : List ChP) : Prop where
  may : ∀ e, e ∈ l → mayC e = true
  ris : l.Pairwise fun p q => lt3 p.1 q.1
open Classical in
noncomputable def rightB (l : List ChP) : Bool := decide (RightP l)
theorem rightB_iff {l : List ChP} : rightB l = true ↔ RightP l := by unfold rightB; simp
theorem rightB_true {l : List ChP} (h : RightP l) : rightB l = true := rightB_iff.2 h
theorem rightB_false {l : List ChP} (h : ¬ RightP l) : rightB l = false := by
  cases hb : rightB l with
  | false => rfl
  | true => exact (h (rightB_iff.1 hb)).elim
theorem RightP.of {l : List ChP} (h1 : ∀ (i : Nat) e, l[i]? = some e → mayC e = true) (h2 : ∀ (i : Nat) d e, l[i]? = some d → l[i + 1]? = some e → lt3 d.1 e.1) : RightP l := by
  refine ⟨fun e he => ?_, ?_⟩
  · obtain ⟨i, hi⟩ := List.mem_iff_getElem?.1 he
    exact h1 i e hi
  · clear h1
    induction l with
    | nil => exact List.Pairwise.nil
    | cons x l ih =>
      have ih := ih fun i d e hd he => h2 (i + 1) d e (by simpa using hd) (by simpa using he)
      rw [List.pairwise_cons]
      refine ⟨fun y hy => ?_, ih⟩
      cases l with
      | nil => cases hy
      | cons z l =>
        have h0 := h2 0 x z rfl rfl
        rcases List.mem_cons.1 hy with rfl | hy
        · exact h0
        · exact lt3_trans h0 ((List.pairwise_cons.1 ih).1 y hy)
theorem RightP.no1 {l : List ChP} {i : Nat} {e : ChP} (hi : l[i]? = some e) (h : mayC e = false) : ¬ RightP l := fun hr => by
  rw [hr.may e (List.mem_of_getElem? hi)] at h; cases h
theorem RightP.no2 {l : List ChP} {i : Nat} {d e : ChP} (hd : l[i]? = some d) (he : l[i + 1]? = some e) (h : ¬ lt3 d.1 e.1) : ¬ RightP l := fun hr => by
  obtain ⟨h1, e1⟩ := List.getElem?_eq_some_iff.1 hd
  obtain ⟨h2, e2⟩ := List.getElem?_eq_some_iff.1 he
  have := List.pairwise_iff_getElem.1 hr.ris i (i + 1) h1 h2 (by omega)
  rw [e1, e2] at this
  exact h this
/-- A function patched by changes; none if it isn't as they say. -/
def chkP (f : FunT) : List ChP → Option FunT
  | [] => some f
  | e :: l => if f e.1 = e.2.1 then chkP (upd f e.1 e.2.2) l else none
theorem chkP_to : ∀ (l : List ChP) (f g : FunT), l.Pairwise (fun p q => lt3 p.1 q.1) → (∀ e, e ∈ l → f e.1 = e.2.1 ∧ g e.1 = e.2.2) → (∀ k, (∀ e, e ∈ l → e.1 ≠ k) → f k = g k) → chkP f l = some g
  | [], f, g, _, _, h => by
    rw [chkP, Option.some.injEq]
    funext k
    exact h k fun e he => by cases he
  | e :: l, f, g, hp, hm, h => by
    rw [List.pairwise_cons] at hp
    have he := hm e (List.mem_cons_self ..)
    rw [chkP, if_pos he.1]
    refine chkP_to l _ g hp.2 (fun e' he' => ?_) fun k hk => ?_
    · have hne : e'.1 ≠ e.1 := fun e2 => lt3_ne (hp.1 e' he') e2.symm
      have := hm e' (List.mem_cons_of_mem _ he')
      exact ⟨by unfold upd; rw [if_neg hne]; exact this.1, this.2⟩
    · unfold upd
      by_cases e2 : k = e.1
      · rw [if_pos e2, e2, he.2]
      · rw [if_neg e2]
        refine h k fun e' he' => ?_
        rcases List.mem_cons.1 he' with rfl | he'
        · exact fun e3 => e2 e3.symm
        · exact hk e' he'
/-- Changes that are those of two functions. -/
structure IsDiff (f g : FunT) (l : List ChP) : Prop where
  ris : l.Pairwise fun p q => lt3 p.1 q.1
  mem : ∀ e, e ∈ l ↔ e.2.1 = f e.1 ∧ e.2.2 = g e.1 ∧ e.2.1 ≠ e.2.2
theorem IsDiff.chk {f g : FunT} {l : List ChP} (h : IsDiff f g l) : chkP f l = some g := by
  refine chkP_to l f g h.ris (fun e he => ?_) fun k hk => ?_
  · have := (h.mem e).1 he
    exact ⟨this.1.symm, this.2.1.symm⟩
  · exact Classical.byContradiction fun hne => hk (k, f k, g k) ((h.mem _).2 ⟨rfl, rfl, hne⟩) rfl
theorem IsDiff.eq {f g : FunT} {l m : List ChP} (h : IsDiff f g l) (h' : IsDiff f g m) : l = m :=
  strict_eq (lt := fun p q : ChP => lt3 p.1 q.1) (fun _ => lt3_irrefl _) (fun _ _ _ => lt3_trans) h.ris h'.ris fun e => by rw [h.mem, h'.mem]
/-- A change turned. -/
def turnP (e : ChP) : ChP := (e.1, e.2.2, e.2.1)
theorem IsDiff.turn {f g : FunT} {l : List ChP} (h : IsDiff f g l) : IsDiff g f (l.map turnP) := by
  refine ⟨by rw [List.pairwise_map]; exact h.ris, fun e => ?_⟩
  rw [List.mem_map]
  constructor
  · rintro ⟨d, hd, rfl⟩
    obtain ⟨h1, h2, h3⟩ := (h.mem d).1 hd
    exact ⟨h2, h1, fun e => h3 e.symm⟩
  · rintro ⟨h1, h2, h3⟩
    exact ⟨turnP e, (h.mem _).2 ⟨h2, h1, fun e => h3 e.symm⟩, rfl⟩
theorem mgE_isDiff {T U : List YE} (hT : YOk T) (hU : YOk U) : IsDiff (getT T) (getT U) ((mgE T U).map chP) := ⟨mgE_ris T U hT hU, fun e => mgE_mem T U hT hU e⟩
theorem getT_val (T : List YE) : getT T = valR (T.map YE.row) := by
  funext k
  unfold getT valR
  rw [List.find?_map]
  rw [show ((fun r : RowB => decide (r.1 = k)) ∘ YE.row) = fun x : YE => decide (x.k = k) from rfl]
  cases T.find? (fun x => decide (x.k = k)) <;> rfl
theorem rowsB_nd {b : Bk} (h : listsB b = true) : ((rowsB b).map (·.1)).Nodup := by
  rw [List.nodup_iff_pairwise_ne, List.pairwise_map]
  exact (rowsB_ris h).imp fun h => lt3_ne h
/-- A book's values. -/
def valB (b : Bk) : FunT := valR (rowsB b)
theorem tabB {b : Bk} (hi : BkIn b) (h : listsB b = true) : TabR (rowsB b) (valB b) := TabR.of (rowsB_nd h) (rowsB_wf hi)
theorem valB_c {b : Bk} (hi : BkIn b) (h : listsB b = true) : valB b (5, 0, 0) = [b.c] := ((tabB hi h).iff (5, 0, 0) [b.c]).1 (by simp [rowsB]) |>.1
theorem wf_k5 {r : RowB} (h : RowWf r) (e : r.1.1 = 5) : r.1 = (5, 0, 0) := by
  have h1 := h.a0 e
  have h2 := h.b0 (by omega)
  obtain ⟨⟨a, b, c⟩, v⟩ := r
  simp only at *
  subst e h1 h2; rfl
/-- The side of an order of a book that may be. -/
theorem mayB_side {b : Bk} (hi : BkIn b) (hm : mayB b = true) {r : RowB} (hr : r ∈ rowsB b) (h3 : r.1.1 = 3) : nthI r.2 2 = 0 ∨ nthI r.2 2 = 1 := by
  simp only [mayB, Bool.and_eq_true] at hm
  have hO := hm.2.2.2.2.2
  simp only [rowsB, List.mem_append, List.mem_map, List.mem_singleton] at hr
  rcases hr with ⟨x, hx, rfl⟩ | ⟨x, hx, rfl⟩ | ⟨x, hx, rfl⟩ | ⟨x, hx, rfl⟩ | rfl
  · exact absurd h3 (by simp [r1])
  · exact absurd h3 (by simp [r2])
  · have := List.any_eq_false.1 (by simpa using hO) x hx
    obtain ⟨x0, x1, x2, x3, x4, x5, rfl⟩ := len6 (hi.r3 x hx).1
    simp only [badO, Bool.or_eq_true, decide_eq_true_eq, not_or] at this
    have h4 := this.2.2.1
    have h5 := this.2.2.2.1
    simp [nthI] at h4 h5
    simp [nthI, r1]
    omega
  · exact absurd h3 (by simp [r1])
  · exact absurd h3 (by simp)
theorem valuesB_of {b : Bk} (hi : BkIn b) (hm : mayB b = true) {k : K3T} (h5 : k.1 = 5 → valB b k ≠ []) : valuesB k.1 (valB b k) = true := by
  have hl : listsB b = true := by simp only [mayB, Bool.and_eq_true] at hm; exact hm.1
  unfold valuesB
  by_cases h : valB b k = []
  · rw [if_pos h]
    exact decide_eq_true fun e => h5 e h
  · rw [if_neg h]
    have hr := ((tabB hi hl).iff k _).2 ⟨rfl, h⟩
    have hwf := rowsB_wf hi _ hr
    rw [Bool.and_eq_true, Bool.or_eq_true, Bool.or_eq_true, decide_eq_true_eq, decide_eq_true_eq, decide_eq_true_eq, decide_eq_true_eq]
    refine ⟨hwf.len, ?_⟩
    by_cases h3 : k.1 = 3
    · exact .inr (mayB_side hi hm hr h3)
    · exact .inl h3
theorem diff_right {a b : Bk} (hia : BkIn a) (hib : BkIn b) (ha : mayB a = true) (hb : mayB b = true) {l : List ChP} (h : IsDiff (valB a) (valB b) l) : RightP l := by
  have hla : listsB a = true := by simp only [mayB, Bool.and_eq_true] at ha; exact ha.1
  have hlb : listsB b = true := by simp only [mayB, Bool.and_eq_true] at hb; exact hb.1
  refine ⟨fun e he => ?_, h.ris⟩
  obtain ⟨k, u, v⟩ := e
  obtain ⟨h1, h2, h3⟩ := (h.mem _).1 he
  have h1 : u = valB a k := h1
  have h2 : v = valB b k := h2
  have h3 : u ≠ v := h3
  clear he
  subst u
  subst v
  have hwf : ∃ w, RowWf (k, w) := by
    by_cases e : valB a k = []
    · exact ⟨_, (tabB hib hlb).wfF (k := k) fun e2 => h3 (e.trans e2.symm)⟩
    · exact ⟨_, (tabB hia hla).wfF e⟩
  obtain ⟨w, hw⟩ := hwf
  have h5 : k.1 = 5 → k = (5, 0, 0) := fun e => wf_k5 hw e
  unfold mayC
  rw [Bool.and_eq_true, Bool.and_eq_true, decide_eq_true_eq]
  refine ⟨⟨hw.l1, hw.l5, h3, hw.b0, hw.a0⟩, valuesB_of hia ha fun e => ?_, valuesB_of hib hb fun e => ?_⟩
  · rw [h5 e, valB_c hia hla]; simp
  · rw [h5 e, valB_c hib hlb]; simp
/-- A book that is laid of a table. -/
structure IsBk (f : FunT) (b : Bk) : Prop where
  inn : BkIn b
  ris : (rowsB b).Pairwise fun p q => lt3 p.1 q.1
  iff : ∀ k v, (k, v) ∈ rowsB b ↔ f k = v ∧ v ≠ []
theorem IsBk.eq {a b : Bk} (hi : BkIn b) (hl : listsB b = true) (h : IsBk (valB b) a) : a = b := by
  have : rowsB a = rowsB b := strict_eq (lt := fun p q : RowB => lt3 p.1 q.1) (fun _ => lt3_irrefl _) (fun _ _ _ => lt3_trans) h.ris (rowsB_ris hl) fun r => by
    obtain ⟨k, v⟩ := r
    rw [h.iff, (tabB hi hl).iff]
  obtain ⟨h1, h2, h3, h4, h5⟩ := rowsB_inj h.inn hi this
  obtain ⟨aH, aS, aO, aR, ac⟩ := a
  obtain ⟨bH, bS, bO, bR, bc⟩ := b
  simp only at *
  subst h1 h2 h3 h4 h5; rfl

/-- A book of rows. -/
def un1 (r : RowB) : List Int := r.1.2.1 :: r.2
def un2 (r : RowB) : List Int := r.1.2.1 :: r.1.2.2 :: r.2
def onL (l : Int) (R : List RowB) : List RowB := R.filter fun r => decide (r.1.1 = l)
def bkOf (R : List RowB) : Bk := ⟨(onL 1 R).map un1, (onL 2 R).map un2, (onL 3 R).map un1, (onL 4 R).map un1, R.foldl (fun c r => if r.1.1 = 5 then k0 r.2 else c) 0⟩
theorem onL_snoc (l : Int) (R : List RowB) (r : RowB) : onL l (R ++ [r]) = onL l R ++ (if r.1.1 = l then [r] else []) := by
  unfold onL
  rw [List.filter_append]
  congr 1
  by_cases h : r.1.1 = l <;> simp [h]
theorem onL_len (l : Int) (R : List RowB) : (onL l R).length ≤ R.length := List.length_filter_le ..
theorem bkOf_snoc (R : List RowB) (r : RowB) : bkOf (R ++ [r]) = ⟨(bkOf R).H ++ (if r.1.1 = 1 then [un1 r] else []), (bkOf R).S ++ (if r.1.1 = 2 then [un2 r] else []), (bkOf R).O ++ (if r.1.1 = 3 then [un1 r] else []), (bkOf R).R ++ (if r.1.1 = 4 then [un1 r] else []), if r.1.1 = 5 then k0 r.2 else (bkOf R).c⟩ := by
  simp only [bkOf, onL_snoc, List.map_append, List.foldl_append, List.foldl_cons, List.foldl_nil]
  congr 1 <;> (congr 1; split <;> rfl)
theorem un1_rec {r : RowB} (h : RowWf r) {sz : Nat} (hs : widN r.1.1 + 1 = sz) : (un1 r).length = sz ∧ ∀ y, y ∈ un1 r → inK .i64 y := by
  refine ⟨by rw [un1, List.length_cons, h.len]; exact hs, fun y hy => ?_⟩
  rcases List.mem_cons.1 hy with rfl | hy
  · exact h.k1
  · exact h.v y hy
theorem bkOf_in {R : List RowB} (h : ∀ r, r ∈ R → RowWf r) (hl : R.length ≤ 1048576) : BkIn (bkOf R) := by
  have m1 : ∀ {l : Int} {sz : Nat}, widN l + 1 = sz → ∀ x, x ∈ (onL l R).map un1 → x.length = sz ∧ ∀ y, y ∈ x → inK .i64 y := by
    intro l sz hs x hx
    obtain ⟨r, hr, rfl⟩ := List.mem_map.1 hx
    have h1 := List.mem_filter.1 hr
    have h2 : r.1.1 = l := by simpa using h1.2
    exact un1_rec (h r h1.1) (by rw [h2]; exact hs)
  have le : ∀ l (f : RowB → List Int), ((onL l R).map f).length ≤ 1048576 := fun l f => by rw [List.length_map]; exact Nat.le_trans (onL_len l R) hl
  refine ⟨m1 rfl, fun x hx => ?_, m1 rfl, m1 rfl, le _ _, le _ _, le _ _, le _ _, ?_⟩
  · obtain ⟨r, hr, rfl⟩ := List.mem_map.1 hx
    have h1 := List.mem_filter.1 hr
    have h2 : r.1.1 = 2 := by simpa using h1.2
    have hw := h r h1.1
    refine ⟨by rw [un2, List.length_cons, List.length_cons, hw.len, h2]; rfl, fun y hy => ?_⟩
    rcases List.mem_cons.1 hy with rfl | hy
    · exact hw.k1
    rcases List.mem_cons.1 hy with rfl | hy
    · exact hw.k2
    · exact hw.v y hy
  · have : ∀ (R : List RowB) (c : Int), (∀ r, r ∈ R → RowWf r) → inK .i64 c → inK .i64 (R.foldl (fun c r => if r.1.1 = 5 then k0 r.2 else c) c) := by
      intro R
      induction R with
      | nil => intro c _ hc; exact hc
      | cons r R ih =>
        intro c h hc
        refine ih _ (fun r hr => h r (List.mem_cons_of_mem _ hr)) ?_
        dsimp only
        split
        · have hw := h r (List.mem_cons_self ..)
          exact hw.v _ (k0_mem (by rw [hw.len]; exact widN_pos _))
        · exact hc
    exact this R 0 h (by simp [inK])
theorem r1_un1 {r : RowB} (h : RowWf r) (h2 : r.1.1 ≠ 2) : r1 r.1.1 (un1 r) = r := by
  have := h.b0 h2
  obtain ⟨⟨a, b, c⟩, v⟩ := r
  simp only at this
  subst this
  simp [r1, un1, k0]
theorem r2_un2 {r : RowB} (h2 : r.1.1 = 2) : r2 (un2 r) = r := by
  obtain ⟨⟨a, b, c⟩, v⟩ := r
  simp only at h2
  subst h2
  simp [r2, un2, k0, k1]
theorem bkOf_c {R : List RowB} (hr : R.Pairwise fun p q => lt3 p.1 q.1) (h : ∀ r, r ∈ R → RowWf r) {v : List Int} (hc : ((5, 0, 0), v) ∈ R) : (bkOf R).c = k0 v := by
  show R.foldl (fun c r => if r.1.1 = 5 then k0 r.2 else c) 0 = k0 v
  have none : ∀ (R : List RowB) (c : Int), (∀ r, r ∈ R → r.1.1 ≠ 5) → R.foldl (fun c r => if r.1.1 = 5 then k0 r.2 else c) c = c := by
    intro R
    induction R with
    | nil => intro c _; rfl
    | cons r R ih => intro c h; rw [List.foldl_cons, if_neg (h r (List.mem_cons_self ..))]; exact ih c fun r hr => h r (List.mem_cons_of_mem _ hr)
  suffices ∀ (R : List RowB) (c : Int), R.Pairwise (fun p q => lt3 p.1 q.1) → (∀ r, r ∈ R → RowWf r) → ((5, 0, 0), v) ∈ R → R.foldl (fun c r => if r.1.1 = 5 then k0 r.2 else c) c = k0 v from this R 0 hr h hc
  intro R
  induction R with
  | nil => intro c _ _ h; cases h
  | cons r R ih =>
    intro c hr h hc
    rw [List.pairwise_cons] at hr
    rw [List.foldl_cons]
    rcases List.mem_cons.1 hc with rfl | hc
    · rw [if_pos rfl, none]
      intro r' hr' e
      have := wf_k5 (h r' (List.mem_cons_of_mem _ hr')) e
      exact lt3_ne (hr.1 r' hr') this.symm
    · exact ih _ hr.2 (fun r hr => h r (List.mem_cons_of_mem _ hr)) hc
theorem split_le (c : Int) : ∀ {R : List RowB}, R.Pairwise (fun p q => lt3 p.1 q.1) → (∀ r, r ∈ R → c ≤ r.1.1) → R = onL c R ++ R.filter fun r => decide (c < r.1.1)
  | [], _, _ => rfl
  | r :: R, hr, hc => by
    rw [List.pairwise_cons] at hr
    have h0 := hc r (List.mem_cons_self ..)
    by_cases h : r.1.1 = c
    · have e := split_le c hr.2 fun r hr => hc r (List.mem_cons_of_mem _ hr)
      unfold onL at *
      rw [List.filter_cons_of_pos (by simpa using h), List.filter_cons_of_neg (by simp; omega), List.cons_append, ← e]
    · have hgt : ∀ x, x ∈ r :: R → c < x.1.1 := by
        intro x hx
        rcases List.mem_cons.1 hx with rfl | hx
        · omega
        · have := hr.1 x hx
          unfold lt3 at this
          omega
      rw [show onL c (r :: R) = [] from List.filter_eq_nil_iff.2 fun x hx => by have := hgt x hx; simp; omega, List.filter_eq_self.2 fun x hx => decide_eq_true (hgt x hx)]
      rfl
theorem rowsB_bkOf {R : List RowB} (hr : R.Pairwise fun p q => lt3 p.1 q.1) (h : ∀ r, r ∈ R → RowWf r) {v : List Int} (hc : ((5, 0, 0), v) ∈ R) : rowsB (bkOf R) = R := by
  have lo : ∀ (c : Int) (R' : List RowB), ∀ r, r ∈ R'.filter (fun r => decide (c < r.1.1)) → c + 1 ≤ r.1.1 := fun c R' r hr => by
    have := (List.mem_filter.1 hr).2
    simp only [decide_eq_true_eq] at this; omega
  have sub : ∀ (c d : Int) (R' : List RowB), c < d → onL d (R'.filter fun r => decide (c < r.1.1)) = onL d R' := fun c d R' hcd => by
    unfold onL
    rw [List.filter_filter]
    refine List.filter_congr fun x hx => ?_
    by_cases e : x.1.1 = d
    · simp [e, hcd]
    · simp [e]
  have s1 := split_le 1 hr (fun r hr => (h r hr).l1)
  have p1 := hr.filter (fun r => decide (1 < r.1.1))
  have s2 := split_le 2 p1 (lo 1 R)
  have p2 := p1.filter (fun r => decide (2 < r.1.1))
  have s3 := split_le 3 p2 (lo 2 _)
  have p3 := p2.filter (fun r => decide (3 < r.1.1))
  have s4 := split_le 4 p3 (lo 3 _)
  have p4 := p3.filter (fun r => decide (4 < r.1.1))
  have s5 := split_le 5 p4 (lo 4 _)
  have m1 : ∀ {l : Int}, l ≠ 2 → ((onL l R).map un1).map (r1 l) = onL l R := by
    intro l hl
    rw [List.map_map]
    conv => rhs; rw [← List.map_id (onL l R)]
    refine List.map_congr_left fun r hr => ?_
    have h1 := List.mem_filter.1 hr
    have h2 : r.1.1 = l := by simpa using h1.2
    show r1 l (un1 r) = r
    rw [← h2]; exact r1_un1 (h r h1.1) (by omega)
  have m2 : ((onL 2 R).map un2).map r2 = onL 2 R := by
    rw [List.map_map]
    conv => rhs; rw [← List.map_id (onL 2 R)]
    refine List.map_congr_left fun r hr => ?_
    have h1 := List.mem_filter.1 hr
    exact r2_un2 (by simpa using h1.2)
  have c5 : onL 5 R = [((5, 0, 0), [(bkOf R).c])] := by
    refine strict_eq (lt := fun p q : RowB => lt3 p.1 q.1) (fun _ => lt3_irrefl _) (fun _ _ _ => lt3_trans) (hr.filter _) (List.pairwise_singleton ..) fun r => ?_
    rw [List.mem_singleton, bkOf_c hr h hc]
    have hv : v = [k0 v] := by
      have := (h _ hc).len
      match v, this with
      | [x], _ => rfl
    constructor
    · intro hm
      have h1 := List.mem_filter.1 hm
      have h2 := wf_k5 (h r h1.1) (by simpa using h1.2)
      obtain ⟨k, u⟩ := r
      have h2 : k = (5, 0, 0) := h2
      subst h2
      have nd : (R.map (·.1)).Nodup := by
        rw [List.nodup_iff_pairwise_ne, List.pairwise_map]
        exact hr.imp fun h => lt3_ne h
      rw [← valR_mem nd h1.1, valR_mem nd hc, ← hv]
    · rintro rfl
      rw [← hv]
      exact List.mem_filter.2 ⟨hc, by simp⟩
  have hi5 : ((((R.filter fun r => decide (1 < r.1.1)).filter fun r => decide (2 < r.1.1)).filter fun r => decide (3 < r.1.1)).filter fun r => decide (4 < r.1.1)).filter (fun r => decide (5 < r.1.1)) = [] := List.filter_eq_nil_iff.2 fun r hr => by
    have hm : r ∈ R := (List.mem_filter.1 (List.mem_filter.1 (List.mem_filter.1 (List.mem_filter.1 hr).1).1).1).1
    have := (h r hm).l5
    simp only [decide_eq_true_eq]; omega
  rw [hi5, List.append_nil] at s5
  have e5 : onL 5 ((((R.filter fun r => decide (1 < r.1.1)).filter fun r => decide (2 < r.1.1)).filter fun r => decide (3 < r.1.1)).filter fun r => decide (4 < r.1.1)) = onL 5 R := by rw [sub _ _ _ (by decide), sub _ _ _ (by decide), sub _ _ _ (by decide), sub _ _ _ (by decide)]
  have e4 : onL 4 (((R.filter fun r => decide (1 < r.1.1)).filter fun r => decide (2 < r.1.1)).filter fun r => decide (3 < r.1.1)) = onL 4 R := by rw [sub _ _ _ (by decide), sub _ _ _ (by decide), sub _ _ _ (by decide)]
  have e3 : onL 3 ((R.filter fun r => decide (1 < r.1.1)).filter fun r => decide (2 < r.1.1)) = onL 3 R := by rw [sub _ _ _ (by decide), sub _ _ _ (by decide)]
  have e2 : onL 2 (R.filter fun r => decide (1 < r.1.1)) = onL 2 R := by rw [sub _ _ _ (by decide)]
  unfold rowsB
  show ((onL 1 R).map un1).map (r1 1) ++ (((onL 2 R).map un2).map r2 ++ (((onL 3 R).map un1).map (r1 3) ++ (((onL 4 R).map un1).map (r1 4) ++ [((5, 0, 0), [(bkOf R).c])]))) = R
  rw [m1 (by decide), m2, m1 (by decide), m1 (by decide), ← c5, ← e5, ← s5, ← e4, ← s4, ← e3, ← s3, ← e2, ← s2, ← s1]
theorem isBk_of {R : List RowB} {f : FunT} (h : TabR R f) {RS : List RowB} (hp : RS.Perm R) (hr : RS.Pairwise fun p q => lt3 p.1 q.1) (hl : R.length ≤ 1048576) (hc : f (5, 0, 0) ≠ []) : IsBk f (bkOf RS) := by
  have hw : ∀ r, r ∈ RS → RowWf r := fun r hr => h.wf r (hp.mem_iff.1 hr)
  have hm : ((5, 0, 0), f (5, 0, 0)) ∈ RS := hp.mem_iff.2 ((h.iff _ _).2 ⟨rfl, hc⟩)
  have e := rowsB_bkOf hr hw hm
  refine ⟨bkOf_in hw (by rw [hp.length_eq]; exact hl), by rw [e]; exact hr, fun k v => ?_⟩
  rw [e, hp.mem_iff, h.iff]
theorem bkV_cells (b : Bk) (A : BkA) : ∀ v, v ∈ bkV b A → v.oneCell' = true := by intro v hv; simp only [bkV, List.mem_cons, List.not_mem_nil, or_false] at hv; rcases hv with rfl | rfl | rfl | rfl | rfl <;> rfl
end Go.Proofs

/-
  Plain laws of the document's patches: a book in which one key after the other is set.
-/
namespace Go.Proofs
open Go Go.Eng
set_option maxRecDepth 100000
set_option maxHeartbeats 4000000
attribute [local irreducible] Tri

theorem cells5 {a b c d e : Value} (h1 : a.oneCell' = true) (h2 : b.oneCell' = true) (h3 : c.oneCell' = true) (h4 : d.oneCell' = true) (h5 : e.oneCell' = true) : ∀ v, v ∈ [a, b, c, d, e] → v.oneCell' = true := by
  intro v hv
  simp only [List.mem_cons, List.not_mem_nil, or_false] at hv
  rcases hv with rfl | rfl | rfl | rfl | rfl <;> assumption
/-- A thing put in its place; those with its key are taken out. -/
def insB (ge eq : List Int → Bool) (x : List Int) : Bool → List (List Int) → List (List Int)
  | d, [] => if d then [] else [x]
  | d, z :: l => (if !d && ge z then [x] else []) ++ ((if eq z then [] else [z]) ++ insB ge eq x (d || ge z) l)
theorem insB_mem {ge eq : List Int → Bool} {x y : List Int} : ∀ {l : List (List Int)} {d : Bool}, y ∈ insB ge eq x d l ↔ (d = false ∧ y = x) ∨ (y ∈ l ∧ eq y = false)
  | [], d => by cases d <;> simp [insB]
  | z :: l, d => by
    rw [insB, List.mem_append, List.mem_append, insB_mem (l := l), List.mem_cons]
    by_cases e : y = z
    · subst e
      cases d <;> cases ge y <;> cases eq y <;> simp
    · cases d <;> cases ge z <;> cases eq z <;> simp [e]
theorem insB_len {ge eq : List Int → Bool} {x : List Int} : ∀ {l : List (List Int)} {d : Bool}, (insB ge eq x d l).length ≤ l.length + (if d then 0 else 1)
  | [], d => by cases d <;> simp [insB]
  | z :: l, d => by
    have h1 := insB_len (ge := ge) (eq := eq) (x := x) (l := l) (d := d || ge z)
    rw [insB, List.length_append, List.length_append, List.length_cons]
    cases d <;> cases hg : ge z <;> cases he : eq z <;> simp [hg] at h1 ⊢ <;> omega
theorem insB_true {ge eq : List Int → Bool} {x : List Int} : ∀ {l : List (List Int)}, insB ge eq x true l = l.filter fun z => !eq z
  | [] => rfl
  | z :: l => by
    rw [insB]
    simp only [Bool.not_true, Bool.false_and, Bool.false_eq_true, if_false, List.nil_append, Bool.true_or, insB_true (l := l)]
    cases h : eq z
    · rw [List.filter_cons_of_pos (by simp [h])]; rfl
    · rw [List.filter_cons_of_neg (by simp [h])]; rfl
theorem insB_pair {lt : List Int → List Int → Prop} {ge eq : List Int → Bool} {x : List Int} (h1 : ∀ z, ge z = false → lt z x) (h2 : ∀ z, ge z = true → eq z = false → lt x z) (h3 : ∀ z y, ge z = true → lt z y → lt x y) : ∀ {l : List (List Int)} {d : Bool}, l.Pairwise lt → (insB ge eq x d l).Pairwise lt
  | l, true, h => by rw [insB_true]; exact h.filter _
  | [], false, _ => List.pairwise_singleton ..
  | z :: l, false, h => by
    rw [List.pairwise_cons] at h
    rw [insB]
    cases hz : ge z with
    | true =>
      simp only [Bool.not_false, Bool.true_and, if_true, Bool.or_true]
      have hr : ((if eq z = true then [] else [z]) ++ insB ge eq x true l).Pairwise lt := by
        rw [insB_true]
        cases eq z
        · exact List.pairwise_cons.2 ⟨fun y hy => h.1 y (List.mem_filter.1 hy).1, h.2.filter _⟩
        · exact h.2.filter _
      refine List.pairwise_cons.2 ⟨fun y hy => ?_, hr⟩
      have hy : y ∈ (if eq z = true then [] else [z]) ++ insB ge eq x true l := hy
      rcases List.mem_append.1 hy with hy | hy
      · cases he : eq z with
        | true => rw [he] at hy; cases hy
        | false =>
          rw [he, if_neg (by simp), List.mem_singleton] at hy
          subst hy; exact h2 _ hz he
      · rcases insB_mem.1 hy with hy | hy
        · cases hy.1
        · exact h3 z y hz (h.1 y hy.1)
    | false =>
      simp only [Bool.not_false, Bool.and_false, Bool.false_eq_true, if_false, List.nil_append, Bool.or_false]
      have hr := insB_pair h1 h2 h3 (l := l) (d := false) h.2
      cases eq z with
      | true => exact hr
      | false =>
        refine List.pairwise_cons.2 ⟨fun y hy => ?_, hr⟩
        rcases insB_mem.1 hy with hy | hy
        · rw [hy.2]; exact h1 z hz
        · exact h.1 y hy.1

def ltK (x y : List Int) : Prop := k0 x < k0 y
def ltS (x y : List Int) : Prop := k0 x < k0 y ∨ k0 x = k0 y ∧ k1 x < k1 y
def geK (x z : List Int) : Bool := decide (k0 x ≤ k0 z)
def eqK (x z : List Int) : Bool := decide (k0 z = k0 x)
def geS (x z : List Int) : Bool := decide (k0 x < k0 z ∨ k0 z = k0 x ∧ k1 x ≤ k1 z)
def eqS (x z : List Int) : Bool := decide (k0 z = k0 x ∧ k1 z = k1 x)
def insK (x : List Int) (d : Bool) (l : List (List Int)) : List (List Int) := insB (geK x) (eqK x) x d l
def insS (x : List Int) (d : Bool) (l : List (List Int)) : List (List Int) := insB (geS x) (eqS x) x d l
theorem insK_pair {x : List Int} {d : Bool} {l : List (List Int)} (h : l.Pairwise ltK) : (insK x d l).Pairwise ltK :=
  insB_pair (fun z hz => by simp only [geK, ltK, decide_eq_false_iff_not] at *; omega) (fun z h1 h2 => by simp only [geK, eqK, ltK, decide_eq_false_iff_not, decide_eq_true_eq] at *; omega) (fun z y h1 h2 => by simp only [geK, ltK, decide_eq_true_eq] at *; omega) h
theorem insS_pair {x : List Int} {d : Bool} {l : List (List Int)} (h : l.Pairwise ltS) : (insS x d l).Pairwise ltS :=
  insB_pair (fun z hz => by simp only [geS, ltS, decide_eq_false_iff_not] at *; omega) (fun z h1 h2 => by simp only [geS, eqS, ltS, decide_eq_false_iff_not, decide_eq_true_eq] at *; omega) (fun z y h1 h2 => by simp only [geS, ltS, decide_eq_true_eq] at *; omega) h
theorem insK_mem {x y : List Int} {d : Bool} {l : List (List Int)} : y ∈ insK x d l ↔ (d = false ∧ y = x) ∨ (y ∈ l ∧ k0 y ≠ k0 x) := by
  rw [insK, insB_mem, eqK, decide_eq_false_iff_not]
theorem insS_mem {x y : List Int} {d : Bool} {l : List (List Int)} : y ∈ insS x d l ↔ (d = false ∧ y = x) ∨ (y ∈ l ∧ ¬ (k0 y = k0 x ∧ k1 y = k1 x)) := by
  rw [insS, insB_mem, eqS, decide_eq_false_iff_not]

theorem insK_e1 {x z : List Int} {l : List (List Int)} (h : k0 z = k0 x) : insK x true (z :: l) = insK x true l := by simp [insK, insB, eqK, h]
theorem insK_e2 {x z : List Int} {l : List (List Int)} (h : ¬ k0 z = k0 x) : insK x true (z :: l) = z :: insK x true l := by simp [insK, insB, eqK, h]
theorem insK_e3 {x z : List Int} {l : List (List Int)} (h : k0 z = k0 x) : insK x false (z :: l) = x :: insK x true l := by simp [insK, insB, eqK, geK, h]
theorem insK_e4 {x z : List Int} {l : List (List Int)} (hg : k0 x ≤ k0 z) (h : ¬ k0 z = k0 x) : insK x false (z :: l) = x :: z :: insK x true l := by simp [insK, insB, eqK, geK, h, hg]
theorem insK_e5 {x z : List Int} {l : List (List Int)} (hg : ¬ k0 x ≤ k0 z) : insK x false (z :: l) = z :: insK x false l := by
  have h : ¬ k0 z = k0 x := by omega
  simp [insK, insB, eqK, geK, h, hg]

def zer5 : List Int := [0, 0, 0, 0, 0]
/-- A change's new values; zeros, if there are none. -/
def isV (v : List Int) : List Int := if v = [] then zer5 else v
def outK (A : Int) (l : List (List Int)) : List (List Int) := l.filter fun z => decide (k0 z ≠ A)
/-- A list of one key, in which a change's values are set. -/
def putK (A : Int) (v : List Int) (l : List (List Int)) : List (List Int) := if v = [] then outK A l else insK (A :: v) false (outK A l)
theorem putK_mem {A : Int} {v y : List Int} {l : List (List Int)} : y ∈ putK A v l ↔ (v ≠ [] ∧ y = A :: v) ∨ (y ∈ l ∧ k0 y ≠ A) := by
  unfold putK outK
  by_cases h : v = []
  · rw [if_pos h, List.mem_filter, decide_eq_true_eq]
    simp [h]
  · rw [if_neg h, insK_mem, List.mem_filter, decide_eq_true_eq]
    simp only [k0, List.headD_cons]
    simp [h]
theorem putK_pair {A : Int} {v : List Int} {l : List (List Int)} (h : l.Pairwise ltK) : (putK A v l).Pairwise ltK := by
  unfold putK
  split
  · exact h.filter _
  · exact insK_pair (h.filter _)
theorem putK_len {A : Int} {v : List Int} {l : List (List Int)} : (putK A v l).length ≤ l.length + 1 := by
  have h0 : (outK A l).length ≤ l.length := List.length_filter_le ..
  unfold putK
  split
  · omega
  · have := insB_len (ge := geK (A :: v)) (eq := eqK (A :: v)) (x := A :: v) (l := outK A l) (d := false)
    simp only [Bool.false_eq_true, if_false] at this
    unfold insK; omega
def putS (A B : Int) (v : List Int) (l : List (List Int)) : List (List Int) := insS [A, B, k0 (isV v)] (decide (k0 (isV v) = 0)) (insS [A, B, 0] true l)
theorem putS_mem {A B : Int} {v y : List Int} {l : List (List Int)} : y ∈ putS A B v l ↔ (k0 (isV v) ≠ 0 ∧ y = [A, B, k0 (isV v)]) ∨ (y ∈ l ∧ ¬ (k0 y = A ∧ k1 y = B)) := by
  unfold putS
  rw [insS_mem, insS_mem, decide_eq_false_iff_not]
  simp only [k0, k1, List.headD_cons, List.tail_cons, Bool.true_eq_false, false_and, false_or, and_assoc, and_self]
theorem putS_pair {A B : Int} {v : List Int} {l : List (List Int)} (h : l.Pairwise ltS) : (putS A B v l).Pairwise ltS := insS_pair (insS_pair h)
theorem putS_len {A B : Int} {v : List Int} {l : List (List Int)} : (putS A B v l).length ≤ l.length + 1 := by
  have h1 := insB_len (ge := geS [A, B, 0]) (eq := eqS [A, B, 0]) (x := [A, B, 0]) (l := l) (d := true)
  have h2 := insB_len (ge := geS [A, B, k0 (isV v)]) (eq := eqS [A, B, k0 (isV v)]) (x := [A, B, k0 (isV v)]) (l := insS [A, B, 0] true l) (d := decide (k0 (isV v) = 0))
  unfold putS insS at *
  simp only [if_true] at h1
  split at h2 <;> omega
def putO (A : Int) (v : List Int) (l : List (List Int)) : List (List Int) := insK (A :: isV v) (decide (nthI (isV v) 3 = 0)) l
theorem putO_mem {A : Int} {v y : List Int} {l : List (List Int)} : y ∈ putO A v l ↔ (nthI (isV v) 3 ≠ 0 ∧ y = A :: isV v) ∨ (y ∈ l ∧ k0 y ≠ A) := by
  unfold putO
  rw [insK_mem, decide_eq_false_iff_not]
  simp only [k0, List.headD_cons, ne_eq]
theorem putO_len {A : Int} {v : List Int} {l : List (List Int)} : (putO A v l).length ≤ l.length + 1 := by
  have h1 := insB_len (ge := geK (A :: isV v)) (eq := eqK (A :: isV v)) (x := A :: isV v) (l := l) (d := decide (nthI (isV v) 3 = 0))
  unfold putO insK
  split at h1 <;> omega

/-- A book in which a change is set, as the document says. -/
def setB (b : Bk) (e : ChP) : Bk :=
  if e.1.1 = 1 then { b with H := putK e.1.2.1 e.2.2 b.H }
  else if e.1.1 = 2 then { b with S := putS e.1.2.1 e.1.2.2 e.2.2 b.S, c := if e.2.2 ≠ [] ∧ k0 (isV e.2.2) = 0 then -1 else b.c }
  else if e.1.1 = 3 then { b with O := putO e.1.2.1 e.2.2 b.O, c := if e.2.2 ≠ [] ∧ nthI (isV e.2.2) 3 = 0 then -1 else b.c }
  else if e.1.1 = 4 then { b with R := putK e.1.2.1 e.2.2 b.R }
  else if e.1.1 = 5 then { b with c := if 0 ≤ b.c then k0 (isV e.2.2) else b.c }
  else b

theorem inR {b : Bk} (hi : BkIn b) (k : K3T) (v : List Int) : (k, v) ∈ rowsB b ↔ (k.1 = 1 ∧ k.2.2 = 0 ∧ k.2.1 :: v ∈ b.H) ∨ (k.1 = 2 ∧ k.2.1 :: k.2.2 :: v ∈ b.S) ∨ (k.1 = 3 ∧ k.2.2 = 0 ∧ k.2.1 :: v ∈ b.O) ∨ (k.1 = 4 ∧ k.2.2 = 0 ∧ k.2.1 :: v ∈ b.R) ∨ (k = (5, 0, 0) ∧ v = [b.c]) := by
  have one : ∀ {l : Int} {L : List (List Int)} {sz : Nat}, 0 < sz → Recs sz L → ((∃ x, x ∈ L ∧ r1 l x = (k, v)) ↔ (k.1 = l ∧ k.2.2 = 0 ∧ k.2.1 :: v ∈ L)) := by
    intro l L sz hs hL
    constructor
    · rintro ⟨x, hx, e⟩
      have hl := (hL x hx).1
      match x, hl, hx, e with
      | [], hl, _, _ => simp at hl; omega
      | y :: x, _, hx, e =>
        cases e
        exact ⟨rfl, rfl, hx⟩
    · rintro ⟨rfl, h, hx⟩
      refine ⟨_, hx, ?_⟩
      obtain ⟨k1, k2, k3⟩ := k
      have h : k3 = 0 := h
      subst h; rfl
  have two : (∃ x, x ∈ b.S ∧ r2 x = (k, v)) ↔ (k.1 = 2 ∧ k.2.1 :: k.2.2 :: v ∈ b.S) := by
    constructor
    · rintro ⟨x, hx, e⟩
      have hl := (hi.r2 x hx).1
      match x, hl, hx, e with
      | y :: z :: x, _, hx, e =>
        cases e
        exact ⟨rfl, hx⟩
    · rintro ⟨h, hx⟩
      refine ⟨_, hx, ?_⟩
      obtain ⟨k1, k2, k3⟩ := k
      have h : k1 = 2 := h
      subst h; rfl
  unfold rowsB
  simp only [List.mem_append, List.mem_map, List.mem_singleton]
  rw [one (by omega) hi.r1, two, one (by omega) hi.r3, one (by omega) hi.r4, Prod.mk.injEq]
structure Srt (b : Bk) : Prop where
  h1 : b.H.Pairwise ltK
  h2 : b.S.Pairwise ltS
  h3 : b.O.Pairwise ltK
  h4 : b.R.Pairwise ltK
theorem srt_iff {b : Bk} : (rowsB b).Pairwise (fun p q => lt3 p.1 q.1) ↔ Srt b := by
  have e1 : ∀ (l : Int) (x y : List Int), lt3 (r1 l x).1 (r1 l y).1 ↔ ltK x y := fun l x y => by simp [r1, lt3, ltK]
  have e2 : ∀ (x y : List Int), lt3 (r2 x).1 (r2 y).1 ↔ ltS x y := fun x y => by simp [r2, lt3, ltS]
  unfold rowsB
  simp only [List.pairwise_append, List.pairwise_map, List.pairwise_singleton, List.mem_map, List.mem_append, List.mem_singleton, e1, e2]
  constructor
  · rintro ⟨h1, ⟨h2, ⟨h3, ⟨h4, -⟩, -⟩, -⟩, -⟩
    exact ⟨h1, h2, h3, h4⟩
  · intro h
    refine ⟨h.h1, ⟨h.h2, ⟨h.h3, ⟨h.h4, trivial, ?_⟩, ?_⟩, ?_⟩, ?_⟩
    · rintro _ ⟨x, -, rfl⟩ _ rfl
      simp [r1, lt3]
    · rintro _ ⟨x, -, rfl⟩ q (⟨y, -, rfl⟩ | rfl) <;> simp [r1, lt3]
    · rintro _ ⟨x, -, rfl⟩ q (⟨y, -, rfl⟩ | ⟨y, -, rfl⟩ | rfl) <;> simp [r1, r2, lt3]
    · rintro _ ⟨x, -, rfl⟩ q (⟨y, -, rfl⟩ | ⟨y, -, rfl⟩ | ⟨y, -, rfl⟩ | rfl) <;> simp [r1, r2, lt3]
theorem setB_srt {b : Bk} (h : Srt b) (e : ChP) : Srt (setB b e) := by
  unfold setB
  split
  · exact ⟨putK_pair h.h1, h.h2, h.h3, h.h4⟩
  split
  · exact ⟨h.h1, putS_pair h.h2, h.h3, h.h4⟩
  split
  · exact ⟨h.h1, h.h2, insK_pair h.h3, h.h4⟩
  split
  · exact ⟨h.h1, h.h2, h.h3, putK_pair h.h4⟩
  split
  · exact ⟨h.h1, h.h2, h.h3, h.h4⟩
  · exact h
/-- A book's lists aren't longer than n. -/
structure BkLe (n : Nat) (b : Bk) : Prop where
  l1 : b.H.length ≤ n
  l2 : b.S.length ≤ n
  l3 : b.O.length ≤ n
  l4 : b.R.length ≤ n
theorem BkLe.up {n m : Nat} {b : Bk} (h : BkLe n b) (hm : n ≤ m) : BkLe m b := ⟨Nat.le_trans h.l1 hm, Nat.le_trans h.l2 hm, Nat.le_trans h.l3 hm, Nat.le_trans h.l4 hm⟩
theorem setB_le {n : Nat} {b : Bk} (h : BkLe n b) (e : ChP) : BkLe (n + 1) (setB b e) := by
  obtain ⟨h1, h2, h3, h4⟩ := h
  have p1 := @putK_len e.1.2.1 e.2.2 b.H
  have p2 := @putS_len e.1.2.1 e.1.2.2 e.2.2 b.S
  have p3 := @putO_len e.1.2.1 e.2.2 b.O
  have p4 := @putK_len e.1.2.1 e.2.2 b.R
  unfold setB
  split
  · exact ⟨by show (putK _ _ _).length ≤ _; omega, by show b.S.length ≤ _; omega, by show b.O.length ≤ _; omega, by show b.R.length ≤ _; omega⟩
  split
  · exact ⟨by show b.H.length ≤ _; omega, by show (putS _ _ _ _).length ≤ _; omega, by show b.O.length ≤ _; omega, by show b.R.length ≤ _; omega⟩
  split
  · exact ⟨by show b.H.length ≤ _; omega, by show b.S.length ≤ _; omega, by show (putO _ _ _).length ≤ _; omega, by show b.R.length ≤ _; omega⟩
  split
  · exact ⟨by show b.H.length ≤ _; omega, by show b.S.length ≤ _; omega, by show b.O.length ≤ _; omega, by show (putK _ _ _).length ≤ _; omega⟩
  split
  · exact ⟨by show b.H.length ≤ _; omega, by show b.S.length ≤ _; omega, by show b.O.length ≤ _; omega, by show b.R.length ≤ _; omega⟩
  · exact ⟨by omega, by omega, by omega, by omega⟩

/-- A change that may be, of numbers of 64 bits. -/
structure ChgOk (e : ChP) : Prop where
  l1 : 1 ≤ e.1.1
  l5 : e.1.1 ≤ 5
  k1 : inK .i64 e.1.2.1
  k2 : inK .i64 e.1.2.2
  v : ∀ x, x ∈ e.2.2 → inK .i64 x
  len : e.2.2 ≠ [] → e.2.2.length = widN e.1.1
  b0 : e.1.1 ≠ 2 → e.1.2.2 = 0
  a0 : e.1.1 = 5 → e.1.2.1 = 0
  e5 : e.1.1 = 5 → e.2.2 ≠ []
theorem ChgOk.of {e : ChP} (h : mayC e = true) (hk : In3 e.1) (hv : ∀ x, x ∈ e.2.2 → inK .i64 x) : ChgOk e := by
  simp only [mayC, Bool.and_eq_true, decide_eq_true_eq] at h
  obtain ⟨⟨h1, h2, h3, h4, h5⟩, h6, h7⟩ := h
  refine ⟨h1, h2, hk.2.1, hk.2.2, hv, fun hne => ?_, h4, h5, fun h5 hn => ?_⟩
  · unfold valuesB at h7
    rw [if_neg hne, Bool.and_eq_true, decide_eq_true_eq] at h7
    exact h7.1
  · unfold valuesB at h7
    rw [if_pos hn, decide_eq_true_eq] at h7
    exact h7 h5
theorem ChgOk.five {e : ChP} (h : ChgOk e) (h5 : e.1.1 = 5) : e.1 = (5, 0, 0) := by
  have h1 := h.a0 h5
  have h2 := h.b0 (by omega)
  obtain ⟨⟨a, b, c⟩, v⟩ := e
  simp only at *
  subst h5 h1 h2; rfl
theorem len1k {v : List Int} (h : v.length = 1) : v = [k0 v] := by
  match v, h with
  | [x], _ => rfl
theorem isV_ne {v : List Int} (h : v ≠ []) : isV v = v := if_neg h
theorem setB_in {n : Nat} {b : Bk} {e : ChP} (hi : BkIn b) (hl : BkLe n b) (hn : n < 1048576) (he : ChgOk e) : BkIn (setB b e) := by
  have hle := (setB_le hl e).up (m := 1048576) (by omega)
  have rK : ∀ {sz : Nat} {l : List (List Int)}, Recs sz l → widN e.1.1 + 1 = sz → Recs sz (putK e.1.2.1 e.2.2 l) := by
    intro sz l hR hs y hy
    rcases putK_mem.1 hy with ⟨h1, rfl⟩ | h
    · refine ⟨by rw [List.length_cons, he.len h1]; exact hs, fun z hz => ?_⟩
      rcases List.mem_cons.1 hz with rfl | hz
      · exact he.k1
      · exact he.v z hz
    · exact hR y h.1
  have hk0 : inK .i64 (k0 (isV e.2.2)) := by
    by_cases h : e.2.2 = []
    · rw [isV, if_pos h]; simp [zer5, k0, inK]
    · rw [isV_ne h]; exact he.v _ (k0_mem (List.length_pos_iff.2 h))
  have hm1 : inK .i64 (-1) := by simp [inK]
  unfold setB at *
  split
  · rename_i h1
    rw [if_pos h1] at hle
    exact ⟨rK hi.r1 (by rw [h1]; rfl), hi.r2, hi.r3, hi.r4, hle.l1, hle.l2, hle.l3, hle.l4, hi.cc⟩
  rename_i h1
  rw [if_neg h1] at hle
  split
  · rename_i h2
    rw [if_pos h2] at hle
    refine ⟨hi.r1, fun y hy => ?_, hi.r3, hi.r4, hle.l1, hle.l2, hle.l3, hle.l4, ?_⟩
    · rcases putS_mem.1 hy with ⟨-, rfl⟩ | h
      · refine ⟨rfl, fun z hz => ?_⟩
        simp only [List.mem_cons, List.not_mem_nil, or_false] at hz
        rcases hz with rfl | rfl | rfl
        · exact he.k1
        · exact he.k2
        · exact hk0
      · exact hi.r2 y h.1
    · show inK .i64 (if _ then _ else _)
      split
      · exact hm1
      · exact hi.cc
  rename_i h2
  rw [if_neg h2] at hle
  split
  · rename_i h3
    rw [if_pos h3] at hle
    refine ⟨hi.r1, hi.r2, fun y hy => ?_, hi.r4, hle.l1, hle.l2, hle.l3, hle.l4, ?_⟩
    · rcases putO_mem.1 hy with ⟨hne, rfl⟩ | h
      · have hv : e.2.2 ≠ [] := fun h => hne (by rw [isV, if_pos h]; rfl)
        rw [isV_ne hv]
        refine ⟨by rw [List.length_cons, he.len hv, h3]; rfl, fun z hz => ?_⟩
        rcases List.mem_cons.1 hz with rfl | hz
        · exact he.k1
        · exact he.v z hz
      · exact hi.r3 y h.1
    · show inK .i64 (if _ then _ else _)
      split
      · exact hm1
      · exact hi.cc
  rename_i h3
  rw [if_neg h3] at hle
  split
  · rename_i h4
    rw [if_pos h4] at hle
    exact ⟨hi.r1, hi.r2, hi.r3, rK hi.r4 (by rw [h4]; rfl), hle.l1, hle.l2, hle.l3, hle.l4, hi.cc⟩
  rename_i h4
  rw [if_neg h4] at hle
  split
  · rename_i h5
    rw [if_pos h5] at hle
    refine ⟨hi.r1, hi.r2, hi.r3, hi.r4, hle.l1, hle.l2, hle.l3, hle.l4, ?_⟩
    show inK .i64 (if _ then _ else _)
    split
    · exact hk0
    · exact hi.cc
  · exact hi

/-- A change that makes a book none: a stake of nothing, an order with nothing left. -/
def badC (e : ChP) : Prop := e.2.2 ≠ [] ∧ (e.1.1 = 2 ∧ k0 e.2.2 = 0 ∨ e.1.1 = 3 ∧ nthI e.2.2 3 = 0)
theorem setB_iff {n : Nat} {b : Bk} {e : ChP} (hi : BkIn b) (hl : BkLe n b) (hn : n < 1048576) (he : ChgOk e) (hb : ¬ badC e) (h5 : e.1.1 = 5 → 0 ≤ b.c) (k : K3T) (v : List Int) : (k, v) ∈ rowsB (setB b e) ↔ (k ≠ e.1 ∧ (k, v) ∈ rowsB b) ∨ (k = e.1 ∧ v = e.2.2 ∧ v ≠ []) := by
  rw [inR (setB_in hi hl hn he), inR hi]
  obtain ⟨h1, h2, -, -, -, hlen, hb0, ha0, he5⟩ := he
  obtain ⟨⟨l, A, B⟩, was, is⟩ := e
  obtain ⟨p, q, r⟩ := k
  dsimp only at *
  have hl5 : l = 1 ∨ l = 2 ∨ l = 3 ∨ l = 4 ∨ l = 5 := by omega
  rcases hl5 with rfl | rfl | rfl | rfl | rfl
  · have hB := hb0 (by omega)
    subst hB
    rw [show setB b ((1, A, 0), was, is) = { b with H := putK A is b.H } from rfl]
    dsimp only
    rw [putK_mem]
    simp only [k0, List.headD_cons, List.cons.injEq, Prod.mk.injEq, ne_eq]
    clear hi hl hn h5 hb ha0 he5 hb0 h1 h2 hlen
    by_cases hp : p = 1
    · subst hp
      grind (splits := 25)
    · grind (splits := 25)
  · rw [show setB b ((2, A, B), was, is) = { b with S := putS A B is b.S, c := if is ≠ [] ∧ k0 (isV is) = 0 then -1 else b.c } from rfl]
    dsimp only
    have hc : (if is ≠ [] ∧ k0 (isV is) = 0 then -1 else b.c) = b.c := by
      rw [if_neg]
      rintro ⟨h1, h2⟩
      rw [isV_ne h1] at h2
      exact hb ⟨h1, .inl ⟨rfl, h2⟩⟩
    rw [hc, putS_mem]
    have hv : ∀ u : List Int, (k0 (isV is) ≠ 0 ∧ u = [k0 (isV is)]) ↔ (u = is ∧ u ≠ []) := fun u => by
      by_cases hne : is = []
      · subst hne
        simp [isV, zer5, k0]
      · have h1 := len1k (hlen hne)
        have hz : k0 is ≠ 0 := fun h => hb ⟨hne, .inl ⟨rfl, h⟩⟩
        rw [isV_ne hne, ← h1]
        constructor
        · rintro ⟨-, rfl⟩; exact ⟨rfl, hne⟩
        · rintro ⟨rfl, -⟩; exact ⟨hz, rfl⟩
    have hv := hv v
    simp only [k0, k1, List.headD_cons, List.tail_cons, List.cons.injEq, Prod.mk.injEq, ne_eq] at hv ⊢
    generalize (isV is).headD 0 = z at *
    clear hi hl hn h5 hb ha0 he5 hb0 h1 h2 hc hlen
    by_cases hp : p = 2
    · subst hp
      grind (splits := 25)
    · grind (splits := 25)
  · have hB := hb0 (by omega)
    subst hB
    rw [show setB b ((3, A, 0), was, is) = { b with O := putO A is b.O, c := if is ≠ [] ∧ nthI (isV is) 3 = 0 then -1 else b.c } from rfl]
    dsimp only
    have hc : (if is ≠ [] ∧ nthI (isV is) 3 = 0 then -1 else b.c) = b.c := by
      rw [if_neg]
      rintro ⟨h1, h2⟩
      rw [isV_ne h1] at h2
      exact hb ⟨h1, .inr ⟨rfl, h2⟩⟩
    rw [hc, putO_mem]
    have hv : (nthI (isV is) 3 ≠ 0 ∧ v = isV is) ↔ (v = is ∧ v ≠ []) := by
      by_cases hne : is = []
      · subst hne
        simp [isV, zer5, nthI]
      · have hz : nthI is 3 ≠ 0 := fun h => hb ⟨hne, .inr ⟨rfl, h⟩⟩
        rw [isV_ne hne]
        constructor
        · rintro ⟨-, rfl⟩; exact ⟨rfl, hne⟩
        · rintro ⟨rfl, -⟩; exact ⟨hz, rfl⟩
    simp only [k0, List.headD_cons, List.cons.injEq, Prod.mk.injEq, ne_eq] at hv ⊢
    generalize nthI (isV is) 3 = z at *
    generalize isV is = u at *
    clear hi hl hn h5 hb ha0 he5 hb0 h1 h2 hc hlen
    by_cases hp : p = 3
    · subst hp
      grind (splits := 25)
    · grind (splits := 25)
  · have hB := hb0 (by omega)
    subst hB
    rw [show setB b ((4, A, 0), was, is) = { b with R := putK A is b.R } from rfl]
    dsimp only
    rw [putK_mem]
    simp only [k0, List.headD_cons, List.cons.injEq, Prod.mk.injEq, ne_eq]
    clear hi hl hn h5 hb ha0 he5 hb0 h1 h2 hlen
    by_cases hp : p = 4
    · subst hp
      grind (splits := 25)
    · grind (splits := 25)
  · have hB := hb0 (by omega)
    subst hB
    have hA := ha0 rfl
    subst hA
    have hne := he5 rfl
    have h1 : is = [k0 is] := len1k (hlen hne)
    rw [show setB b ((5, 0, 0), was, is) = { b with c := if 0 ≤ b.c then k0 (isV is) else b.c } from rfl]
    dsimp only
    rw [if_pos (h5 rfl), isV_ne hne, ← h1]
    simp only [Prod.mk.injEq, ne_eq]
    clear hi hl hn h5 hb ha0 he5 hb0 h1 h2 hlen
    by_cases hp : p = 5
    · subst hp
      grind (splits := 25)
    · grind (splits := 25)
theorem setB_isBk {n : Nat} {f : FunT} {b : Bk} {e : ChP} (h : IsBk f b) (hl : BkLe n b) (hn : n < 1048576) (he : ChgOk e) (hb : ¬ badC e) (h5 : e.1.1 = 5 → 0 ≤ b.c) : IsBk (upd f e.1 e.2.2) (setB b e) := by
  refine ⟨setB_in h.inn hl hn he, srt_iff.2 (setB_srt (srt_iff.1 h.ris) e), fun k v => ?_⟩
  rw [setB_iff h.inn hl hn he hb h5, h.iff]
  unfold upd
  by_cases hk : k = e.1
  · rw [if_pos hk]
    constructor
    · rintro (h | h)
      · exact absurd hk h.1
      · exact ⟨h.2.1.symm, h.2.2⟩
    · rintro ⟨h1, h2⟩
      exact .inr ⟨hk, h1.symm, h2⟩
  · rw [if_neg hk]
    constructor
    · rintro (h | h)
      · exact h.2
      · exact absurd h.1 hk
    · intro h
      exact .inl ⟨hk, h⟩

theorem chkP_some : ∀ {l : List ChP} {f g : FunT}, l.Pairwise (fun p q => lt3 p.1 q.1) → chkP f l = some g → (∀ e, e ∈ l → f e.1 = e.2.1 ∧ g e.1 = e.2.2) ∧ ∀ k, (∀ e, e ∈ l → e.1 ≠ k) → g k = f k
  | [], f, g, _, h => by
    rw [chkP, Option.some.injEq] at h
    subst h
    exact ⟨fun _ he => absurd he List.not_mem_nil, fun _ _ => rfl⟩
  | e :: l, f, g, hp, h => by
    rw [List.pairwise_cons] at hp
    rw [chkP] at h
    by_cases hf : f e.1 = e.2.1
    · rw [if_pos hf] at h
      obtain ⟨h1, h2⟩ := chkP_some hp.2 h
      refine ⟨fun e' he' => ?_, fun k hk => ?_⟩
      · rcases List.mem_cons.1 he' with rfl | he'
        · refine ⟨hf, ?_⟩
          rw [h2 _ fun d hd => (lt3_ne (hp.1 d hd)).symm]
          unfold upd; rw [if_pos rfl]
        · have h3 := h1 e' he'
          have hne : e'.1 ≠ e.1 := (lt3_ne (hp.1 e' he')).symm
          unfold upd at h3
          rw [if_neg hne] at h3
          exact h3
      · rw [h2 k fun d hd => hk d (List.mem_cons_of_mem _ hd)]
        unfold upd
        rw [if_neg fun h => hk e (List.mem_cons_self ..) h.symm]
    · rw [if_neg hf] at h; cases h
theorem chkP_none : ∀ {l : List ChP} {f : FunT}, l.Pairwise (fun p q => lt3 p.1 q.1) → chkP f l = none → ∃ e, e ∈ l ∧ f e.1 ≠ e.2.1
  | [], f, _, h => by cases h
  | e :: l, f, hp, h => by
    rw [List.pairwise_cons] at hp
    rw [chkP] at h
    by_cases hf : f e.1 = e.2.1
    · rw [if_pos hf] at h
      obtain ⟨d, hd, hn⟩ := chkP_none hp.2 h
      have hne : d.1 ≠ e.1 := (lt3_ne (hp.1 d hd)).symm
      unfold upd at hn
      rw [if_neg hne] at hn
      exact ⟨d, List.mem_cons_of_mem _ hd, hn⟩
    · exact ⟨e, List.mem_cons_self .., hf⟩
theorem setB_c {b : Bk} {e : ChP} (h : e.1.1 ≠ 5) (hb : ¬ badC e) : (setB b e).c = b.c := by
  unfold setB
  split
  · rfl
  split
  · rename_i h2
    show (if _ then _ else _) = _
    rw [if_neg]
    rintro ⟨h1, h3⟩
    rw [isV_ne h1] at h3
    exact hb ⟨h1, .inl ⟨h2, h3⟩⟩
  split
  · rename_i h2
    show (if _ then _ else _) = _
    rw [if_neg]
    rintro ⟨h1, h3⟩
    rw [isV_ne h1] at h3
    exact hb ⟨h1, .inr ⟨h2, h3⟩⟩
  split
  · rfl
  rfl
theorem fold_isBk : ∀ {l : List ChP} {n : Nat} {f g : FunT} {b : Bk}, IsBk f b → BkLe n b → n + l.length ≤ 1048576 → l.Pairwise (fun p q => lt3 p.1 q.1) → (∀ e, e ∈ l → ChgOk e ∧ ¬ badC e) → ((∃ e, e ∈ l ∧ e.1.1 = 5) → 0 ≤ b.c) → chkP f l = some g → IsBk g (l.foldl setB b)
  | [], _, f, g, b, h, _, _, _, _, _, hc => by
    rw [chkP, Option.some.injEq] at hc
    subst hc; exact h
  | e :: l, n, f, g, b, h, hl, hn, hp, ha, h5, hc => by
    rw [List.pairwise_cons] at hp
    rw [List.length_cons] at hn
    have he := ha e (List.mem_cons_self ..)
    rw [chkP] at hc
    by_cases hf : f e.1 = e.2.1
    · rw [if_pos hf] at hc
      rw [List.foldl_cons]
      refine fold_isBk (n := n + 1) (setB_isBk h hl (by omega) he.1 he.2 fun h => h5 ⟨e, List.mem_cons_self .., h⟩) (setB_le hl e) (by omega) hp.2 (fun d hd => ha d (List.mem_cons_of_mem _ hd)) ?_ hc
      rintro ⟨d, hd, hd5⟩
      have hne : e.1.1 ≠ 5 := fun h => by
        have h1 := he.1.five h
        have h2 := (ha d (List.mem_cons_of_mem _ hd)).1.five hd5
        exact lt3_ne (hp.1 d hd) (h1.trans h2.symm)
      rw [setB_c hne he.2]
      exact h5 ⟨d, List.mem_cons_of_mem _ hd, hd5⟩
    · rw [if_neg hf] at hc; cases hc
theorem setB_neg {b : Bk} (h : b.c < 0) (e : ChP) : (setB b e).c < 0 := by
  unfold setB
  split
  · exact h
  split
  · show (if _ then _ else _) < (0 : Int)
    split <;> omega
  split
  · show (if _ then _ else _) < (0 : Int)
    split <;> omega
  split
  · exact h
  split
  · show (if _ then _ else _) < (0 : Int)
    split <;> omega
  · exact h
theorem fold_neg : ∀ (l : List ChP) {b : Bk}, b.c < 0 → (l.foldl setB b).c < 0
  | [], _, h => h
  | e :: l, _, h => fold_neg l (setB_neg h e)
theorem setB_bad {b : Bk} {e : ChP} (h : badC e) : (setB b e).c < 0 := by
  obtain ⟨h1, h2⟩ := h
  unfold setB
  rcases h2 with ⟨h2, h3⟩ | ⟨h2, h3⟩
  · rw [if_neg (by omega), if_pos h2]
    show (if _ then _ else _) < (0 : Int)
    rw [if_pos ⟨h1, by rw [isV_ne h1]; exact h3⟩]; omega
  · rw [if_neg (by omega), if_neg (by omega), if_pos h2]
    show (if _ then _ else _) < (0 : Int)
    rw [if_pos ⟨h1, by rw [isV_ne h1]; exact h3⟩]; omega
theorem fold_bad {l : List ChP} {b : Bk} {e : ChP} (he : e ∈ l) (h : badC e) : (l.foldl setB b).c < 0 := by
  obtain ⟨l1, l2, rfl⟩ := List.append_of_mem he
  rw [List.foldl_append, List.foldl_cons]
  exact fold_neg l2 (setB_bad h)
theorem mayB_neg {b : Bk} (h : b.c < 0) : mayB b = false := by
  unfold mayB
  rw [decide_eq_false (by omega), Bool.false_and, Bool.and_false]
theorem mayB_bad {f : FunT} {b : Bk} {e : ChP} (h : IsBk f b) (he : badC e) (hf : f e.1 = e.2.2) (hok : ChgOk e) : mayB b = false := by
  obtain ⟨h1, h2⟩ := he
  have hm := (h.iff e.1 e.2.2).2 ⟨hf, h1⟩
  rw [inR h.inn] at hm
  rw [Bool.eq_false_iff]
  intro hb
  simp only [mayB, Bool.and_eq_true] at hb
  have hS := hb.2.2.2.2.1
  have hO := hb.2.2.2.2.2
  rcases h2 with ⟨h2, h3⟩ | ⟨h2, h3⟩
  · rcases hm with hm | hm | hm | hm | hm
    · omega
    · have := List.any_eq_false.1 (by simpa using hS) _ hm.2
      have hv := hok.len h1
      rw [h2] at hv
      rw [len1k hv, h3] at this
      simp [badS, nthI] at this
    · omega
    · omega
    · rw [hm.1] at h2; cases h2
  · rcases hm with hm | hm | hm | hm | hm
    · omega
    · omega
    · have := List.any_eq_false.1 (by simpa using hO) _ hm.2.2
      have e4 : nthI (e.1.2.1 :: e.2.2) 4 = nthI e.2.2 3 := by simp [nthI]
      simp only [badO, Bool.or_eq_true, decide_eq_true_eq, not_or] at this
      omega
    · omega
    · rw [hm.1] at h2; cases h2
theorem IsBk.uniq {f : FunT} {a b : Bk} (ha : IsBk f a) (hb : IsBk f b) : a = b := by
  have : rowsB a = rowsB b := strict_eq (lt := fun p q : RowB => lt3 p.1 q.1) (fun _ => lt3_irrefl _) (fun _ _ _ => lt3_trans) ha.ris hb.ris fun r => by
    obtain ⟨k, v⟩ := r
    rw [ha.iff, hb.iff]
  obtain ⟨h1, h2, h3, h4, h5⟩ := rowsB_inj ha.inn hb.inn this
  obtain ⟨aH, aS, aO, aR, ac⟩ := a
  obtain ⟨bH, bS, bO, bR, bc⟩ := b
  simp only at *
  subst h1 h2 h3 h4 h5; rfl
/-- WHAT A PATCH MAKES: the program's book is the document's, or neither may be. -/
theorem patch_law {n : Nat} {a : Bk} {l : List ChP} {g : FunT} (hi : BkIn a) (hl : BkLe n a) (hn : n + l.length ≤ 1048576) (ha : mayB a = true) (hr : RightP l) (hok : ∀ e, e ∈ l → ChgOk e) (hc : chkP (valB a) l = some g) {b : Bk} (hb : IsBk g b) : mayB (l.foldl setB a) = mayB b ∧ (mayB b = true → l.foldl setB a = b) := by
  have hla : listsB a = true := by simp only [mayB, Bool.and_eq_true] at ha; exact ha.1
  have h0 : IsBk (valB a) a := ⟨hi, rowsB_ris hla, (tabB hi hla).iff⟩
  by_cases hbad : ∃ e, e ∈ l ∧ badC e
  · obtain ⟨e, he, hbe⟩ := hbad
    have h1 := mayB_bad hb hbe ((chkP_some hr.ris hc).1 e he).2 (hok e he)
    rw [h1]
    exact ⟨mayB_neg (fold_bad he hbe), fun h => by cases h⟩
  · have hc0 : 0 ≤ a.c := by
      simp only [mayB, Bool.and_eq_true, decide_eq_true_eq] at ha
      exact ha.2.1.1
    have h1 := fold_isBk h0 hl hn hr.ris (fun e he => ⟨hok e he, fun h => hbad ⟨e, he, h⟩⟩) (fun _ => hc0) hc
    have := h1.uniq hb
    rw [this]
    exact ⟨rfl, fun _ => rfl⟩
end Go.Proofs

/-
  Walks of layer 12's document: SetHolder.
-/
namespace Go.Proofs
open Go Go.Eng
set_option maxRecDepth 100000
set_option maxHeartbeats 4000000
attribute [local irreducible] Tri

set_option maxHeartbeats 1000000 in
theorem Tryd.SetHolder_w (b : Bk) (A : BkA) (x : List Int) (w : World) (hi : BkIn b) (hxl : x.length = 4) (ho : BkOk w b A) :
    Tri Tryd.prog 59 [.agg ⟨bkV b A⟩, .agg ⟨i64s x⟩] w [] (fun v bx hp => bx = [] ∧ ∃ (g : Option Nat) (c : Nat), v = .agg ⟨bkV { b with H := insK x false b.H } ⟨svA g, A.a2, A.a3, A.a4, c, A.c2, A.c3, A.c4⟩⟩ ∧ hp = [Seg.row g 52 4 (insK x false b.H).length c ((insK x false b.H).flatMap i64s)]) := by
  obtain ⟨a1, a2, a3, a4, c1, c2, c3, c4⟩ := A
  obtain ⟨x0, x1, x2, x3, rfl⟩ := len4 hxl
  refine Tri.enter (bx := []) (hp := []) Tryd.func59 rfl (by kernel_rfl) rfl (Own.nil w) ?_
  have hal : SlOk w a1 (b.H.flatMap i64s) := ho.h1
  have l1 := hi.l1
  have hm0 : ∀ k, k ∉ (⟨w, kys [] []⟩ : Base).mods := by simp [kys]
  refine At.run 100 true [] [] rfl trivial ?_
  refine At.step [] rfl rfl rfl rfl rfl trivial (OpOk.box rfl rfl rfl fun bq hbq => ?_)
  refine At.step [] rfl rfl rfl rfl rfl trivial (OpOk.box rfl rfl rfl fun b3 hb3 => ?_)
  refine At.step [] rfl rfl rfl rfl rfl trivial (OpOk.alloc (cs := [.slice none 0 0, .slice none 0 0, .slice none 0 0, .slice none 0 0, .int .i64 0]) rfl (by kernel_rfl) fun b4 hb4 => ?_)
  refine At.run 100 true [] [] rfl (by (repeat' apply And.intro) <;> first | exact True.intro | omega | (simp only [inK]; omega) | (simp; done) | (simp; omega) | exact decide_eq_true (by omega) | exact decide_eq_false (by omega) | rfl | (simp [Value.oneCell']; done) | exact i64s_one _ | exact AggOk.mk (by kernel_rfl) (by kernel_rfl)) ?_
  refine At.nilRow 52 4 ?_
  refine At.loop (n := b.H.length) (env0 := [(2, .pointer (some ⟨bq, 0, none⟩)), (3, .pointer (some ⟨b3, 0, none⟩)), (4, .pointer (some ⟨b4, 0, none⟩)), (5, sv none ([] : List (List Int)).length 0), (6, .bool false), (7, .int .i64 0)]) (fun m env bx hp => ∃ (i : Nat) (out : List (List Int)) (d : Bool) (g : Option Nat) (c : Nat), m = b.H.length - i ∧ i ≤ b.H.length ∧ out.length ≤ i + 1 ∧ insK [x0, x1, x2, x3] false b.H = out ++ insK [x0, x1, x2, x3] d (b.H.drop i) ∧ (d = false → out.length ≤ i) ∧
    env = [(2, .pointer (some ⟨bq, 0, none⟩)), (3, .pointer (some ⟨b3, 0, none⟩)), (4, .pointer (some ⟨b4, 0, none⟩)), (5, sv g out.length c), (6, .bool d), (7, .int .i64 i)] ∧ bx = [(b4, 27, [.slice none 0 0, .slice none 0 0, .slice none 0 0, .slice none 0 0, .int .i64 0]), (b3, 52, i64s [x0, x1, x2, x3]), (bq, 27, bkV b ⟨a1, a2, a3, a4, c1, c2, c3, c4⟩)] ∧ hp = [Seg.row g 52 4 out.length c (out.flatMap i64s)]) rfl ⟨0, [], false, none, 0, by simp, by omega, by simp, rfl, by simp, rfl, rfl, rfl⟩ ⟨rfl, rfl, rfl, rfl, rfl, rfl, trivial⟩ ?_
  rintro m env bx hp ⟨i, out, d, g, c, rfl, hi2, hol, hpre, hod, rfl, rfl, rfl⟩ ih
  by_cases hlt : i < b.H.length
  · obtain ⟨z, hz⟩ : ∃ z, b.H[i]? = some z := ⟨_, List.getElem?_eq_getElem hlt⟩
    obtain ⟨hzl, hzi⟩ := hi.r1 z (List.mem_of_getElem? hz)
    have hne := slNe (sz := 4) (by omega) (fun x hx => (hi.r1 x hx).1) hz
    obtain ⟨gg, o, rfl, hc⟩ := hal.get hne
    obtain ⟨z0, z1, z2, z3, rfl⟩ := len4 hzl
    have rE : ∀ {bx : Bx} {hp : List Seg}, RdW ⟨w, kys [] []⟩ bx hp gg (o + (i : Int).toNat * 4) (i64s [z0, z1, z2, z3]) := fun {_ _} => RdW.sl hc (hm0 _) (i * 4) (by omega) (fun j u hu => flat_rec (fun x hx => (hi.r1 x hx).1) hz j u hu)
    rw [drop_at hz] at hpre
    refine At.run 100 true [true] [hB 2] rfl (by (repeat' apply And.intro) <;> first | exact True.intro | omega | (simp only [inK]; omega) | (simp; done) | (simp; omega) | exact decide_eq_true (by omega) | exact decide_eq_false (by omega) | rfl | (simp [Value.oneCell']; done) | exact i64s_one _ | exact AggOk.mk (by kernel_rfl) (by kernel_rfl)) ?_
    cases d with
    | true =>
      refine At.quiet true [false] [] ⟨by kernel_rfl, by kernel_rfl, rfl, rfl, rfl⟩ rfl rfl rfl (by (repeat' apply And.intro) <;> first | exact RdW.at rE 0 rfl | exact True.intro | omega | rfl | (simp only [inK]; omega) | exact decide_eq_true (by omega) | exact decide_eq_false (by omega) | (simp; done) | (simp; omega) | (simp [Value.oneCell']; done) | exact i64s_one _ | exact AggOk.mk (by kernel_rfl) (by kernel_rfl)) ?_
      refine At.run 100 true [false] [] rfl (by (repeat' apply And.intro) <;> first | exact True.intro | omega | (simp only [inK]; omega) | (simp; done) | (simp; omega) | exact decide_eq_true (by omega) | exact decide_eq_false (by omega) | rfl | (simp [Value.oneCell']; done) | exact i64s_one _ | exact AggOk.mk (by kernel_rfl) (by kernel_rfl)) ?_
      by_cases he : z0 = x0
      · rw [insK_e1 (by exact he)] at hpre
        refine At.quiet true [] [hB 2, hR [.int .i64 z0], hB 1] ⟨by kernel_rfl, by kernel_rfl, rfl, rfl, rfl⟩ rfl rfl rfl (by (repeat' apply And.intro) <;> first | exact RdW.at rE 0 rfl | exact True.intro | omega | rfl | (simp only [inK]; omega) | exact decide_eq_true (by omega) | exact decide_eq_false (by omega) | (simp; done) | (simp; omega) | (simp [Value.oneCell']; done) | exact i64s_one _ | exact AggOk.mk (by kernel_rfl) (by kernel_rfl)) ?_
        refine At.run 100 true [false] [] rfl (by (repeat' apply And.intro) <;> first | (simp [he]; done) | exact True.intro | omega | rfl | (simp only [inK]; omega) | exact decide_eq_true (by omega) | exact decide_eq_false (by omega) | (simp; done) | (simp; omega) | (simp [Value.oneCell']; done) | exact i64s_one _ | exact AggOk.mk (by kernel_rfl) (by kernel_rfl)) ?_
        exact At.weak (ih _ _ _ _ (by omega) ⟨i + 1, out, true, g, c, rfl, by omega, by omega, hpre, (fun h => by cases h), rfl, rfl, rfl⟩) ⟨rfl, rfl, rfl, rfl, rfl, some_int_eq (by omega), trivial⟩
      · rw [insK_e2 (by exact he)] at hpre
        refine At.quiet true [] [hB 2, hR [.int .i64 z0], hB 1] ⟨by kernel_rfl, by kernel_rfl, rfl, rfl, rfl⟩ rfl rfl rfl (by (repeat' apply And.intro) <;> first | exact RdW.at rE 0 rfl | exact True.intro | omega | rfl | (simp only [inK]; omega) | exact decide_eq_true (by omega) | exact decide_eq_false (by omega) | (simp; done) | (simp; omega) | (simp [Value.oneCell']; done) | exact i64s_one _ | exact AggOk.mk (by kernel_rfl) (by kernel_rfl)) ?_
        refine At.run 100 true [true] [hB 2, hR (i64s [z0, z1, z2, z3])] rfl (by (repeat' apply And.intro) <;> first | exact rE | (simp [he]; done) | exact True.intro | omega | rfl | (simp only [inK]; omega) | exact decide_eq_true (by omega) | exact decide_eq_false (by omega) | (simp; done) | (simp; omega) | (simp [Value.oneCell']; done) | exact i64s_one _ | exact AggOk.mk (by kernel_rfl) (by kernel_rfl)) ?_
        refine At.append1 0 4 32 rfl rfl rfl rfl rfl rfl rfl rfl rfl trivial (fun _ => rfl) trivial rfl rfl rfl rfl rfl rfl rfl rfl (fun _ => rfl) (i64s_one [z0, z1, z2, z3]) (by omega) (by omega) (fun bz g2 cc2 => ?_)
        refine At.run 100 true [] [] rfl (by (repeat' apply And.intro) <;> first | exact True.intro | omega | (simp only [inK]; omega) | (simp; done) | (simp; omega) | exact decide_eq_true (by omega) | exact decide_eq_false (by omega) | rfl | (simp [Value.oneCell']; done) | exact i64s_one _ | exact AggOk.mk (by kernel_rfl) (by kernel_rfl)) ?_
        have ih := ih _ _ _ _ (by omega) ⟨i + 1, out ++ [[z0, z1, z2, z3]], true, g2, cc2, rfl, by omega, by simp; omega, by rw [hpre]; simp, (fun h => by cases h), rfl, rfl, rfl⟩
        simp only [List.length_append, List.length_singleton, List.flatMap_append, List.flatMap_singleton] at ih
        exact At.weak ih ⟨rfl, rfl, rfl, rfl, rfl, some_int_eq (by omega), trivial⟩
    | false =>
      have hod := hod rfl
      refine At.quiet true [true] [hB 2, hR [.int .i64 z0], hB 1] ⟨by kernel_rfl, by kernel_rfl, rfl, rfl, rfl⟩ rfl rfl rfl (by (repeat' apply And.intro) <;> first | exact RdW.at rE 0 rfl | exact True.intro | omega | rfl | (simp only [inK]; omega) | exact decide_eq_true (by omega) | exact decide_eq_false (by omega) | (simp; done) | (simp; omega) | (simp [Value.oneCell']; done) | exact i64s_one _ | exact AggOk.mk (by kernel_rfl) (by kernel_rfl)) ?_
      by_cases hg : x0 ≤ z0
      · refine At.run 100 true [true] [hB 1] rfl (by (repeat' apply And.intro) <;> first | (simp [hg]; done) | exact True.intro | omega | rfl | (simp only [inK]; omega) | exact decide_eq_true (by omega) | exact decide_eq_false (by omega) | (simp; done) | (simp; omega) | (simp [Value.oneCell']; done) | exact i64s_one _ | exact AggOk.mk (by kernel_rfl) (by kernel_rfl)) ?_
        refine At.append1 0 4 32 rfl rfl rfl rfl rfl rfl rfl rfl rfl trivial (fun _ => rfl) trivial rfl rfl rfl rfl rfl rfl rfl rfl (fun _ => rfl) (i64s_one [x0, x1, x2, x3]) (by omega) (by omega) (fun bz g2 cc2 => ?_)
        refine At.run 100 true [] [] rfl (by (repeat' apply And.intro) <;> first | exact True.intro | omega | (simp only [inK]; omega) | (simp; done) | (simp; omega) | exact decide_eq_true (by omega) | exact decide_eq_false (by omega) | rfl | (simp [Value.oneCell']; done) | exact i64s_one _ | exact AggOk.mk (by kernel_rfl) (by kernel_rfl)) ?_
        by_cases he : z0 = x0
        · rw [insK_e3 (by exact he)] at hpre
          refine At.quiet true [] [hB 2, hR [.int .i64 z0], hB 1] ⟨by kernel_rfl, by kernel_rfl, rfl, rfl, rfl⟩ rfl rfl rfl (by (repeat' apply And.intro) <;> first | exact RdW.at rE 0 rfl | exact True.intro | omega | rfl | (simp only [inK]; omega) | exact decide_eq_true (by omega) | exact decide_eq_false (by omega) | (simp; done) | (simp; omega) | (simp [Value.oneCell']; done) | exact i64s_one _ | exact AggOk.mk (by kernel_rfl) (by kernel_rfl)) ?_
          refine At.run 100 true [false] [] rfl (by (repeat' apply And.intro) <;> first | (simp [he]; done) | exact True.intro | omega | rfl | (simp only [inK]; omega) | exact decide_eq_true (by omega) | exact decide_eq_false (by omega) | (simp; done) | (simp; omega) | (simp [Value.oneCell']; done) | exact i64s_one _ | exact AggOk.mk (by kernel_rfl) (by kernel_rfl)) ?_
          have ih := ih _ _ _ _ (by omega) ⟨i + 1, out ++ [[x0, x1, x2, x3]], true, g2, cc2, rfl, by omega, by simp; omega, by rw [hpre]; simp, (fun h => by cases h), rfl, rfl, rfl⟩
          simp only [List.length_append, List.length_singleton, List.flatMap_append, List.flatMap_singleton] at ih
          exact At.weak ih ⟨rfl, rfl, rfl, rfl, rfl, some_int_eq (by omega), trivial⟩
        · rw [insK_e4 (by exact hg) (by exact he)] at hpre
          refine At.quiet true [] [hB 2, hR [.int .i64 z0], hB 1] ⟨by kernel_rfl, by kernel_rfl, rfl, rfl, rfl⟩ rfl rfl rfl (by (repeat' apply And.intro) <;> first | exact RdW.at rE 0 rfl | exact True.intro | omega | rfl | (simp only [inK]; omega) | exact decide_eq_true (by omega) | exact decide_eq_false (by omega) | (simp; done) | (simp; omega) | (simp [Value.oneCell']; done) | exact i64s_one _ | exact AggOk.mk (by kernel_rfl) (by kernel_rfl)) ?_
          refine At.run 100 true [true] [hB 2, hR (i64s [z0, z1, z2, z3])] rfl (by (repeat' apply And.intro) <;> first | exact rE | (simp [he]; done) | exact True.intro | omega | rfl | (simp only [inK]; omega) | exact decide_eq_true (by omega) | exact decide_eq_false (by omega) | (simp; done) | (simp; omega) | (simp [Value.oneCell']; done) | exact i64s_one _ | exact AggOk.mk (by kernel_rfl) (by kernel_rfl)) ?_
          refine At.append1 0 4 32 rfl rfl rfl rfl rfl rfl rfl rfl rfl trivial (fun _ => rfl) trivial rfl rfl rfl rfl rfl rfl rfl rfl (fun _ => rfl) (i64s_one [z0, z1, z2, z3]) (by omega) (by omega) (fun bz2 g3 cc3 => ?_)
          refine At.run 100 true [] [] rfl (by (repeat' apply And.intro) <;> first | exact True.intro | omega | (simp only [inK]; omega) | (simp; done) | (simp; omega) | exact decide_eq_true (by omega) | exact decide_eq_false (by omega) | rfl | (simp [Value.oneCell']; done) | exact i64s_one _ | exact AggOk.mk (by kernel_rfl) (by kernel_rfl)) ?_
          have ih := ih _ _ _ _ (by omega) ⟨i + 1, out ++ [[x0, x1, x2, x3]] ++ [[z0, z1, z2, z3]], true, g3, cc3, rfl, by omega, by simp; omega, by rw [hpre]; simp, (fun h => by cases h), rfl, rfl, rfl⟩
          simp only [List.length_append, List.length_singleton, List.flatMap_append, List.flatMap_singleton] at ih
          exact At.weak ih ⟨rfl, rfl, rfl, rfl, rfl, some_int_eq (by omega), trivial⟩
      · rw [insK_e5 (by exact hg)] at hpre
        have he : ¬ z0 = x0 := by omega
        refine At.run 100 true [false] [] rfl (by (repeat' apply And.intro) <;> first | (simp [hg]; done) | (simp; omega) | exact True.intro | omega | rfl | (simp only [inK]; omega) | exact decide_eq_true (by omega) | exact decide_eq_false (by omega) | (simp; done) | (simp; omega) | (simp [Value.oneCell']; done) | exact i64s_one _ | exact AggOk.mk (by kernel_rfl) (by kernel_rfl)) ?_
        refine At.quiet true [] [hB 2, hR [.int .i64 z0], hB 1] ⟨by kernel_rfl, by kernel_rfl, rfl, rfl, rfl⟩ rfl rfl rfl (by (repeat' apply And.intro) <;> first | exact RdW.at rE 0 rfl | exact True.intro | omega | rfl | (simp only [inK]; omega) | exact decide_eq_true (by omega) | exact decide_eq_false (by omega) | (simp; done) | (simp; omega) | (simp [Value.oneCell']; done) | exact i64s_one _ | exact AggOk.mk (by kernel_rfl) (by kernel_rfl)) ?_
        refine At.run 100 true [true] [hB 2, hR (i64s [z0, z1, z2, z3])] rfl (by (repeat' apply And.intro) <;> first | exact rE | (simp [he]; done) | exact True.intro | omega | rfl | (simp only [inK]; omega) | exact decide_eq_true (by omega) | exact decide_eq_false (by omega) | (simp; done) | (simp; omega) | (simp [Value.oneCell']; done) | exact i64s_one _ | exact AggOk.mk (by kernel_rfl) (by kernel_rfl)) ?_
        refine At.append1 0 4 32 rfl rfl rfl rfl rfl rfl rfl rfl rfl trivial (fun _ => rfl) trivial rfl rfl rfl rfl rfl rfl rfl rfl (fun _ => rfl) (i64s_one [z0, z1, z2, z3]) (by omega) (by omega) (fun bz g2 cc2 => ?_)
        refine At.run 100 true [] [] rfl (by (repeat' apply And.intro) <;> first | exact True.intro | omega | (simp only [inK]; omega) | (simp; done) | (simp; omega) | exact decide_eq_true (by omega) | exact decide_eq_false (by omega) | rfl | (simp [Value.oneCell']; done) | exact i64s_one _ | exact AggOk.mk (by kernel_rfl) (by kernel_rfl)) ?_
        have ih := ih _ _ _ _ (by omega) ⟨i + 1, out ++ [[z0, z1, z2, z3]], false, g2, cc2, rfl, by omega, by simp; omega, by rw [hpre]; simp, (fun _ => by simp; omega), rfl, rfl, rfl⟩
        simp only [List.length_append, List.length_singleton, List.flatMap_append, List.flatMap_singleton] at ih
        exact At.weak ih ⟨rfl, rfl, rfl, rfl, rfl, some_int_eq (by omega), trivial⟩
  · rw [List.drop_of_length_le (by omega)] at hpre
    clear ih
    have hpre : insK [x0, x1, x2, x3] false b.H = out ++ insK [x0, x1, x2, x3] d [] := hpre
    cases d with
    | true =>
      have hpre : insK [x0, x1, x2, x3] false b.H = out := hpre.trans (List.append_nil _)
      refine At.run 100 true [false, false] [hB 2, hB 2, hB 2, hB 0] rfl (by (repeat' apply And.intro) <;> first | exact cells5 rfl rfl rfl rfl rfl | exact True.intro | omega | rfl | (simp only [inK]; omega) | exact decide_eq_true (by omega) | exact decide_eq_false (by omega) | (simp; done) | (simp; omega) | (simp [Value.oneCell']; done) | exact i64s_one _ | exact AggOk.mk (by kernel_rfl) (by kernel_rfl)) ?_
      refine At.retK [] [true] [hB 0] rfl rfl Tryd.func59 rfl ⟨rfl, trivial⟩ ⟨rfl, g, c, ?_, ?_⟩
      · show _ = Value.agg ⟨bkV { b with H := insK [x0, x1, x2, x3] false b.H } _⟩
        rw [hpre]; rfl
      · show _ = [Seg.row g 52 4 (insK [x0, x1, x2, x3] false b.H).length c ((insK [x0, x1, x2, x3] false b.H).flatMap i64s)]
        rw [hpre]
    | false =>
      have hpre : insK [x0, x1, x2, x3] false b.H = out ++ [[x0, x1, x2, x3]] := hpre
      refine At.run 100 true [false, true] [hB 2, hB 1] rfl (by (repeat' apply And.intro) <;> first | exact True.intro | omega | (simp only [inK]; omega) | (simp; done) | (simp; omega) | exact decide_eq_true (by omega) | exact decide_eq_false (by omega) | rfl | (simp [Value.oneCell']; done) | exact i64s_one _ | exact AggOk.mk (by kernel_rfl) (by kernel_rfl)) ?_
      refine At.append1 0 4 32 rfl rfl rfl rfl rfl rfl rfl rfl rfl trivial (fun _ => rfl) trivial rfl rfl rfl rfl rfl rfl rfl rfl (fun _ => rfl) (i64s_one [x0, x1, x2, x3]) (by omega) (by omega) (fun bz g2 cc2 => ?_)
      refine At.run 100 true [] [hB 2, hB 2, hB 0] rfl (by (repeat' apply And.intro) <;> first | exact cells5 rfl rfl rfl rfl rfl | exact True.intro | omega | rfl | (simp only [inK]; omega) | exact decide_eq_true (by omega) | exact decide_eq_false (by omega) | (simp; done) | (simp; omega) | (simp [Value.oneCell']; done) | exact i64s_one _ | exact AggOk.mk (by kernel_rfl) (by kernel_rfl)) ?_
      refine At.retK [] [true] [hB 0] rfl rfl Tryd.func59 rfl ⟨rfl, trivial⟩ ⟨rfl, g2, cc2, ?_, ?_⟩
      · show _ = Value.agg ⟨bkV { b with H := insK [x0, x1, x2, x3] false b.H } _⟩
        rw [hpre]
        simp only [bkV, List.length_append, List.length_singleton]; rfl
      · show _ = [Seg.row g2 52 4 (insK [x0, x1, x2, x3] false b.H).length cc2 ((insK [x0, x1, x2, x3] false b.H).flatMap i64s)]
        rw [hpre]
        simp only [List.length_append, List.length_singleton, List.flatMap_append, List.flatMap_singleton]; rfl
end Go.Proofs

/-
  Walks of layer 12's document: SetOpen.
-/
namespace Go.Proofs
open Go Go.Eng
set_option maxRecDepth 100000
set_option maxHeartbeats 4000000
attribute [local irreducible] Tri

set_option maxHeartbeats 1000000 in
theorem Tryd.SetOpen_w (b : Bk) (A : BkA) (x : List Int) (w : World) (hi : BkIn b) (hxl : x.length = 6) (ho : BkOk w b A) :
    Tri Tryd.prog 61 [.agg ⟨bkV b A⟩, .agg ⟨i64s x⟩] w [] (fun v bx hp => bx = [] ∧ ∃ (g : Option Nat) (c : Nat), v = .agg ⟨bkV { b with O := insK x (decide (nthI x 4 = 0)) b.O } ⟨A.a1, A.a2, svA g, A.a4, A.c1, A.c2, c, A.c4⟩⟩ ∧ hp = [Seg.row g 57 6 (insK x (decide (nthI x 4 = 0)) b.O).length c ((insK x (decide (nthI x 4 = 0)) b.O).flatMap i64s)]) := by
  obtain ⟨a1, a2, a3, a4, c1, c2, c3, c4⟩ := A
  obtain ⟨x0, x1, x2, x3, x4, x5, rfl⟩ := len6 hxl
  refine Tri.enter (bx := []) (hp := []) Tryd.func61 rfl (by kernel_rfl) rfl (Own.nil w) ?_
  have hal : SlOk w a3 (b.O.flatMap i64s) := ho.h3
  have l1 := hi.l3
  have hm0 : ∀ k, k ∉ (⟨w, kys [] []⟩ : Base).mods := by simp [kys]
  refine At.run 100 true [] [] rfl trivial ?_
  refine At.step [] rfl rfl rfl rfl rfl trivial (OpOk.box rfl rfl rfl fun bq hbq => ?_)
  refine At.step [] rfl rfl rfl rfl rfl trivial (OpOk.box rfl rfl rfl fun b3 hb3 => ?_)
  refine At.step [] rfl rfl rfl rfl rfl trivial (OpOk.alloc (cs := [.slice none 0 0, .slice none 0 0, .slice none 0 0, .slice none 0 0, .int .i64 0]) rfl (by kernel_rfl) fun b4 hb4 => ?_)
  refine At.run 100 true [] [hB 1] rfl (by (repeat' apply And.intro) <;> first | exact True.intro | omega | (simp only [inK]; omega) | (simp; done) | (simp; omega) | exact decide_eq_true (by omega) | exact decide_eq_false (by omega) | rfl | (simp [Value.oneCell']; done) | exact i64s_one _ | exact AggOk.mk (by kernel_rfl) (by kernel_rfl)) ?_
  refine At.nilRow 57 6 ?_
  refine At.loop (n := b.O.length) (env0 := [(2, .pointer (some ⟨bq, 0, none⟩)), (3, .pointer (some ⟨b3, 0, none⟩)), (4, .pointer (some ⟨b4, 0, none⟩)), (5, sv none ([] : List (List Int)).length 0), (6, .bool (decide (x4 = 0))), (7, .int .i64 0)]) (fun m env bx hp => ∃ (i : Nat) (out : List (List Int)) (d : Bool) (g : Option Nat) (c : Nat), m = b.O.length - i ∧ i ≤ b.O.length ∧ out.length ≤ i + 1 ∧ insK [x0, x1, x2, x3, x4, x5] (decide (x4 = 0)) b.O = out ++ insK [x0, x1, x2, x3, x4, x5] d (b.O.drop i) ∧ (d = false → out.length ≤ i) ∧
    env = [(2, .pointer (some ⟨bq, 0, none⟩)), (3, .pointer (some ⟨b3, 0, none⟩)), (4, .pointer (some ⟨b4, 0, none⟩)), (5, sv g out.length c), (6, .bool d), (7, .int .i64 i)] ∧ bx = [(b4, 27, [.slice none 0 0, .slice none 0 0, .slice none 0 0, .slice none 0 0, .int .i64 0]), (b3, 57, i64s [x0, x1, x2, x3, x4, x5]), (bq, 27, bkV b ⟨a1, a2, a3, a4, c1, c2, c3, c4⟩)] ∧ hp = [Seg.row g 57 6 out.length c (out.flatMap i64s)]) rfl ⟨0, [], (decide (x4 = 0)), none, 0, by simp, by omega, by simp, rfl, by simp, rfl, rfl, rfl⟩ ⟨rfl, rfl, rfl, rfl, rfl, rfl, trivial⟩ ?_
  rintro m env bx hp ⟨i, out, d, g, c, rfl, hi2, hol, hpre, hod, rfl, rfl, rfl⟩ ih
  by_cases hlt : i < b.O.length
  · obtain ⟨z, hz⟩ : ∃ z, b.O[i]? = some z := ⟨_, List.getElem?_eq_getElem hlt⟩
    obtain ⟨hzl, hzi⟩ := hi.r3 z (List.mem_of_getElem? hz)
    have hne := slNe (sz := 6) (by omega) (fun x hx => (hi.r3 x hx).1) hz
    obtain ⟨gg, o, rfl, hc⟩ := hal.get hne
    obtain ⟨z0, z1, z2, z3, z4, z5, rfl⟩ := len6 hzl
    have rE : ∀ {bx : Bx} {hp : List Seg}, RdW ⟨w, kys [] []⟩ bx hp gg (o + (i : Int).toNat * 6) (i64s [z0, z1, z2, z3, z4, z5]) := fun {_ _} => RdW.sl hc (hm0 _) (i * 6) (by omega) (fun j u hu => flat_rec (fun x hx => (hi.r3 x hx).1) hz j u hu)
    rw [drop_at hz] at hpre
    refine At.run 100 true [true] [hB 2] rfl (by (repeat' apply And.intro) <;> first | exact True.intro | omega | (simp only [inK]; omega) | (simp; done) | (simp; omega) | exact decide_eq_true (by omega) | exact decide_eq_false (by omega) | rfl | (simp [Value.oneCell']; done) | exact i64s_one _ | exact AggOk.mk (by kernel_rfl) (by kernel_rfl)) ?_
    cases d with
    | true =>
      refine At.quiet true [false] [] ⟨by kernel_rfl, by kernel_rfl, rfl, rfl, rfl⟩ rfl rfl rfl (by (repeat' apply And.intro) <;> first | exact RdW.at rE 0 rfl | exact True.intro | omega | rfl | (simp only [inK]; omega) | exact decide_eq_true (by omega) | exact decide_eq_false (by omega) | (simp; done) | (simp; omega) | (simp [Value.oneCell']; done) | exact i64s_one _ | exact AggOk.mk (by kernel_rfl) (by kernel_rfl)) ?_
      refine At.run 100 true [false] [] rfl (by (repeat' apply And.intro) <;> first | exact True.intro | omega | (simp only [inK]; omega) | (simp; done) | (simp; omega) | exact decide_eq_true (by omega) | exact decide_eq_false (by omega) | rfl | (simp [Value.oneCell']; done) | exact i64s_one _ | exact AggOk.mk (by kernel_rfl) (by kernel_rfl)) ?_
      by_cases he : z0 = x0
      · rw [insK_e1 (by exact he)] at hpre
        refine At.quiet true [] [hB 2, hR [.int .i64 z0], hB 1] ⟨by kernel_rfl, by kernel_rfl, rfl, rfl, rfl⟩ rfl rfl rfl (by (repeat' apply And.intro) <;> first | exact RdW.at rE 0 rfl | exact True.intro | omega | rfl | (simp only [inK]; omega) | exact decide_eq_true (by omega) | exact decide_eq_false (by omega) | (simp; done) | (simp; omega) | (simp [Value.oneCell']; done) | exact i64s_one _ | exact AggOk.mk (by kernel_rfl) (by kernel_rfl)) ?_
        refine At.run 100 true [false] [] rfl (by (repeat' apply And.intro) <;> first | (simp [he]; done) | exact True.intro | omega | rfl | (simp only [inK]; omega) | exact decide_eq_true (by omega) | exact decide_eq_false (by omega) | (simp; done) | (simp; omega) | (simp [Value.oneCell']; done) | exact i64s_one _ | exact AggOk.mk (by kernel_rfl) (by kernel_rfl)) ?_
        exact At.weak (ih _ _ _ _ (by omega) ⟨i + 1, out, true, g, c, rfl, by omega, by omega, hpre, (fun h => by cases h), rfl, rfl, rfl⟩) ⟨rfl, rfl, rfl, rfl, rfl, some_int_eq (by omega), trivial⟩
      · rw [insK_e2 (by exact he)] at hpre
        refine At.quiet true [] [hB 2, hR [.int .i64 z0], hB 1] ⟨by kernel_rfl, by kernel_rfl, rfl, rfl, rfl⟩ rfl rfl rfl (by (repeat' apply And.intro) <;> first | exact RdW.at rE 0 rfl | exact True.intro | omega | rfl | (simp only [inK]; omega) | exact decide_eq_true (by omega) | exact decide_eq_false (by omega) | (simp; done) | (simp; omega) | (simp [Value.oneCell']; done) | exact i64s_one _ | exact AggOk.mk (by kernel_rfl) (by kernel_rfl)) ?_
        refine At.run 100 true [true] [hB 2, hR (i64s [z0, z1, z2, z3, z4, z5])] rfl (by (repeat' apply And.intro) <;> first | exact rE | (simp [he]; done) | exact True.intro | omega | rfl | (simp only [inK]; omega) | exact decide_eq_true (by omega) | exact decide_eq_false (by omega) | (simp; done) | (simp; omega) | (simp [Value.oneCell']; done) | exact i64s_one _ | exact AggOk.mk (by kernel_rfl) (by kernel_rfl)) ?_
        refine At.append1 0 6 48 rfl rfl rfl rfl rfl rfl rfl rfl rfl trivial (fun _ => rfl) trivial rfl rfl rfl rfl rfl rfl rfl rfl (fun _ => rfl) (i64s_one [z0, z1, z2, z3, z4, z5]) (by omega) (by omega) (fun bz g2 cc2 => ?_)
        refine At.run 100 true [] [] rfl (by (repeat' apply And.intro) <;> first | exact True.intro | omega | (simp only [inK]; omega) | (simp; done) | (simp; omega) | exact decide_eq_true (by omega) | exact decide_eq_false (by omega) | rfl | (simp [Value.oneCell']; done) | exact i64s_one _ | exact AggOk.mk (by kernel_rfl) (by kernel_rfl)) ?_
        have ih := ih _ _ _ _ (by omega) ⟨i + 1, out ++ [[z0, z1, z2, z3, z4, z5]], true, g2, cc2, rfl, by omega, by simp; omega, by rw [hpre]; simp, (fun h => by cases h), rfl, rfl, rfl⟩
        simp only [List.length_append, List.length_singleton, List.flatMap_append, List.flatMap_singleton] at ih
        exact At.weak ih ⟨rfl, rfl, rfl, rfl, rfl, some_int_eq (by omega), trivial⟩
    | false =>
      have hod := hod rfl
      refine At.quiet true [true] [hB 2, hR [.int .i64 z0], hB 1] ⟨by kernel_rfl, by kernel_rfl, rfl, rfl, rfl⟩ rfl rfl rfl (by (repeat' apply And.intro) <;> first | exact RdW.at rE 0 rfl | exact True.intro | omega | rfl | (simp only [inK]; omega) | exact decide_eq_true (by omega) | exact decide_eq_false (by omega) | (simp; done) | (simp; omega) | (simp [Value.oneCell']; done) | exact i64s_one _ | exact AggOk.mk (by kernel_rfl) (by kernel_rfl)) ?_
      by_cases hg : x0 ≤ z0
      · refine At.run 100 true [true] [hB 1] rfl (by (repeat' apply And.intro) <;> first | (simp [hg]; done) | exact True.intro | omega | rfl | (simp only [inK]; omega) | exact decide_eq_true (by omega) | exact decide_eq_false (by omega) | (simp; done) | (simp; omega) | (simp [Value.oneCell']; done) | exact i64s_one _ | exact AggOk.mk (by kernel_rfl) (by kernel_rfl)) ?_
        refine At.append1 0 6 48 rfl rfl rfl rfl rfl rfl rfl rfl rfl trivial (fun _ => rfl) trivial rfl rfl rfl rfl rfl rfl rfl rfl (fun _ => rfl) (i64s_one [x0, x1, x2, x3, x4, x5]) (by omega) (by omega) (fun bz g2 cc2 => ?_)
        refine At.run 100 true [] [] rfl (by (repeat' apply And.intro) <;> first | exact True.intro | omega | (simp only [inK]; omega) | (simp; done) | (simp; omega) | exact decide_eq_true (by omega) | exact decide_eq_false (by omega) | rfl | (simp [Value.oneCell']; done) | exact i64s_one _ | exact AggOk.mk (by kernel_rfl) (by kernel_rfl)) ?_
        by_cases he : z0 = x0
        · rw [insK_e3 (by exact he)] at hpre
          refine At.quiet true [] [hB 2, hR [.int .i64 z0], hB 1] ⟨by kernel_rfl, by kernel_rfl, rfl, rfl, rfl⟩ rfl rfl rfl (by (repeat' apply And.intro) <;> first | exact RdW.at rE 0 rfl | exact True.intro | omega | rfl | (simp only [inK]; omega) | exact decide_eq_true (by omega) | exact decide_eq_false (by omega) | (simp; done) | (simp; omega) | (simp [Value.oneCell']; done) | exact i64s_one _ | exact AggOk.mk (by kernel_rfl) (by kernel_rfl)) ?_
          refine At.run 100 true [false] [] rfl (by (repeat' apply And.intro) <;> first | (simp [he]; done) | exact True.intro | omega | rfl | (simp only [inK]; omega) | exact decide_eq_true (by omega) | exact decide_eq_false (by omega) | (simp; done) | (simp; omega) | (simp [Value.oneCell']; done) | exact i64s_one _ | exact AggOk.mk (by kernel_rfl) (by kernel_rfl)) ?_
          have ih := ih _ _ _ _ (by omega) ⟨i + 1, out ++ [[x0, x1, x2, x3, x4, x5]], true, g2, cc2, rfl, by omega, by simp; omega, by rw [hpre]; simp, (fun h => by cases h), rfl, rfl, rfl⟩
          simp only [List.length_append, List.length_singleton, List.flatMap_append, List.flatMap_singleton] at ih
          exact At.weak ih ⟨rfl, rfl, rfl, rfl, rfl, some_int_eq (by omega), trivial⟩
        · rw [insK_e4 (by exact hg) (by exact he)] at hpre
          refine At.quiet true [] [hB 2, hR [.int .i64 z0], hB 1] ⟨by kernel_rfl, by kernel_rfl, rfl, rfl, rfl⟩ rfl rfl rfl (by (repeat' apply And.intro) <;> first | exact RdW.at rE 0 rfl | exact True.intro | omega | rfl | (simp only [inK]; omega) | exact decide_eq_true (by omega) | exact decide_eq_false (by omega) | (simp; done) | (simp; omega) | (simp [Value.oneCell']; done) | exact i64s_one _ | exact AggOk.mk (by kernel_rfl) (by kernel_rfl)) ?_
          refine At.run 100 true [true] [hB 2, hR (i64s [z0, z1, z2, z3, z4, z5])] rfl (by (repeat' apply And.intro) <;> first | exact rE | (simp [he]; done) | exact True.intro | omega | rfl | (simp only [inK]; omega) | exact decide_eq_true (by omega) | exact decide_eq_false (by omega) | (simp; done) | (simp; omega) | (simp [Value.oneCell']; done) | exact i64s_one _ | exact AggOk.mk (by kernel_rfl) (by kernel_rfl)) ?_
          refine At.append1 0 6 48 rfl rfl rfl rfl rfl rfl rfl rfl rfl trivial (fun _ => rfl) trivial rfl rfl rfl rfl rfl rfl rfl rfl (fun _ => rfl) (i64s_one [z0, z1, z2, z3, z4, z5]) (by omega) (by omega) (fun bz2 g3 cc3 => ?_)
          refine At.run 100 true [] [] rfl (by (repeat' apply And.intro) <;> first | exact True.intro | omega | (simp only [inK]; omega) | (simp; done) | (simp; omega) | exact decide_eq_true (by omega) | exact decide_eq_false (by omega) | rfl | (simp [Value.oneCell']; done) | exact i64s_one _ | exact AggOk.mk (by kernel_rfl) (by kernel_rfl)) ?_
          have ih := ih _ _ _ _ (by omega) ⟨i + 1, out ++ [[x0, x1, x2, x3, x4, x5]] ++ [[z0, z1, z2, z3, z4, z5]], true, g3, cc3, rfl, by omega, by simp; omega, by rw [hpre]; simp, (fun h => by cases h), rfl, rfl, rfl⟩
          simp only [List.length_append, List.length_singleton, List.flatMap_append, List.flatMap_singleton] at ih
          exact At.weak ih ⟨rfl, rfl, rfl, rfl, rfl, some_int_eq (by omega), trivial⟩
      · rw [insK_e5 (by exact hg)] at hpre
        have he : ¬ z0 = x0 := by omega
        refine At.run 100 true [false] [] rfl (by (repeat' apply And.intro) <;> first | (simp [hg]; done) | (simp; omega) | exact True.intro | omega | rfl | (simp only [inK]; omega) | exact decide_eq_true (by omega) | exact decide_eq_false (by omega) | (simp; done) | (simp; omega) | (simp [Value.oneCell']; done) | exact i64s_one _ | exact AggOk.mk (by kernel_rfl) (by kernel_rfl)) ?_
        refine At.quiet true [] [hB 2, hR [.int .i64 z0], hB 1] ⟨by kernel_rfl, by kernel_rfl, rfl, rfl, rfl⟩ rfl rfl rfl (by (repeat' apply And.intro) <;> first | exact RdW.at rE 0 rfl | exact True.intro | omega | rfl | (simp only [inK]; omega) | exact decide_eq_true (by omega) | exact decide_eq_false (by omega) | (simp; done) | (simp; omega) | (simp [Value.oneCell']; done) | exact i64s_one _ | exact AggOk.mk (by kernel_rfl) (by kernel_rfl)) ?_
        refine At.run 100 true [true] [hB 2, hR (i64s [z0, z1, z2, z3, z4, z5])] rfl (by (repeat' apply And.intro) <;> first | exact rE | (simp [he]; done) | exact True.intro | omega | rfl | (simp only [inK]; omega) | exact decide_eq_true (by omega) | exact decide_eq_false (by omega) | (simp; done) | (simp; omega) | (simp [Value.oneCell']; done) | exact i64s_one _ | exact AggOk.mk (by kernel_rfl) (by kernel_rfl)) ?_
        refine At.append1 0 6 48 rfl rfl rfl rfl rfl rfl rfl rfl rfl trivial (fun _ => rfl) trivial rfl rfl rfl rfl rfl rfl rfl rfl (fun _ => rfl) (i64s_one [z0, z1, z2, z3, z4, z5]) (by omega) (by omega) (fun bz g2 cc2 => ?_)
        refine At.run 100 true [] [] rfl (by (repeat' apply And.intro) <;> first | exact True.intro | omega | (simp only [inK]; omega) | (simp; done) | (simp; omega) | exact decide_eq_true (by omega) | exact decide_eq_false (by omega) | rfl | (simp [Value.oneCell']; done) | exact i64s_one _ | exact AggOk.mk (by kernel_rfl) (by kernel_rfl)) ?_
        have ih := ih _ _ _ _ (by omega) ⟨i + 1, out ++ [[z0, z1, z2, z3, z4, z5]], false, g2, cc2, rfl, by omega, by simp; omega, by rw [hpre]; simp, (fun _ => by simp; omega), rfl, rfl, rfl⟩
        simp only [List.length_append, List.length_singleton, List.flatMap_append, List.flatMap_singleton] at ih
        exact At.weak ih ⟨rfl, rfl, rfl, rfl, rfl, some_int_eq (by omega), trivial⟩
  · rw [List.drop_of_length_le (by omega)] at hpre
    clear ih
    have hpre : insK [x0, x1, x2, x3, x4, x5] (decide (x4 = 0)) b.O = out ++ insK [x0, x1, x2, x3, x4, x5] d [] := hpre
    cases d with
    | true =>
      have hpre : insK [x0, x1, x2, x3, x4, x5] (decide (x4 = 0)) b.O = out := hpre.trans (List.append_nil _)
      refine At.run 100 true [false, false] [hB 2, hB 2, hB 2, hB 0] rfl (by (repeat' apply And.intro) <;> first | exact cells5 rfl rfl rfl rfl rfl | exact True.intro | omega | rfl | (simp only [inK]; omega) | exact decide_eq_true (by omega) | exact decide_eq_false (by omega) | (simp; done) | (simp; omega) | (simp [Value.oneCell']; done) | exact i64s_one _ | exact AggOk.mk (by kernel_rfl) (by kernel_rfl)) ?_
      refine At.retK [] [true] [hB 0] rfl rfl Tryd.func61 rfl ⟨rfl, trivial⟩ ⟨rfl, g, c, ?_, ?_⟩
      · show _ = Value.agg ⟨bkV { b with O := insK [x0, x1, x2, x3, x4, x5] (decide (x4 = 0)) b.O } _⟩
        rw [hpre]; rfl
      · show _ = [Seg.row g 57 6 (insK [x0, x1, x2, x3, x4, x5] (decide (x4 = 0)) b.O).length c ((insK [x0, x1, x2, x3, x4, x5] (decide (x4 = 0)) b.O).flatMap i64s)]
        rw [hpre]
    | false =>
      have hpre : insK [x0, x1, x2, x3, x4, x5] (decide (x4 = 0)) b.O = out ++ [[x0, x1, x2, x3, x4, x5]] := hpre
      refine At.run 100 true [false, true] [hB 2, hB 1] rfl (by (repeat' apply And.intro) <;> first | exact True.intro | omega | (simp only [inK]; omega) | (simp; done) | (simp; omega) | exact decide_eq_true (by omega) | exact decide_eq_false (by omega) | rfl | (simp [Value.oneCell']; done) | exact i64s_one _ | exact AggOk.mk (by kernel_rfl) (by kernel_rfl)) ?_
      refine At.append1 0 6 48 rfl rfl rfl rfl rfl rfl rfl rfl rfl trivial (fun _ => rfl) trivial rfl rfl rfl rfl rfl rfl rfl rfl (fun _ => rfl) (i64s_one [x0, x1, x2, x3, x4, x5]) (by omega) (by omega) (fun bz g2 cc2 => ?_)
      refine At.run 100 true [] [hB 2, hB 2, hB 0] rfl (by (repeat' apply And.intro) <;> first | exact cells5 rfl rfl rfl rfl rfl | exact True.intro | omega | rfl | (simp only [inK]; omega) | exact decide_eq_true (by omega) | exact decide_eq_false (by omega) | (simp; done) | (simp; omega) | (simp [Value.oneCell']; done) | exact i64s_one _ | exact AggOk.mk (by kernel_rfl) (by kernel_rfl)) ?_
      refine At.retK [] [true] [hB 0] rfl rfl Tryd.func61 rfl ⟨rfl, trivial⟩ ⟨rfl, g2, cc2, ?_, ?_⟩
      · show _ = Value.agg ⟨bkV { b with O := insK [x0, x1, x2, x3, x4, x5] (decide (x4 = 0)) b.O } _⟩
        rw [hpre]
        simp only [bkV, List.length_append, List.length_singleton]; rfl
      · show _ = [Seg.row g2 57 6 (insK [x0, x1, x2, x3, x4, x5] (decide (x4 = 0)) b.O).length cc2 ((insK [x0, x1, x2, x3, x4, x5] (decide (x4 = 0)) b.O).flatMap i64s)]
        rw [hpre]
        simp only [List.length_append, List.length_singleton, List.flatMap_append, List.flatMap_singleton]; rfl
end Go.Proofs

/-
  Walks of layer 12's document: SetRate.
-/
namespace Go.Proofs
open Go Go.Eng
set_option maxRecDepth 100000
set_option maxHeartbeats 4000000
attribute [local irreducible] Tri

set_option maxHeartbeats 1000000 in
theorem Tryd.SetRate_w (b : Bk) (A : BkA) (x : List Int) (w : World) (hi : BkIn b) (hxl : x.length = 2) (ho : BkOk w b A) :
    Tri Tryd.prog 62 [.agg ⟨bkV b A⟩, .agg ⟨i64s x⟩] w [] (fun v bx hp => bx = [] ∧ ∃ (g : Option Nat) (c : Nat), v = .agg ⟨bkV { b with R := insK x false b.R } ⟨A.a1, A.a2, A.a3, svA g, A.c1, A.c2, A.c3, c⟩⟩ ∧ hp = [Seg.row g 50 2 (insK x false b.R).length c ((insK x false b.R).flatMap i64s)]) := by
  obtain ⟨a1, a2, a3, a4, c1, c2, c3, c4⟩ := A
  obtain ⟨x0, x1, rfl⟩ := len2 hxl
  refine Tri.enter (bx := []) (hp := []) Tryd.func62 rfl (by kernel_rfl) rfl (Own.nil w) ?_
  have hal : SlOk w a4 (b.R.flatMap i64s) := ho.h4
  have l1 := hi.l4
  have hm0 : ∀ k, k ∉ (⟨w, kys [] []⟩ : Base).mods := by simp [kys]
  refine At.run 100 true [] [] rfl trivial ?_
  refine At.step [] rfl rfl rfl rfl rfl trivial (OpOk.box rfl rfl rfl fun bq hbq => ?_)
  refine At.step [] rfl rfl rfl rfl rfl trivial (OpOk.box rfl rfl rfl fun b3 hb3 => ?_)
  refine At.step [] rfl rfl rfl rfl rfl trivial (OpOk.alloc (cs := [.slice none 0 0, .slice none 0 0, .slice none 0 0, .slice none 0 0, .int .i64 0]) rfl (by kernel_rfl) fun b4 hb4 => ?_)
  refine At.run 100 true [] [] rfl (by (repeat' apply And.intro) <;> first | exact True.intro | omega | (simp only [inK]; omega) | (simp; done) | (simp; omega) | exact decide_eq_true (by omega) | exact decide_eq_false (by omega) | rfl | (simp [Value.oneCell']; done) | exact i64s_one _ | exact AggOk.mk (by kernel_rfl) (by kernel_rfl)) ?_
  refine At.nilRow 50 2 ?_
  refine At.loop (n := b.R.length) (env0 := [(2, .pointer (some ⟨bq, 0, none⟩)), (3, .pointer (some ⟨b3, 0, none⟩)), (4, .pointer (some ⟨b4, 0, none⟩)), (5, sv none ([] : List (List Int)).length 0), (6, .bool false), (7, .int .i64 0)]) (fun m env bx hp => ∃ (i : Nat) (out : List (List Int)) (d : Bool) (g : Option Nat) (c : Nat), m = b.R.length - i ∧ i ≤ b.R.length ∧ out.length ≤ i + 1 ∧ insK [x0, x1] false b.R = out ++ insK [x0, x1] d (b.R.drop i) ∧ (d = false → out.length ≤ i) ∧
    env = [(2, .pointer (some ⟨bq, 0, none⟩)), (3, .pointer (some ⟨b3, 0, none⟩)), (4, .pointer (some ⟨b4, 0, none⟩)), (5, sv g out.length c), (6, .bool d), (7, .int .i64 i)] ∧ bx = [(b4, 27, [.slice none 0 0, .slice none 0 0, .slice none 0 0, .slice none 0 0, .int .i64 0]), (b3, 50, i64s [x0, x1]), (bq, 27, bkV b ⟨a1, a2, a3, a4, c1, c2, c3, c4⟩)] ∧ hp = [Seg.row g 50 2 out.length c (out.flatMap i64s)]) rfl ⟨0, [], false, none, 0, by simp, by omega, by simp, rfl, by simp, rfl, rfl, rfl⟩ ⟨rfl, rfl, rfl, rfl, rfl, rfl, trivial⟩ ?_
  rintro m env bx hp ⟨i, out, d, g, c, rfl, hi2, hol, hpre, hod, rfl, rfl, rfl⟩ ih
  by_cases hlt : i < b.R.length
  · obtain ⟨z, hz⟩ : ∃ z, b.R[i]? = some z := ⟨_, List.getElem?_eq_getElem hlt⟩
    obtain ⟨hzl, hzi⟩ := hi.r4 z (List.mem_of_getElem? hz)
    have hne := slNe (sz := 2) (by omega) (fun x hx => (hi.r4 x hx).1) hz
    obtain ⟨gg, o, rfl, hc⟩ := hal.get hne
    obtain ⟨z0, z1, rfl⟩ := len2 hzl
    have rE : ∀ {bx : Bx} {hp : List Seg}, RdW ⟨w, kys [] []⟩ bx hp gg (o + (i : Int).toNat * 2) (i64s [z0, z1]) := fun {_ _} => RdW.sl hc (hm0 _) (i * 2) (by omega) (fun j u hu => flat_rec (fun x hx => (hi.r4 x hx).1) hz j u hu)
    rw [drop_at hz] at hpre
    refine At.run 100 true [true] [hB 2] rfl (by (repeat' apply And.intro) <;> first | exact True.intro | omega | (simp only [inK]; omega) | (simp; done) | (simp; omega) | exact decide_eq_true (by omega) | exact decide_eq_false (by omega) | rfl | (simp [Value.oneCell']; done) | exact i64s_one _ | exact AggOk.mk (by kernel_rfl) (by kernel_rfl)) ?_
    cases d with
    | true =>
      refine At.quiet true [false] [] ⟨by kernel_rfl, by kernel_rfl, rfl, rfl, rfl⟩ rfl rfl rfl (by (repeat' apply And.intro) <;> first | exact RdW.at rE 0 rfl | exact True.intro | omega | rfl | (simp only [inK]; omega) | exact decide_eq_true (by omega) | exact decide_eq_false (by omega) | (simp; done) | (simp; omega) | (simp [Value.oneCell']; done) | exact i64s_one _ | exact AggOk.mk (by kernel_rfl) (by kernel_rfl)) ?_
      refine At.run 100 true [false] [] rfl (by (repeat' apply And.intro) <;> first | exact True.intro | omega | (simp only [inK]; omega) | (simp; done) | (simp; omega) | exact decide_eq_true (by omega) | exact decide_eq_false (by omega) | rfl | (simp [Value.oneCell']; done) | exact i64s_one _ | exact AggOk.mk (by kernel_rfl) (by kernel_rfl)) ?_
      by_cases he : z0 = x0
      · rw [insK_e1 (by exact he)] at hpre
        refine At.quiet true [] [hB 2, hR [.int .i64 z0], hB 1] ⟨by kernel_rfl, by kernel_rfl, rfl, rfl, rfl⟩ rfl rfl rfl (by (repeat' apply And.intro) <;> first | exact RdW.at rE 0 rfl | exact True.intro | omega | rfl | (simp only [inK]; omega) | exact decide_eq_true (by omega) | exact decide_eq_false (by omega) | (simp; done) | (simp; omega) | (simp [Value.oneCell']; done) | exact i64s_one _ | exact AggOk.mk (by kernel_rfl) (by kernel_rfl)) ?_
        refine At.run 100 true [false] [] rfl (by (repeat' apply And.intro) <;> first | (simp [he]; done) | exact True.intro | omega | rfl | (simp only [inK]; omega) | exact decide_eq_true (by omega) | exact decide_eq_false (by omega) | (simp; done) | (simp; omega) | (simp [Value.oneCell']; done) | exact i64s_one _ | exact AggOk.mk (by kernel_rfl) (by kernel_rfl)) ?_
        exact At.weak (ih _ _ _ _ (by omega) ⟨i + 1, out, true, g, c, rfl, by omega, by omega, hpre, (fun h => by cases h), rfl, rfl, rfl⟩) ⟨rfl, rfl, rfl, rfl, rfl, some_int_eq (by omega), trivial⟩
      · rw [insK_e2 (by exact he)] at hpre
        refine At.quiet true [] [hB 2, hR [.int .i64 z0], hB 1] ⟨by kernel_rfl, by kernel_rfl, rfl, rfl, rfl⟩ rfl rfl rfl (by (repeat' apply And.intro) <;> first | exact RdW.at rE 0 rfl | exact True.intro | omega | rfl | (simp only [inK]; omega) | exact decide_eq_true (by omega) | exact decide_eq_false (by omega) | (simp; done) | (simp; omega) | (simp [Value.oneCell']; done) | exact i64s_one _ | exact AggOk.mk (by kernel_rfl) (by kernel_rfl)) ?_
        refine At.run 100 true [true] [hB 2, hR (i64s [z0, z1])] rfl (by (repeat' apply And.intro) <;> first | exact rE | (simp [he]; done) | exact True.intro | omega | rfl | (simp only [inK]; omega) | exact decide_eq_true (by omega) | exact decide_eq_false (by omega) | (simp; done) | (simp; omega) | (simp [Value.oneCell']; done) | exact i64s_one _ | exact AggOk.mk (by kernel_rfl) (by kernel_rfl)) ?_
        refine At.append1 0 2 16 rfl rfl rfl rfl rfl rfl rfl rfl rfl trivial (fun _ => rfl) trivial rfl rfl rfl rfl rfl rfl rfl rfl (fun _ => rfl) (i64s_one [z0, z1]) (by omega) (by omega) (fun bz g2 cc2 => ?_)
        refine At.run 100 true [] [] rfl (by (repeat' apply And.intro) <;> first | exact True.intro | omega | (simp only [inK]; omega) | (simp; done) | (simp; omega) | exact decide_eq_true (by omega) | exact decide_eq_false (by omega) | rfl | (simp [Value.oneCell']; done) | exact i64s_one _ | exact AggOk.mk (by kernel_rfl) (by kernel_rfl)) ?_
        have ih := ih _ _ _ _ (by omega) ⟨i + 1, out ++ [[z0, z1]], true, g2, cc2, rfl, by omega, by simp; omega, by rw [hpre]; simp, (fun h => by cases h), rfl, rfl, rfl⟩
        simp only [List.length_append, List.length_singleton, List.flatMap_append, List.flatMap_singleton] at ih
        exact At.weak ih ⟨rfl, rfl, rfl, rfl, rfl, some_int_eq (by omega), trivial⟩
    | false =>
      have hod := hod rfl
      refine At.quiet true [true] [hB 2, hR [.int .i64 z0], hB 1] ⟨by kernel_rfl, by kernel_rfl, rfl, rfl, rfl⟩ rfl rfl rfl (by (repeat' apply And.intro) <;> first | exact RdW.at rE 0 rfl | exact True.intro | omega | rfl | (simp only [inK]; omega) | exact decide_eq_true (by omega) | exact decide_eq_false (by omega) | (simp; done) | (simp; omega) | (simp [Value.oneCell']; done) | exact i64s_one _ | exact AggOk.mk (by kernel_rfl) (by kernel_rfl)) ?_
      by_cases hg : x0 ≤ z0
      · refine At.run 100 true [true] [hB 1] rfl (by (repeat' apply And.intro) <;> first | (simp [hg]; done) | exact True.intro | omega | rfl | (simp only [inK]; omega) | exact decide_eq_true (by omega) | exact decide_eq_false (by omega) | (simp; done) | (simp; omega) | (simp [Value.oneCell']; done) | exact i64s_one _ | exact AggOk.mk (by kernel_rfl) (by kernel_rfl)) ?_
        refine At.append1 0 2 16 rfl rfl rfl rfl rfl rfl rfl rfl rfl trivial (fun _ => rfl) trivial rfl rfl rfl rfl rfl rfl rfl rfl (fun _ => rfl) (i64s_one [x0, x1]) (by omega) (by omega) (fun bz g2 cc2 => ?_)
        refine At.run 100 true [] [] rfl (by (repeat' apply And.intro) <;> first | exact True.intro | omega | (simp only [inK]; omega) | (simp; done) | (simp; omega) | exact decide_eq_true (by omega) | exact decide_eq_false (by omega) | rfl | (simp [Value.oneCell']; done) | exact i64s_one _ | exact AggOk.mk (by kernel_rfl) (by kernel_rfl)) ?_
        by_cases he : z0 = x0
        · rw [insK_e3 (by exact he)] at hpre
          refine At.quiet true [] [hB 2, hR [.int .i64 z0], hB 1] ⟨by kernel_rfl, by kernel_rfl, rfl, rfl, rfl⟩ rfl rfl rfl (by (repeat' apply And.intro) <;> first | exact RdW.at rE 0 rfl | exact True.intro | omega | rfl | (simp only [inK]; omega) | exact decide_eq_true (by omega) | exact decide_eq_false (by omega) | (simp; done) | (simp; omega) | (simp [Value.oneCell']; done) | exact i64s_one _ | exact AggOk.mk (by kernel_rfl) (by kernel_rfl)) ?_
          refine At.run 100 true [false] [] rfl (by (repeat' apply And.intro) <;> first | (simp [he]; done) | exact True.intro | omega | rfl | (simp only [inK]; omega) | exact decide_eq_true (by omega) | exact decide_eq_false (by omega) | (simp; done) | (simp; omega) | (simp [Value.oneCell']; done) | exact i64s_one _ | exact AggOk.mk (by kernel_rfl) (by kernel_rfl)) ?_
          have ih := ih _ _ _ _ (by omega) ⟨i + 1, out ++ [[x0, x1]], true, g2, cc2, rfl, by omega, by simp; omega, by rw [hpre]; simp, (fun h => by cases h), rfl, rfl, rfl⟩
          simp only [List.length_append, List.length_singleton, List.flatMap_append, List.flatMap_singleton] at ih
          exact At.weak ih ⟨rfl, rfl, rfl, rfl, rfl, some_int_eq (by omega), trivial⟩
        · rw [insK_e4 (by exact hg) (by exact he)] at hpre
          refine At.quiet true [] [hB 2, hR [.int .i64 z0], hB 1] ⟨by kernel_rfl, by kernel_rfl, rfl, rfl, rfl⟩ rfl rfl rfl (by (repeat' apply And.intro) <;> first | exact RdW.at rE 0 rfl | exact True.intro | omega | rfl | (simp only [inK]; omega) | exact decide_eq_true (by omega) | exact decide_eq_false (by omega) | (simp; done) | (simp; omega) | (simp [Value.oneCell']; done) | exact i64s_one _ | exact AggOk.mk (by kernel_rfl) (by kernel_rfl)) ?_
          refine At.run 100 true [true] [hB 2, hR (i64s [z0, z1])] rfl (by (repeat' apply And.intro) <;> first | exact rE | (simp [he]; done) | exact True.intro | omega | rfl | (simp only [inK]; omega) | exact decide_eq_true (by omega) | exact decide_eq_false (by omega) | (simp; done) | (simp; omega) | (simp [Value.oneCell']; done) | exact i64s_one _ | exact AggOk.mk (by kernel_rfl) (by kernel_rfl)) ?_
          refine At.append1 0 2 16 rfl rfl rfl rfl rfl rfl rfl rfl rfl trivial (fun _ => rfl) trivial rfl rfl rfl rfl rfl rfl rfl rfl (fun _ => rfl) (i64s_one [z0, z1]) (by omega) (by omega) (fun bz2 g3 cc3 => ?_)
          refine At.run 100 true [] [] rfl (by (repeat' apply And.intro) <;> first | exact True.intro | omega | (simp only [inK]; omega) | (simp; done) | (simp; omega) | exact decide_eq_true (by omega) | exact decide_eq_false (by omega) | rfl | (simp [Value.oneCell']; done) | exact i64s_one _ | exact AggOk.mk (by kernel_rfl) (by kernel_rfl)) ?_
          have ih := ih _ _ _ _ (by omega) ⟨i + 1, out ++ [[x0, x1]] ++ [[z0, z1]], true, g3, cc3, rfl, by omega, by simp; omega, by rw [hpre]; simp, (fun h => by cases h), rfl, rfl, rfl⟩
          simp only [List.length_append, List.length_singleton, List.flatMap_append, List.flatMap_singleton] at ih
          exact At.weak ih ⟨rfl, rfl, rfl, rfl, rfl, some_int_eq (by omega), trivial⟩
      · rw [insK_e5 (by exact hg)] at hpre
        have he : ¬ z0 = x0 := by omega
        refine At.run 100 true [false] [] rfl (by (repeat' apply And.intro) <;> first | (simp [hg]; done) | (simp; omega) | exact True.intro | omega | rfl | (simp only [inK]; omega) | exact decide_eq_true (by omega) | exact decide_eq_false (by omega) | (simp; done) | (simp; omega) | (simp [Value.oneCell']; done) | exact i64s_one _ | exact AggOk.mk (by kernel_rfl) (by kernel_rfl)) ?_
        refine At.quiet true [] [hB 2, hR [.int .i64 z0], hB 1] ⟨by kernel_rfl, by kernel_rfl, rfl, rfl, rfl⟩ rfl rfl rfl (by (repeat' apply And.intro) <;> first | exact RdW.at rE 0 rfl | exact True.intro | omega | rfl | (simp only [inK]; omega) | exact decide_eq_true (by omega) | exact decide_eq_false (by omega) | (simp; done) | (simp; omega) | (simp [Value.oneCell']; done) | exact i64s_one _ | exact AggOk.mk (by kernel_rfl) (by kernel_rfl)) ?_
        refine At.run 100 true [true] [hB 2, hR (i64s [z0, z1])] rfl (by (repeat' apply And.intro) <;> first | exact rE | (simp [he]; done) | exact True.intro | omega | rfl | (simp only [inK]; omega) | exact decide_eq_true (by omega) | exact decide_eq_false (by omega) | (simp; done) | (simp; omega) | (simp [Value.oneCell']; done) | exact i64s_one _ | exact AggOk.mk (by kernel_rfl) (by kernel_rfl)) ?_
        refine At.append1 0 2 16 rfl rfl rfl rfl rfl rfl rfl rfl rfl trivial (fun _ => rfl) trivial rfl rfl rfl rfl rfl rfl rfl rfl (fun _ => rfl) (i64s_one [z0, z1]) (by omega) (by omega) (fun bz g2 cc2 => ?_)
        refine At.run 100 true [] [] rfl (by (repeat' apply And.intro) <;> first | exact True.intro | omega | (simp only [inK]; omega) | (simp; done) | (simp; omega) | exact decide_eq_true (by omega) | exact decide_eq_false (by omega) | rfl | (simp [Value.oneCell']; done) | exact i64s_one _ | exact AggOk.mk (by kernel_rfl) (by kernel_rfl)) ?_
        have ih := ih _ _ _ _ (by omega) ⟨i + 1, out ++ [[z0, z1]], false, g2, cc2, rfl, by omega, by simp; omega, by rw [hpre]; simp, (fun _ => by simp; omega), rfl, rfl, rfl⟩
        simp only [List.length_append, List.length_singleton, List.flatMap_append, List.flatMap_singleton] at ih
        exact At.weak ih ⟨rfl, rfl, rfl, rfl, rfl, some_int_eq (by omega), trivial⟩
  · rw [List.drop_of_length_le (by omega)] at hpre
    clear ih
    have hpre : insK [x0, x1] false b.R = out ++ insK [x0, x1] d [] := hpre
    cases d with
    | true =>
      have hpre : insK [x0, x1] false b.R = out := hpre.trans (List.append_nil _)
      refine At.run 100 true [false, false] [hB 2, hB 2, hB 2, hB 0] rfl (by (repeat' apply And.intro) <;> first | exact cells5 rfl rfl rfl rfl rfl | exact True.intro | omega | rfl | (simp only [inK]; omega) | exact decide_eq_true (by omega) | exact decide_eq_false (by omega) | (simp; done) | (simp; omega) | (simp [Value.oneCell']; done) | exact i64s_one _ | exact AggOk.mk (by kernel_rfl) (by kernel_rfl)) ?_
      refine At.retK [] [true] [hB 0] rfl rfl Tryd.func62 rfl ⟨rfl, trivial⟩ ⟨rfl, g, c, ?_, ?_⟩
      · show _ = Value.agg ⟨bkV { b with R := insK [x0, x1] false b.R } _⟩
        rw [hpre]; rfl
      · show _ = [Seg.row g 50 2 (insK [x0, x1] false b.R).length c ((insK [x0, x1] false b.R).flatMap i64s)]
        rw [hpre]
    | false =>
      have hpre : insK [x0, x1] false b.R = out ++ [[x0, x1]] := hpre
      refine At.run 100 true [false, true] [hB 2, hB 1] rfl (by (repeat' apply And.intro) <;> first | exact True.intro | omega | (simp only [inK]; omega) | (simp; done) | (simp; omega) | exact decide_eq_true (by omega) | exact decide_eq_false (by omega) | rfl | (simp [Value.oneCell']; done) | exact i64s_one _ | exact AggOk.mk (by kernel_rfl) (by kernel_rfl)) ?_
      refine At.append1 0 2 16 rfl rfl rfl rfl rfl rfl rfl rfl rfl trivial (fun _ => rfl) trivial rfl rfl rfl rfl rfl rfl rfl rfl (fun _ => rfl) (i64s_one [x0, x1]) (by omega) (by omega) (fun bz g2 cc2 => ?_)
      refine At.run 100 true [] [hB 2, hB 2, hB 0] rfl (by (repeat' apply And.intro) <;> first | exact cells5 rfl rfl rfl rfl rfl | exact True.intro | omega | rfl | (simp only [inK]; omega) | exact decide_eq_true (by omega) | exact decide_eq_false (by omega) | (simp; done) | (simp; omega) | (simp [Value.oneCell']; done) | exact i64s_one _ | exact AggOk.mk (by kernel_rfl) (by kernel_rfl)) ?_
      refine At.retK [] [true] [hB 0] rfl rfl Tryd.func62 rfl ⟨rfl, trivial⟩ ⟨rfl, g2, cc2, ?_, ?_⟩
      · show _ = Value.agg ⟨bkV { b with R := insK [x0, x1] false b.R } _⟩
        rw [hpre]
        simp only [bkV, List.length_append, List.length_singleton]; rfl
      · show _ = [Seg.row g2 50 2 (insK [x0, x1] false b.R).length cc2 ((insK [x0, x1] false b.R).flatMap i64s)]
        rw [hpre]
        simp only [List.length_append, List.length_singleton, List.flatMap_append, List.flatMap_singleton]; rfl
end Go.Proofs

/-
  Walks of layer 12's document: SetStake.
-/
namespace Go.Proofs
open Go Go.Eng
set_option maxRecDepth 100000
set_option maxHeartbeats 4000000
attribute [local irreducible] Tri

theorem insS_e1 {x z : List Int} {l : List (List Int)} (h : k0 z = k0 x ∧ k1 z = k1 x) : insS x true (z :: l) = insS x true l := by simp [insS, insB, eqS, h]
theorem insS_e2 {x z : List Int} {l : List (List Int)} (h : ¬ (k0 z = k0 x ∧ k1 z = k1 x)) : insS x true (z :: l) = z :: insS x true l := by
  have e : eqS x z = false := decide_eq_false h
  simp [insS, insB, e]
theorem insS_e3 {x z : List Int} {l : List (List Int)} (h : k0 z = k0 x ∧ k1 z = k1 x) : insS x false (z :: l) = x :: insS x true l := by
  have e : eqS x z = true := decide_eq_true h
  have g : geS x z = true := decide_eq_true (by omega)
  simp [insS, insB, e, g]
theorem insS_e4 {x z : List Int} {l : List (List Int)} (hg : k0 x < k0 z ∨ k0 z = k0 x ∧ k1 x ≤ k1 z) (h : ¬ (k0 z = k0 x ∧ k1 z = k1 x)) : insS x false (z :: l) = x :: z :: insS x true l := by
  have e : eqS x z = false := decide_eq_false h
  have g : geS x z = true := decide_eq_true hg
  simp [insS, insB, e, g]
theorem insS_e5 {x z : List Int} {l : List (List Int)} (hg : ¬ (k0 x < k0 z ∨ k0 z = k0 x ∧ k1 x ≤ k1 z)) : insS x false (z :: l) = z :: insS x false l := by
  have e : eqS x z = false := decide_eq_false (by omega)
  have g : geS x z = false := decide_eq_false hg
  simp [insS, insB, e, g]

set_option maxHeartbeats 1000000 in
theorem Tryd.SetStake_w (b : Bk) (A : BkA) (x : List Int) (w : World) (hi : BkIn b) (hxl : x.length = 3) (ho : BkOk w b A) :
    Tri Tryd.prog 60 [.agg ⟨bkV b A⟩, .agg ⟨i64s x⟩] w [] (fun v bx hp => bx = [] ∧ ∃ (g : Option Nat) (c : Nat), v = .agg ⟨bkV { b with S := insS x (decide (nthI x 2 = 0)) b.S } ⟨A.a1, svA g, A.a3, A.a4, A.c1, c, A.c3, A.c4⟩⟩ ∧ hp = [Seg.row g 54 3 (insS x (decide (nthI x 2 = 0)) b.S).length c ((insS x (decide (nthI x 2 = 0)) b.S).flatMap i64s)]) := by
  obtain ⟨a1, a2, a3, a4, c1, c2, c3, c4⟩ := A
  obtain ⟨x0, x1, x2, rfl⟩ := len3 hxl
  refine Tri.enter (bx := []) (hp := []) Tryd.func60 rfl (by kernel_rfl) rfl (Own.nil w) ?_
  have hal : SlOk w a2 (b.S.flatMap i64s) := ho.h2
  have l1 := hi.l2
  have hm0 : ∀ k, k ∉ (⟨w, kys [] []⟩ : Base).mods := by simp [kys]
  refine At.run 100 true [] [] rfl trivial ?_
  refine At.step [] rfl rfl rfl rfl rfl trivial (OpOk.box rfl rfl rfl fun bq hbq => ?_)
  refine At.step [] rfl rfl rfl rfl rfl trivial (OpOk.box rfl rfl rfl fun b3 hb3 => ?_)
  refine At.step [] rfl rfl rfl rfl rfl trivial (OpOk.alloc (cs := [.slice none 0 0, .slice none 0 0, .slice none 0 0, .slice none 0 0, .int .i64 0]) rfl (by kernel_rfl) fun b4 hb4 => ?_)
  refine At.run 100 true [] [hB 1] rfl (by (repeat' apply And.intro) <;> first | exact True.intro | omega | (simp only [inK]; omega) | (simp; done) | (simp; omega) | exact decide_eq_true (by omega) | exact decide_eq_false (by omega) | rfl | (simp [Value.oneCell']; done) | exact i64s_one _ | exact AggOk.mk (by kernel_rfl) (by kernel_rfl)) ?_
  refine At.nilRow 54 3 ?_
  refine At.loop (n := b.S.length) (env0 := [(2, .pointer (some ⟨bq, 0, none⟩)), (3, .pointer (some ⟨b3, 0, none⟩)), (4, .pointer (some ⟨b4, 0, none⟩)), (5, sv none ([] : List (List Int)).length 0), (6, .bool (decide (x2 = 0))), (7, .int .i64 0)]) (fun m env bx hp => ∃ (i : Nat) (out : List (List Int)) (d : Bool) (g : Option Nat) (c : Nat), m = b.S.length - i ∧ i ≤ b.S.length ∧ out.length ≤ i + 1 ∧ insS [x0, x1, x2] (decide (x2 = 0)) b.S = out ++ insS [x0, x1, x2] d (b.S.drop i) ∧ (d = false → out.length ≤ i) ∧
    env = [(2, .pointer (some ⟨bq, 0, none⟩)), (3, .pointer (some ⟨b3, 0, none⟩)), (4, .pointer (some ⟨b4, 0, none⟩)), (5, sv g out.length c), (6, .bool d), (7, .int .i64 i)] ∧ bx = [(b4, 27, [.slice none 0 0, .slice none 0 0, .slice none 0 0, .slice none 0 0, .int .i64 0]), (b3, 54, i64s [x0, x1, x2]), (bq, 27, bkV b ⟨a1, a2, a3, a4, c1, c2, c3, c4⟩)] ∧ hp = [Seg.row g 54 3 out.length c (out.flatMap i64s)]) rfl ⟨0, [], (decide (x2 = 0)), none, 0, by simp, by omega, by simp, rfl, by simp, rfl, rfl, rfl⟩ ⟨rfl, rfl, rfl, rfl, rfl, rfl, trivial⟩ ?_
  rintro m env bx hp ⟨i, out, d, g, c, rfl, hi2, hol, hpre, hod, rfl, rfl, rfl⟩ ih
  by_cases hlt : i < b.S.length
  · obtain ⟨z, hz⟩ : ∃ z, b.S[i]? = some z := ⟨_, List.getElem?_eq_getElem hlt⟩
    obtain ⟨hzl, hzi⟩ := hi.r2 z (List.mem_of_getElem? hz)
    have hne := slNe (sz := 3) (by omega) (fun x hx => (hi.r2 x hx).1) hz
    obtain ⟨gg, o, rfl, hc⟩ := hal.get hne
    obtain ⟨z0, z1, z2, rfl⟩ := len3 hzl
    have rE : ∀ {bx : Bx} {hp : List Seg}, RdW ⟨w, kys [] []⟩ bx hp gg (o + (i : Int).toNat * 3) (i64s [z0, z1, z2]) := fun {_ _} => RdW.sl hc (hm0 _) (i * 3) (by omega) (fun j u hu => flat_rec (fun x hx => (hi.r2 x hx).1) hz j u hu)
    rw [drop_at hz] at hpre
    refine At.run 100 true [true] [hB 2, hB 2, hR (i64s [z0, z1, z2])] rfl (by (repeat' apply And.intro) <;> first | exact rE | exact True.intro | omega | rfl | (simp only [inK]; omega) | exact decide_eq_true (by omega) | exact decide_eq_false (by omega) | (simp; done) | (simp; omega) | (simp [Value.oneCell']; done) | exact i64s_one _ | exact AggOk.mk (by kernel_rfl) (by kernel_rfl)) ?_
    refine At.step [] rfl rfl rfl rfl rfl trivial (OpOk.alloc (cs := [.int .i64 0, .int .i64 0, .int .i64 0]) rfl (by kernel_rfl) fun b8 hb8 => ?_)
    cases d with
    | true =>
      by_cases e0 : z0 = x0
      · by_cases e1 : z1 = x1
        · rw [insS_e1 (by exact ⟨e0, e1⟩)] at hpre
          refine At.run 100 true [false, false, false, false] [hB 0, hB 0, hB 2, hB 0, hB 2] rfl (by (repeat' apply And.intro) <;> first | exact i64s_one _ | (simp [e0]; done) | (simp [e1]; done) | exact True.intro | omega | rfl | (simp only [inK]; omega) | exact decide_eq_true (by omega) | exact decide_eq_false (by omega) | (simp; done) | (simp; omega) | (simp [Value.oneCell']; done) | exact i64s_one _ | exact AggOk.mk (by kernel_rfl) (by kernel_rfl)) ?_
          refine At.keep [false, true, true, true] [true] rfl ?_
          have ih := ih _ _ _ _ (by omega) ⟨i + 1, out, true, g, c, rfl, by omega, by omega, hpre, (fun h => by cases h), rfl, rfl, rfl⟩
          exact At.weak ih ⟨rfl, rfl, rfl, rfl, rfl, some_int_eq (by omega), trivial⟩
        · rw [insS_e2 (by exact fun h => e1 h.2)] at hpre
          refine At.run 100 true [false, false, false, true] [hB 0, hB 0, hB 2, hB 0, hB 2, hB 0] rfl (by (repeat' apply And.intro) <;> first | exact i64s_one _ | (simp [e0]; done) | (simp [e1]; done) | exact True.intro | omega | rfl | (simp only [inK]; omega) | exact decide_eq_true (by omega) | exact decide_eq_false (by omega) | (simp; done) | (simp; omega) | (simp [Value.oneCell']; done) | exact i64s_one _ | exact AggOk.mk (by kernel_rfl) (by kernel_rfl)) ?_
          refine At.append1 0 3 24 rfl rfl rfl rfl rfl rfl rfl rfl rfl trivial (fun _ => rfl) trivial rfl rfl rfl rfl rfl rfl rfl rfl (fun _ => rfl) (i64s_one [z0, z1, z2]) (by omega) (by omega) (fun bz9 g9 cc9 => ?_)
          refine At.run 100 true [] [] rfl (by (repeat' apply And.intro) <;> first | exact True.intro | omega | (simp only [inK]; omega) | (simp; done) | (simp; omega) | exact decide_eq_true (by omega) | exact decide_eq_false (by omega) | rfl | (simp [Value.oneCell']; done) | exact i64s_one _ | exact AggOk.mk (by kernel_rfl) (by kernel_rfl)) ?_
          refine At.keep [false, true, true, true] [true] rfl ?_
          have ih := ih _ _ _ _ (by omega) ⟨i + 1, out ++ [[z0, z1, z2]], true, g9, cc9, rfl, by omega, by simp; omega, by rw [hpre]; simp, (fun h => by cases h), rfl, rfl, rfl⟩
          simp only [List.length_append, List.length_singleton, List.flatMap_append, List.flatMap_singleton] at ih
          exact At.weak ih ⟨rfl, rfl, rfl, rfl, rfl, some_int_eq (by omega), trivial⟩
      · rw [insS_e2 (by exact fun h => e0 h.1)] at hpre
        refine At.run 100 true [false, false, true, true] [hB 0, hB 0, hB 2, hB 0] rfl (by (repeat' apply And.intro) <;> first | exact i64s_one _ | (simp [e0]; done) | exact True.intro | omega | rfl | (simp only [inK]; omega) | exact decide_eq_true (by omega) | exact decide_eq_false (by omega) | (simp; done) | (simp; omega) | (simp [Value.oneCell']; done) | exact i64s_one _ | exact AggOk.mk (by kernel_rfl) (by kernel_rfl)) ?_
        refine At.append1 0 3 24 rfl rfl rfl rfl rfl rfl rfl rfl rfl trivial (fun _ => rfl) trivial rfl rfl rfl rfl rfl rfl rfl rfl (fun _ => rfl) (i64s_one [z0, z1, z2]) (by omega) (by omega) (fun bz9 g9 cc9 => ?_)
        refine At.run 100 true [] [] rfl (by (repeat' apply And.intro) <;> first | exact True.intro | omega | (simp only [inK]; omega) | (simp; done) | (simp; omega) | exact decide_eq_true (by omega) | exact decide_eq_false (by omega) | rfl | (simp [Value.oneCell']; done) | exact i64s_one _ | exact AggOk.mk (by kernel_rfl) (by kernel_rfl)) ?_
        refine At.keep [false, true, true, true] [true] rfl ?_
        have ih := ih _ _ _ _ (by omega) ⟨i + 1, out ++ [[z0, z1, z2]], true, g9, cc9, rfl, by omega, by simp; omega, by rw [hpre]; simp, (fun h => by cases h), rfl, rfl, rfl⟩
        simp only [List.length_append, List.length_singleton, List.flatMap_append, List.flatMap_singleton] at ih
        exact At.weak ih ⟨rfl, rfl, rfl, rfl, rfl, some_int_eq (by omega), trivial⟩
    | false =>
      have hod := hod rfl
      by_cases e0 : z0 = x0
      · by_cases e1 : z1 = x1
        · rw [insS_e3 (by exact ⟨e0, e1⟩)] at hpre
          refine At.run 100 true [true, false, true, true] [hB 0, hB 0, hB 2, hB 0, hB 2, hB 0, hB 2, hB 2] rfl (by (repeat' apply And.intro) <;> first | exact i64s_one _ | (simp [e0]; done) | (simp [e1]; done) | (simp [e0, e1]; done) | (simp; omega) | exact True.intro | omega | rfl | (simp only [inK]; omega) | exact decide_eq_true (by omega) | exact decide_eq_false (by omega) | (simp; done) | (simp; omega) | (simp [Value.oneCell']; done) | exact i64s_one _ | exact AggOk.mk (by kernel_rfl) (by kernel_rfl)) ?_
          refine At.append1 0 3 24 rfl rfl rfl rfl rfl rfl rfl rfl rfl trivial (fun _ => rfl) trivial rfl rfl rfl rfl rfl rfl rfl rfl (fun _ => rfl) (i64s_one [x0, x1, x2]) (by omega) (by omega) (fun bz g2 cc2 => ?_)
          refine At.run 100 true [false, false] [hB 0, hB 2, hB 0, hB 2] rfl (by (repeat' apply And.intro) <;> first | exact i64s_one _ | (simp [e0]; done) | (simp [e1]; done) | (simp [e0, e1]; done) | (simp; omega) | exact True.intro | omega | rfl | (simp only [inK]; omega) | exact decide_eq_true (by omega) | exact decide_eq_false (by omega) | (simp; done) | (simp; omega) | (simp [Value.oneCell']; done) | exact i64s_one _ | exact AggOk.mk (by kernel_rfl) (by kernel_rfl)) ?_
          refine At.keep [false, true, true, true] [true] rfl ?_
          have ih := ih _ _ _ _ (by omega) ⟨i + 1, out ++ [[x0, x1, x2]], true, g2, cc2, rfl, by omega, by simp; omega, by rw [hpre]; simp, (fun h => by cases h), rfl, rfl, rfl⟩
          simp only [List.length_append, List.length_singleton, List.flatMap_append, List.flatMap_singleton] at ih
          exact At.weak ih ⟨rfl, rfl, rfl, rfl, rfl, some_int_eq (by omega), trivial⟩
        · by_cases h1 : x1 ≤ z1
          · rw [insS_e4 (by exact .inr ⟨e0, h1⟩) (by exact fun h => e1 h.2)] at hpre
            refine At.run 100 true [true, false, true, true] [hB 0, hB 0, hB 2, hB 0, hB 2, hB 0, hB 2, hB 2] rfl (by (repeat' apply And.intro) <;> first | exact i64s_one _ | (simp [e0]; done) | (simp [e1]; done) | (simp [e0, e1]; done) | (simp; omega) | exact True.intro | omega | rfl | (simp only [inK]; omega) | exact decide_eq_true (by omega) | exact decide_eq_false (by omega) | (simp; done) | (simp; omega) | (simp [Value.oneCell']; done) | exact i64s_one _ | exact AggOk.mk (by kernel_rfl) (by kernel_rfl)) ?_
            refine At.append1 0 3 24 rfl rfl rfl rfl rfl rfl rfl rfl rfl trivial (fun _ => rfl) trivial rfl rfl rfl rfl rfl rfl rfl rfl (fun _ => rfl) (i64s_one [x0, x1, x2]) (by omega) (by omega) (fun bz g2 cc2 => ?_)
            refine At.run 100 true [false, true] [hB 0, hB 2, hB 0, hB 2, hB 0] rfl (by (repeat' apply And.intro) <;> first | exact i64s_one _ | (simp [e0]; done) | (simp [e1]; done) | (simp [e0, e1]; done) | (simp; omega) | exact True.intro | omega | rfl | (simp only [inK]; omega) | exact decide_eq_true (by omega) | exact decide_eq_false (by omega) | (simp; done) | (simp; omega) | (simp [Value.oneCell']; done) | exact i64s_one _ | exact AggOk.mk (by kernel_rfl) (by kernel_rfl)) ?_
            refine At.append1 0 3 24 rfl rfl rfl rfl rfl rfl rfl rfl rfl trivial (fun _ => rfl) trivial rfl rfl rfl rfl rfl rfl rfl rfl (fun _ => rfl) (i64s_one [z0, z1, z2]) (by omega) (by omega) (fun bz9 g9 cc9 => ?_)
            refine At.run 100 true [] [] rfl (by (repeat' apply And.intro) <;> first | exact True.intro | omega | (simp only [inK]; omega) | (simp; done) | (simp; omega) | exact decide_eq_true (by omega) | exact decide_eq_false (by omega) | rfl | (simp [Value.oneCell']; done) | exact i64s_one _ | exact AggOk.mk (by kernel_rfl) (by kernel_rfl)) ?_
            refine At.keep [false, true, true, true] [true] rfl ?_
            have ih := ih _ _ _ _ (by omega) ⟨i + 1, out ++ [[x0, x1, x2]] ++ [[z0, z1, z2]], true, g9, cc9, rfl, by omega, by simp; omega, by rw [hpre]; simp, (fun h => by cases h), rfl, rfl, rfl⟩
            simp only [List.length_append, List.length_singleton, List.flatMap_append, List.flatMap_singleton] at ih
            exact At.weak ih ⟨rfl, rfl, rfl, rfl, rfl, some_int_eq (by omega), trivial⟩
          · rw [insS_e5 (by simp only [k0, k1, List.headD_cons, List.tail_cons]; omega)] at hpre
            refine At.run 100 true [true, false, true, false, false, true] [hB 0, hB 0, hB 2, hB 0, hB 2, hB 0, hB 2, hB 0, hB 2, hB 0, hB 2, hB 0] rfl (by (repeat' apply And.intro) <;> first | exact i64s_one _ | (simp [e0]; done) | (simp [e1]; done) | (simp [e0, e1]; done) | (simp; omega) | exact True.intro | omega | rfl | (simp only [inK]; omega) | exact decide_eq_true (by omega) | exact decide_eq_false (by omega) | (simp; done) | (simp; omega) | (simp [Value.oneCell']; done) | exact i64s_one _ | exact AggOk.mk (by kernel_rfl) (by kernel_rfl)) ?_
            refine At.append1 0 3 24 rfl rfl rfl rfl rfl rfl rfl rfl rfl trivial (fun _ => rfl) trivial rfl rfl rfl rfl rfl rfl rfl rfl (fun _ => rfl) (i64s_one [z0, z1, z2]) (by omega) (by omega) (fun bz9 g9 cc9 => ?_)
            refine At.run 100 true [] [] rfl (by (repeat' apply And.intro) <;> first | exact True.intro | omega | (simp only [inK]; omega) | (simp; done) | (simp; omega) | exact decide_eq_true (by omega) | exact decide_eq_false (by omega) | rfl | (simp [Value.oneCell']; done) | exact i64s_one _ | exact AggOk.mk (by kernel_rfl) (by kernel_rfl)) ?_
            refine At.keep [false, true, true, true] [true] rfl ?_
            have ih := ih _ _ _ _ (by omega) ⟨i + 1, out ++ [[z0, z1, z2]], false, g9, cc9, rfl, by omega, by simp; omega, by rw [hpre]; simp, (fun _ => by simp; omega), rfl, rfl, rfl⟩
            simp only [List.length_append, List.length_singleton, List.flatMap_append, List.flatMap_singleton] at ih
            exact At.weak ih ⟨rfl, rfl, rfl, rfl, rfl, some_int_eq (by omega), trivial⟩
      · by_cases h0 : x0 < z0
        · rw [insS_e4 (by exact .inl h0) (by exact fun h => e0 h.1)] at hpre
          refine At.run 100 true [true, true, true] [hB 0, hB 0, hB 2, hB 2] rfl (by (repeat' apply And.intro) <;> first | exact i64s_one _ | (simp [e0]; done) | (simp [h0]; done) | (simp [e0, h0]; done) | (simp; omega) | exact True.intro | omega | rfl | (simp only [inK]; omega) | exact decide_eq_true (by omega) | exact decide_eq_false (by omega) | (simp; done) | (simp; omega) | (simp [Value.oneCell']; done) | exact i64s_one _ | exact AggOk.mk (by kernel_rfl) (by kernel_rfl)) ?_
          refine At.append1 0 3 24 rfl rfl rfl rfl rfl rfl rfl rfl rfl trivial (fun _ => rfl) trivial rfl rfl rfl rfl rfl rfl rfl rfl (fun _ => rfl) (i64s_one [x0, x1, x2]) (by omega) (by omega) (fun bz g2 cc2 => ?_)
          refine At.run 100 true [true, true] [hB 0, hB 2, hB 0] rfl (by (repeat' apply And.intro) <;> first | exact i64s_one _ | (simp [e0]; done) | (simp [h0]; done) | (simp [e0, h0]; done) | (simp; omega) | exact True.intro | omega | rfl | (simp only [inK]; omega) | exact decide_eq_true (by omega) | exact decide_eq_false (by omega) | (simp; done) | (simp; omega) | (simp [Value.oneCell']; done) | exact i64s_one _ | exact AggOk.mk (by kernel_rfl) (by kernel_rfl)) ?_
          refine At.append1 0 3 24 rfl rfl rfl rfl rfl rfl rfl rfl rfl trivial (fun _ => rfl) trivial rfl rfl rfl rfl rfl rfl rfl rfl (fun _ => rfl) (i64s_one [z0, z1, z2]) (by omega) (by omega) (fun bz9 g9 cc9 => ?_)
          refine At.run 100 true [] [] rfl (by (repeat' apply And.intro) <;> first | exact True.intro | omega | (simp only [inK]; omega) | (simp; done) | (simp; omega) | exact decide_eq_true (by omega) | exact decide_eq_false (by omega) | rfl | (simp [Value.oneCell']; done) | exact i64s_one _ | exact AggOk.mk (by kernel_rfl) (by kernel_rfl)) ?_
          refine At.keep [false, true, true, true] [true] rfl ?_
          have ih := ih _ _ _ _ (by omega) ⟨i + 1, out ++ [[x0, x1, x2]] ++ [[z0, z1, z2]], true, g9, cc9, rfl, by omega, by simp; omega, by rw [hpre]; simp, (fun h => by cases h), rfl, rfl, rfl⟩
          simp only [List.length_append, List.length_singleton, List.flatMap_append, List.flatMap_singleton] at ih
          exact At.weak ih ⟨rfl, rfl, rfl, rfl, rfl, some_int_eq (by omega), trivial⟩
        · rw [insS_e5 (by simp only [k0, k1, List.headD_cons, List.tail_cons]; omega)] at hpre
          refine At.run 100 true [true, false, false, false, true, true] [hB 0, hB 0, hB 2, hB 0, hB 2, hB 0, hB 2, hB 0] rfl (by (repeat' apply And.intro) <;> first | exact i64s_one _ | (simp [e0]; done) | (simp [h0]; done) | (simp [e0, h0]; done) | (simp; omega) | exact True.intro | omega | rfl | (simp only [inK]; omega) | exact decide_eq_true (by omega) | exact decide_eq_false (by omega) | (simp; done) | (simp; omega) | (simp [Value.oneCell']; done) | exact i64s_one _ | exact AggOk.mk (by kernel_rfl) (by kernel_rfl)) ?_
          refine At.append1 0 3 24 rfl rfl rfl rfl rfl rfl rfl rfl rfl trivial (fun _ => rfl) trivial rfl rfl rfl rfl rfl rfl rfl rfl (fun _ => rfl) (i64s_one [z0, z1, z2]) (by omega) (by omega) (fun bz9 g9 cc9 => ?_)
          refine At.run 100 true [] [] rfl (by (repeat' apply And.intro) <;> first | exact True.intro | omega | (simp only [inK]; omega) | (simp; done) | (simp; omega) | exact decide_eq_true (by omega) | exact decide_eq_false (by omega) | rfl | (simp [Value.oneCell']; done) | exact i64s_one _ | exact AggOk.mk (by kernel_rfl) (by kernel_rfl)) ?_
          refine At.keep [false, true, true, true] [true] rfl ?_
          have ih := ih _ _ _ _ (by omega) ⟨i + 1, out ++ [[z0, z1, z2]], false, g9, cc9, rfl, by omega, by simp; omega, by rw [hpre]; simp, (fun _ => by simp; omega), rfl, rfl, rfl⟩
          simp only [List.length_append, List.length_singleton, List.flatMap_append, List.flatMap_singleton] at ih
          exact At.weak ih ⟨rfl, rfl, rfl, rfl, rfl, some_int_eq (by omega), trivial⟩
  · rw [List.drop_of_length_le (by omega)] at hpre
    clear ih
    cases d with
    | true =>
      have hpre : insS [x0, x1, x2] (decide (x2 = 0)) b.S = out := hpre.trans (List.append_nil _)
      refine At.run 100 true [false, false] [hB 2, hB 2, hB 2, hB 0] rfl (by (repeat' apply And.intro) <;> first | exact cells5 rfl rfl rfl rfl rfl | exact True.intro | omega | rfl | (simp only [inK]; omega) | exact decide_eq_true (by omega) | exact decide_eq_false (by omega) | (simp; done) | (simp; omega) | (simp [Value.oneCell']; done) | exact i64s_one _ | exact AggOk.mk (by kernel_rfl) (by kernel_rfl)) ?_
      refine At.retK [] [true] [hB 0] rfl rfl Tryd.func60 rfl ⟨rfl, trivial⟩ ⟨rfl, g, c, ?_, ?_⟩
      · show _ = Value.agg ⟨bkV { b with S := insS [x0, x1, x2] (decide (x2 = 0)) b.S } _⟩
        rw [hpre]; rfl
      · show _ = [Seg.row g 54 3 (insS [x0, x1, x2] (decide (x2 = 0)) b.S).length c ((insS [x0, x1, x2] (decide (x2 = 0)) b.S).flatMap i64s)]
        rw [hpre]
    | false =>
      have hod := hod rfl
      have hpre : insS [x0, x1, x2] (decide (x2 = 0)) b.S = out ++ [[x0, x1, x2]] := hpre
      refine At.run 100 true [false, true] [hB 2, hB 1] rfl (by (repeat' apply And.intro) <;> first | exact True.intro | omega | (simp only [inK]; omega) | (simp; done) | (simp; omega) | exact decide_eq_true (by omega) | exact decide_eq_false (by omega) | rfl | (simp [Value.oneCell']; done) | exact i64s_one _ | exact AggOk.mk (by kernel_rfl) (by kernel_rfl)) ?_
      refine At.append1 0 3 24 rfl rfl rfl rfl rfl rfl rfl rfl rfl trivial (fun _ => rfl) trivial rfl rfl rfl rfl rfl rfl rfl rfl (fun _ => rfl) (i64s_one [x0, x1, x2]) (by omega) (by omega) (fun bz g2 cc2 => ?_)
      refine At.run 100 true [] [hB 2, hB 2, hB 0] rfl (by (repeat' apply And.intro) <;> first | exact cells5 rfl rfl rfl rfl rfl | exact True.intro | omega | rfl | (simp only [inK]; omega) | exact decide_eq_true (by omega) | exact decide_eq_false (by omega) | (simp; done) | (simp; omega) | (simp [Value.oneCell']; done) | exact i64s_one _ | exact AggOk.mk (by kernel_rfl) (by kernel_rfl)) ?_
      refine At.retK [] [true] [hB 0] rfl rfl Tryd.func60 rfl ⟨rfl, trivial⟩ ⟨rfl, g2, cc2, ?_, ?_⟩
      · show _ = Value.agg ⟨bkV { b with S := insS [x0, x1, x2] (decide (x2 = 0)) b.S } _⟩
        rw [hpre]
        simp only [bkV, List.length_append, List.length_singleton]; rfl
      · show _ = [Seg.row g2 54 3 (insS [x0, x1, x2] (decide (x2 = 0)) b.S).length cc2 ((insS [x0, x1, x2] (decide (x2 = 0)) b.S).flatMap i64s)]
        rw [hpre]
        simp only [List.length_append, List.length_singleton, List.flatMap_append, List.flatMap_singleton]; rfl
end Go.Proofs

/-
  Walks of layer 14: may a change be, its key, may changes be.
-/
namespace Go.Proofs
open Go Go.Eng
set_option maxRecDepth 100000
set_option maxHeartbeats 4000000
attribute [local irreducible] Tri

/-- The table of the program's text: how many values things of each list have. -/
def Tryd.Wid (w : World) : Prop := SlOk w (some ⟨0, 0, none⟩) (i64s [0, 3, 1, 5, 1, 1])
theorem Tryd.Wid.ext {w w' : World} (h : Tryd.Wid w) {m : List Nat} (he : Ext m w w') (hm : m = []) : Tryd.Wid w' := SlOk.ext h he (by subst hm; simp)
theorem Tryd.Wid.cell {w : World} (h : Tryd.Wid w) {l : Int} (h1 : 1 ≤ l) (h5 : l ≤ 5) : w.cell? ⟨0, 0 + l.toNat * 1, none⟩ = some (.int .i64 (widN l)) := by
  obtain ⟨b, o, e, hc⟩ := SlOk.get h (by simp [i64s])
  cases e
  have hl : l = 1 ∨ l = 2 ∨ l = 3 ∨ l = 4 ∨ l = 5 := by omega
  rw [Nat.mul_one]
  refine hc l.toNat _ ?_
  rcases hl with rfl | rfl | rfl | rfl | rfl <;> rfl
theorem RdW.i64At {S : Base} {bx : Bx} {hp : List Seg} {g o off : Nat} {v : List Int} (hc : ∀ j u, (i64s v)[j]? = some u → S.w0.cell? ⟨g, o + j, none⟩ = some u) (hm : g ∉ S.mods) {j : Nat} {x : Int} (hx : v[j]? = some x) (ho : off = o + j) : RdW S bx hp g off [.int .i64 x] :=
  RdW.base1 hm (by subst ho; exact hc j _ (by simp [i64s, hx]))
theorem nthI_of {v : List Int} {i : Nat} {x : Int} (h : v[i]? = some x) : nthI v i = x := by simp [nthI, h]

theorem Tryd.values_w (l : Int) (v : List Int) (a : Option Addr) (c : Nat) (w : World) (h1 : 1 ≤ l) (h5 : l ≤ 5) (hv : SlOk w a (i64s v)) (hW : Tryd.Wid w) :
    Fun Tryd.prog 92 [.int .i64 l, .slice a v.length c] w (.bool (valuesB l v)) := by
  refine Tri.enter (bx := []) (hp := []) Tryd.func92 rfl (by kernel_rfl) rfl (Own.nil w) ?_
  by_cases hn : v = []
  · subst hn
    rw [show valuesB l [] = !decide (l = 5) by simp [valuesB]]
    refine At.run 100 true [true] [] rfl (by (repeat' apply And.intro) <;> first | exact True.intro | omega | (simp only [inK]; omega) | (simp; done) | (simp; omega) | exact decide_eq_true (by omega) | exact decide_eq_false (by omega) | rfl | (simp [Value.oneCell']; done) | exact i64s_one _ | exact AggOk.mk (by kernel_rfl) (by kernel_rfl)) ?_
    exact At.retK [] [] [] rfl rfl Tryd.func92 rfl trivial ⟨rfl, rfl, rfl⟩
  have hpos : 0 < v.length := List.length_pos_iff.2 hn
  have hm : ∀ k, k ∉ (⟨w, kys [] []⟩ : Base).mods := by simp [kys]
  have rW : ∀ {bx : Bx} {hp : List Seg}, RdW ⟨w, kys [] []⟩ bx hp 0 (0 + l.toNat * 1) [.int .i64 (widN l)] := fun {_ _} => RdW.base1 (hm _) (Tryd.Wid.cell hW h1 h5)
  by_cases e1 : v.length = widN l
  · by_cases e3 : l = 3
    · have hl5 : v.length = 5 := by rw [e1, e3]; rfl
      obtain ⟨x, hx⟩ : ∃ x, v[2]? = some x := ⟨_, List.getElem?_eq_getElem (by omega)⟩
      obtain ⟨g, o, rfl, hc⟩ := hv.get (by simpa [i64s] using hn)
      have r2 : ∀ {bx : Bx} {hp : List Seg}, RdW ⟨w, kys [] []⟩ bx hp g (o + (2 : Int).toNat * 1) [.int .i64 x] := fun {_ _} => RdW.i64At hc (hm _) hx (by simp)
      by_cases z : x = 0
      · rw [show valuesB l v = true by simp [valuesB, hn, e1, e3, nthI_of hx, z]]
        refine At.run 100 true [false, true, false, true] [hR [.int .i64 (widN l)], hR [.int .i64 x]] rfl (by (repeat' apply And.intro) <;> first | exact rW | exact r2 | (simp [e1]; done) | (simp [e3]; done) | (simp [z]; done) | exact True.intro | omega | rfl | (simp only [inK]; omega) | exact decide_eq_true (by omega) | exact decide_eq_false (by omega) | (simp; done) | (simp; omega) | (simp [Value.oneCell']; done) | exact i64s_one _ | exact AggOk.mk (by kernel_rfl) (by kernel_rfl)) ?_
        exact At.retK [] [] [] rfl rfl Tryd.func92 rfl trivial ⟨rfl, rfl, rfl⟩
      · rw [show valuesB l v = decide (x = 1) by rw [valuesB, if_neg hn, nthI_of hx, decide_eq_true e1, decide_eq_false z, decide_eq_false (by simp [e3] : ¬ l ≠ 3)]; simp]
        refine At.run 100 true [false, true, false, false] [hR [.int .i64 (widN l)], hR [.int .i64 x], hR [.int .i64 x]] rfl (by (repeat' apply And.intro) <;> first | exact rW | exact r2 | (simp [e1]; done) | (simp [e3]; done) | (simp [z]; done) | exact True.intro | omega | rfl | (simp only [inK]; omega) | exact decide_eq_true (by omega) | exact decide_eq_false (by omega) | (simp; done) | (simp; omega) | (simp [Value.oneCell']; done) | exact i64s_one _ | exact AggOk.mk (by kernel_rfl) (by kernel_rfl)) ?_
        exact At.retK [] [] [] rfl rfl Tryd.func92 rfl trivial ⟨rfl, rfl, rfl⟩
    · rw [show valuesB l v = true by rw [valuesB, if_neg hn, decide_eq_true e1, decide_eq_true e3]; simp]
      refine At.run 100 true [false, true, true, true] [hR [.int .i64 (widN l)]] rfl (by (repeat' apply And.intro) <;> first | exact rW | (simp [e1]; done) | (simp [e3]; done) | exact True.intro | omega | rfl | (simp only [inK]; omega) | exact decide_eq_true (by omega) | exact decide_eq_false (by omega) | (simp; done) | (simp; omega) | (simp [Value.oneCell']; done) | exact i64s_one _ | exact AggOk.mk (by kernel_rfl) (by kernel_rfl)) ?_
      exact At.retK [] [] [] rfl rfl Tryd.func92 rfl trivial ⟨rfl, rfl, rfl⟩
  · rw [show valuesB l v = false by rw [valuesB, if_neg hn, decide_eq_false e1]; simp]
    refine At.run 100 true [false, false] [hR [.int .i64 (widN l)]] rfl (by (repeat' apply And.intro) <;> first | exact rW | (simp; omega) | exact True.intro | omega | rfl | (simp only [inK]; omega) | exact decide_eq_true (by omega) | exact decide_eq_false (by omega) | (simp; done) | (simp; omega) | (simp [Value.oneCell']; done) | exact i64s_one _ | exact AggOk.mk (by kernel_rfl) (by kernel_rfl)) ?_
    exact At.retK [] [] [] rfl rfl Tryd.func92 rfl trivial ⟨rfl, rfl, rfl⟩

theorem Tryd.key_w (e : ChE) (w : World) : Fun Tryd.prog 27 [.agg ⟨chC e⟩] w (key3 e.k) := by
  refine Tri.enter (bx := []) (hp := []) Tryd.func27 rfl (by kernel_rfl) rfl (Own.nil w) ?_
  refine At.run 100 true [] [] rfl trivial ?_
  refine At.step [] rfl rfl rfl rfl rfl trivial (OpOk.box rfl rfl rfl fun bq hbq => ?_)
  refine At.step [] rfl rfl rfl rfl rfl trivial (OpOk.alloc (cs := [.int .i64 0, .int .i64 0, .int .i64 0]) rfl (by kernel_rfl) fun b2 hb2 => ?_)
  refine At.run 100 true [] [hB 1, hB 1, hB 1, hB 0] rfl (by (repeat' apply And.intro) <;> first | exact i64s_one [_, _, _] | exact True.intro | omega | rfl | (simp only [inK]; omega) | exact decide_eq_true (by omega) | exact decide_eq_false (by omega) | (simp; done) | (simp; omega) | (simp [Value.oneCell']; done) | exact i64s_one _ | exact AggOk.mk (by kernel_rfl) (by kernel_rfl)) ?_
  exact At.retK [] [] [hB 0] rfl rfl Tryd.func27 rfl ⟨rfl, trivial⟩ ⟨rfl, rfl, rfl⟩

theorem mayC_no {e : ChP} (h : ¬ (1 ≤ e.1.1 ∧ e.1.1 ≤ 5 ∧ e.2.1 ≠ e.2.2 ∧ (e.1.1 ≠ 2 → e.1.2.2 = 0) ∧ (e.1.1 = 5 → e.1.2.1 = 0))) : mayC e = false := by unfold mayC; rw [decide_eq_false h]; rfl
theorem mayC_yes {e : ChP} (h : 1 ≤ e.1.1 ∧ e.1.1 ≤ 5 ∧ e.2.1 ≠ e.2.2 ∧ (e.1.1 ≠ 2 → e.1.2.2 = 0) ∧ (e.1.1 = 5 → e.1.2.1 = 0)) : mayC e = (valuesB e.1.1 e.2.1 && valuesB e.1.1 e.2.2) := by unfold mayC; rw [decide_eq_true h]; rfl

theorem Tryd.may14_w (e : ChE) (w : World) (h1 : SlOk w e.wa (i64s e.was)) (h2 : SlOk w e.ia (i64s e.is)) (l1 : e.was.length ≤ 1152921504606846976) (l2 : e.is.length ≤ 1152921504606846976) (hW : Tryd.Wid w) :
    Fun Tryd.prog 57 [.agg ⟨chC e⟩] w (.bool (mayC (chP e))) := by
  refine Tri.enter (bx := []) (hp := []) Tryd.func57 rfl (by kernel_rfl) rfl (Own.nil w) ?_
  refine At.run 100 true [] [] rfl trivial ?_
  refine At.step [] rfl rfl rfl rfl rfl trivial (OpOk.box rfl rfl rfl fun bq hbq => ?_)
  have hEq : ∀ {bx : Bx} {hp : List Seg}, CallOb Tryd.prog ⟨w, kys [] []⟩ bx hp 25 [.slice e.wa e.was.length e.wc, .slice e.ia e.is.length e.ic] (.bool (decide (e.was = e.is))) := fun {_ _} w' hw' => Tryd.equal_w _ _ _ _ _ _ w' (by omega) (by omega) (h1.ext hw'.ext (by simp [kys])) (h2.ext hw'.ext (by simp [kys]))
  by_cases c1 : e.k.1 < 1
  · rw [mayC_no (show ¬ _ from fun h => by have := h.1; simp only [chP] at this; omega)]
    refine At.run 100 true [true, true, true] [hB 0] rfl (by (repeat' apply And.intro) <;> first | exact True.intro | omega | (simp only [inK]; omega) | (simp; done) | (simp; omega) | exact decide_eq_true (by omega) | exact decide_eq_false (by omega) | rfl | (simp [Value.oneCell']; done) | exact i64s_one _ | exact AggOk.mk (by kernel_rfl) (by kernel_rfl)) ?_
    exact At.retK [] [] [] rfl rfl Tryd.func57 rfl trivial ⟨rfl, rfl, rfl⟩
  by_cases c5 : 5 < e.k.1
  · rw [mayC_no (show ¬ _ from fun h => by have := h.2.1; simp only [chP] at this; omega)]
    refine At.run 100 true [false, true, true] [hB 0, hB 0] rfl (by (repeat' apply And.intro) <;> first | exact True.intro | omega | (simp only [inK]; omega) | (simp; done) | (simp; omega) | exact decide_eq_true (by omega) | exact decide_eq_false (by omega) | rfl | (simp [Value.oneCell']; done) | exact i64s_one _ | exact AggOk.mk (by kernel_rfl) (by kernel_rfl)) ?_
    exact At.retK [] [] [] rfl rfl Tryd.func57 rfl trivial ⟨rfl, rfl, rfl⟩
  by_cases ce : e.was = e.is
  · rw [mayC_no (show ¬ _ from fun h => h.2.2.1 ce)]
    refine At.run 100 true [false, false, true] [hB 0, hB 0, hB 0, hB 0, hC (.bool (decide (e.was = e.is)))] rfl (by (repeat' apply And.intro) <;> first | exact hEq | (simp [ce]; done) | exact True.intro | omega | rfl | (simp only [inK]; omega) | exact decide_eq_true (by omega) | exact decide_eq_false (by omega) | (simp; done) | (simp; omega) | (simp [Value.oneCell']; done) | exact i64s_one _ | exact AggOk.mk (by kernel_rfl) (by kernel_rfl)) ?_
    exact At.retK [] [] [] rfl rfl Tryd.func57 rfl trivial ⟨rfl, rfl, rfl⟩
  have hV1 : ∀ {bx : Bx} {hp : List Seg}, CallOb Tryd.prog ⟨w, kys [] []⟩ bx hp 92 [.int .i64 e.k.1, .slice e.wa e.was.length e.wc] (.bool (valuesB e.k.1 e.was)) := fun {_ _} w' hw' => Tryd.values_w _ _ _ _ w' (by omega) (by omega) (h1.ext hw'.ext (by simp [kys])) (Tryd.Wid.ext hW hw'.ext (by simp [kys]))
  have hV2 : ∀ {bx : Bx} {hp : List Seg}, CallOb Tryd.prog ⟨w, kys [] []⟩ bx hp 92 [.int .i64 e.k.1, .slice e.ia e.is.length e.ic] (.bool (valuesB e.k.1 e.is)) := fun {_ _} w' hw' => Tryd.values_w _ _ _ _ w' (by omega) (by omega) (h2.ext hw'.ext (by simp [kys])) (Tryd.Wid.ext hW hw'.ext (by simp [kys]))
  by_cases cb : ¬ e.k.1 = 2 ∧ ¬ e.k.2.2 = 0
  · rw [mayC_no (show ¬ _ from fun h => cb.2 (h.2.2.2.1 cb.1))]
    refine At.run 100 true [false, false, false, true, true, false, false] [hB 0, hB 0, hB 0, hB 0, hC (.bool (decide (e.was = e.is))), hB 0, hB 0] rfl (by (repeat' apply And.intro) <;> first | exact hEq | (simp [ce]; done) | (simp [cb.1]; done) | (simp [cb.2]; done) | exact True.intro | omega | rfl | (simp only [inK]; omega) | exact decide_eq_true (by omega) | exact decide_eq_false (by omega) | (simp; done) | (simp; omega) | (simp [Value.oneCell']; done) | exact i64s_one _ | exact AggOk.mk (by kernel_rfl) (by kernel_rfl)) ?_
    exact At.retK [] [] [] rfl rfl Tryd.func57 rfl trivial ⟨rfl, rfl, rfl⟩
  by_cases ca : e.k.1 = 5 ∧ ¬ e.k.2.1 = 0
  · have cb2 : e.k.2.2 = 0 := Classical.byContradiction fun h => cb ⟨by omega, h⟩
    rw [mayC_no (show ¬ _ from fun h => ca.2 (h.2.2.2.2 ca.1))]
    refine At.run 100 true [false, false, false, true, false, true, false, false] [hB 0, hB 0, hB 0, hB 0, hC (.bool (decide (e.was = e.is))), hB 0, hB 0, hB 0, hB 0] rfl (by (repeat' apply And.intro) <;> first | exact hEq | (simp [ce]; done) | (simp [ca.1]; done) | (simp [ca.2]; done) | (simp [cb2]; done) | exact True.intro | omega | rfl | (simp only [inK]; omega) | exact decide_eq_true (by omega) | exact decide_eq_false (by omega) | (simp; done) | (simp; omega) | (simp [Value.oneCell']; done) | exact i64s_one _ | exact AggOk.mk (by kernel_rfl) (by kernel_rfl)) ?_
    exact At.retK [] [] [] rfl rfl Tryd.func57 rfl trivial ⟨rfl, rfl, rfl⟩
  have hyes : mayC (chP e) = (valuesB e.k.1 e.was && valuesB e.k.1 e.is) := mayC_yes ⟨by simp only [chP]; omega, by simp only [chP]; omega, ce, fun h => Classical.byContradiction fun h' => cb ⟨h, h'⟩, fun h => Classical.byContradiction fun h' => ca ⟨h, h'⟩⟩
  rw [hyes]
  cases hv1 : valuesB e.k.1 e.was with
  | false =>
    rw [hv1] at hV1
    rw [Bool.false_and]
    by_cases c2 : e.k.1 = 2
    · refine At.run 100 true [false, false, false, false, false, false, true, false] [hB 0, hB 0, hB 0, hB 0, hC (.bool (decide (e.was = e.is))), hB 0, hB 0, hB 0, hB 0, hC (.bool false)] rfl (by (repeat' apply And.intro) <;> first | exact hEq | exact hV1 | (simp [ce]; done) | (simp [c2]; done) | exact True.intro | omega | rfl | (simp only [inK]; omega) | exact decide_eq_true (by omega) | exact decide_eq_false (by omega) | (simp; done) | (simp; omega) | (simp [Value.oneCell']; done) | exact i64s_one _ | exact AggOk.mk (by kernel_rfl) (by kernel_rfl)) ?_
      exact At.retK [] [] [] rfl rfl Tryd.func57 rfl trivial ⟨rfl, rfl, rfl⟩
    · have cb2 : e.k.2.2 = 0 := Classical.byContradiction fun h => cb ⟨by omega, h⟩
      by_cases c5 : e.k.1 = 5
      · have ca2 : e.k.2.1 = 0 := Classical.byContradiction fun h => ca ⟨c5, h⟩
        refine At.run 100 true [false, false, false, true, false, true, true, false] [hB 0, hB 0, hB 0, hB 0, hC (.bool (decide (e.was = e.is))), hB 0, hB 0, hB 0, hB 0, hB 0, hB 0, hC (.bool false)] rfl (by (repeat' apply And.intro) <;> first | exact hEq | exact hV1 | (simp [ce]; done) | (simp [c2]; done) | (simp [c5]; done) | (simp [cb2]; done) | (simp [ca2]; done) | exact True.intro | omega | rfl | (simp only [inK]; omega) | exact decide_eq_true (by omega) | exact decide_eq_false (by omega) | (simp; done) | (simp; omega) | (simp [Value.oneCell']; done) | exact i64s_one _ | exact AggOk.mk (by kernel_rfl) (by kernel_rfl)) ?_
        exact At.retK [] [] [] rfl rfl Tryd.func57 rfl trivial ⟨rfl, rfl, rfl⟩
      · refine At.run 100 true [false, false, false, true, false, false, true, false] [hB 0, hB 0, hB 0, hB 0, hC (.bool (decide (e.was = e.is))), hB 0, hB 0, hB 0, hB 0, hB 0, hC (.bool false)] rfl (by (repeat' apply And.intro) <;> first | exact hEq | exact hV1 | (simp [ce]; done) | (simp [c2]; done) | (simp [c5]; done) | (simp [cb2]; done) | exact True.intro | omega | rfl | (simp only [inK]; omega) | exact decide_eq_true (by omega) | exact decide_eq_false (by omega) | (simp; done) | (simp; omega) | (simp [Value.oneCell']; done) | exact i64s_one _ | exact AggOk.mk (by kernel_rfl) (by kernel_rfl)) ?_
        exact At.retK [] [] [] rfl rfl Tryd.func57 rfl trivial ⟨rfl, rfl, rfl⟩
  | true =>
    rw [hv1] at hV1
    rw [Bool.true_and]
    by_cases c2 : e.k.1 = 2
    · refine At.run 100 true [false, false, false, false, false, false, true, true] [hB 0, hB 0, hB 0, hB 0, hC (.bool (decide (e.was = e.is))), hB 0, hB 0, hB 0, hB 0, hC (.bool true), hB 0, hB 0, hC (.bool (valuesB e.k.1 e.is))] rfl (by (repeat' apply And.intro) <;> first | exact hEq | exact hV1 | exact hV2 | (simp [ce]; done) | (simp [c2]; done) | exact True.intro | omega | rfl | (simp only [inK]; omega) | exact decide_eq_true (by omega) | exact decide_eq_false (by omega) | (simp; done) | (simp; omega) | (simp [Value.oneCell']; done) | exact i64s_one _ | exact AggOk.mk (by kernel_rfl) (by kernel_rfl)) ?_
      exact At.retK [] [] [] rfl rfl Tryd.func57 rfl trivial ⟨rfl, rfl, rfl⟩
    · have cb2 : e.k.2.2 = 0 := Classical.byContradiction fun h => cb ⟨by omega, h⟩
      by_cases c5 : e.k.1 = 5
      · have ca2 : e.k.2.1 = 0 := Classical.byContradiction fun h => ca ⟨c5, h⟩
        refine At.run 100 true [false, false, false, true, false, true, true, true] [hB 0, hB 0, hB 0, hB 0, hC (.bool (decide (e.was = e.is))), hB 0, hB 0, hB 0, hB 0, hB 0, hB 0, hC (.bool true), hB 0, hB 0, hC (.bool (valuesB e.k.1 e.is))] rfl (by (repeat' apply And.intro) <;> first | exact hEq | exact hV1 | exact hV2 | (simp [ce]; done) | (simp [c2]; done) | (simp [c5]; done) | (simp [cb2]; done) | (simp [ca2]; done) | exact True.intro | omega | rfl | (simp only [inK]; omega) | exact decide_eq_true (by omega) | exact decide_eq_false (by omega) | (simp; done) | (simp; omega) | (simp [Value.oneCell']; done) | exact i64s_one _ | exact AggOk.mk (by kernel_rfl) (by kernel_rfl)) ?_
        exact At.retK [] [] [] rfl rfl Tryd.func57 rfl trivial ⟨rfl, rfl, rfl⟩
      · refine At.run 100 true [false, false, false, true, false, false, true, true] [hB 0, hB 0, hB 0, hB 0, hC (.bool (decide (e.was = e.is))), hB 0, hB 0, hB 0, hB 0, hB 0, hC (.bool true), hB 0, hB 0, hC (.bool (valuesB e.k.1 e.is))] rfl (by (repeat' apply And.intro) <;> first | exact hEq | exact hV1 | exact hV2 | (simp [ce]; done) | (simp [c2]; done) | (simp [c5]; done) | (simp [cb2]; done) | exact True.intro | omega | rfl | (simp only [inK]; omega) | exact decide_eq_true (by omega) | exact decide_eq_false (by omega) | (simp; done) | (simp; omega) | (simp [Value.oneCell']; done) | exact i64s_one _ | exact AggOk.mk (by kernel_rfl) (by kernel_rfl)) ?_
        exact At.retK [] [] [] rfl rfl Tryd.func57 rfl trivial ⟨rfl, rfl, rfl⟩

theorem RdW.chE {S : Base} {bx : Bx} {hp : List Seg} {g o i : Nat} {L : List ChE} {e : ChE} (hc : ∀ j u, (L.flatMap chC)[j]? = some u → S.w0.cell? ⟨g, o + j, none⟩ = some u) (hm : g ∉ S.mods) (hx : L[i]? = some e) {off : Nat} (ho : off = o + i * 5) :
    RdW S bx hp g off (chC e) := RdW.sl (b := g) (o := o) (xs := L.flatMap chC) hc hm (i * 5) ho fun j u hu => flat_get (f := chC) (sz := 5) (fun _ _ => rfl) hx j u hu

theorem Tryd.right_w (L : List ChE) (a : Option Addr) (ca : Nat) (w : World) (hl : L.length ≤ 1000000000) (ha : SlOk w a (L.flatMap chC)) (hL : ChL w L) (hW : Tryd.Wid w) :
    Fun Tryd.prog 26 [.slice a L.length ca] w (.bool (rightB (L.map chP))) := by
  refine Tri.enter (bx := []) (hp := []) Tryd.func26 rfl (by kernel_rfl) rfl (Own.nil w) ?_
  refine At.run 100 true [] [] rfl (by (repeat' apply And.intro) <;> first | exact True.intro | omega | (simp only [inK]; omega) | (simp; done) | (simp; omega) | exact decide_eq_true (by omega) | exact decide_eq_false (by omega) | rfl | (simp [Value.oneCell']; done) | exact i64s_one _ | exact AggOk.mk (by kernel_rfl) (by kernel_rfl)) ?_
  refine At.loop (n := L.length) (env0 := [(0, .slice a L.length ca), (5, .slice a L.length ca), (6, .int .i64 L.length), (7, .int .i64 0)]) (fun m env bx hp => ∃ i : Nat, m = L.length - i ∧ i ≤ L.length ∧ (∀ j e, j < i → L[j]? = some e → mayC (chP e) = true) ∧ (∀ j d e, j + 1 < i → L[j]? = some d → L[j + 1]? = some e → lt3 d.k e.k) ∧
    env = [(0, .slice a L.length ca), (5, .slice a L.length ca), (6, .int .i64 L.length), (7, .int .i64 i)] ∧ bx = [] ∧ hp = []) rfl ⟨0, by simp, by omega, fun j e h => by omega, fun j d e h => by omega, rfl, rfl, rfl⟩ ⟨rfl, rfl, rfl, rfl, trivial⟩ ?_
  rintro m env bx hp ⟨i, rfl, hi, hok, hris, rfl, rfl, rfl⟩ ih
  by_cases hlt : i < L.length
  · obtain ⟨x, hx⟩ : ∃ x, L[i]? = some x := ⟨_, List.getElem?_eq_getElem hlt⟩
    have hxP : (L.map chP)[i]? = some (chP x) := by rw [List.getElem?_map, hx]; rfl
    obtain ⟨g, o, rfl, hc⟩ := ha.get (chC_ne hx)
    have hm : ∀ k, k ∉ (⟨w, kys [] []⟩ : Base).mods := by simp [kys]
    have rX : ∀ {bx : Bx} {hp : List Seg}, RdW ⟨w, kys [] []⟩ bx hp g (o + (i : Int).toNat * 5) (chC x) := fun {_ _} => RdW.chE hc (hm _) hx (by simp)
    obtain ⟨x1, x2, x3, x4⟩ := hL x (List.mem_of_getElem? hx)
    have hM : ∀ {bx : Bx} {hp : List Seg}, CallOb Tryd.prog ⟨w, kys [] []⟩ bx hp 57 [.agg ⟨chC x⟩] (.bool (mayC (chP x))) := fun {_ _} w' hw' => Tryd.may14_w x w' (x1.ext hw'.ext (by simp [kys])) (x2.ext hw'.ext (by simp [kys])) x3 x4 (Tryd.Wid.ext hW hw'.ext (by simp [kys]))
    refine At.run 100 true [true] [hR (chC x)] rfl (by (repeat' apply And.intro) <;> first | exact rX | exact True.intro | omega | rfl | (simp only [inK]; omega) | exact decide_eq_true (by omega) | exact decide_eq_false (by omega) | (simp; done) | (simp; omega) | (simp [Value.oneCell']; done) | exact i64s_one _ | exact AggOk.mk (by kernel_rfl) (by kernel_rfl)) ?_
    refine At.step [] rfl rfl rfl rfl rfl trivial (OpOk.alloc (cs := [.int .i64 0, .int .i64 0, .int .i64 0, .slice none 0 0, .slice none 0 0]) rfl (by kernel_rfl) fun b4 hb4 => ?_)
    refine At.run 100 true [] [hB 0] rfl (by (repeat' apply And.intro) <;> first | exact chC_one _ | exact True.intro | omega | rfl | (simp only [inK]; omega) | exact decide_eq_true (by omega) | exact decide_eq_false (by omega) | (simp; done) | (simp; omega) | (simp [Value.oneCell']; done) | exact i64s_one _ | exact AggOk.mk (by kernel_rfl) (by kernel_rfl)) ?_
    cases hmay : mayC (chP x) with
    | false =>
      rw [hmay] at hM
      rw [rightB_false (RightP.no1 hxP hmay)]
      refine At.quiet true [true] [hB 0, hC (.bool false)] ⟨by kernel_rfl, by kernel_rfl, rfl, rfl, rfl⟩ rfl rfl rfl (by (repeat' apply And.intro) <;> first | exact hM | exact True.intro | omega | rfl | (simp only [inK]; omega) | exact decide_eq_true (by omega) | exact decide_eq_false (by omega) | (simp; done) | (simp; omega) | (simp [Value.oneCell']; done) | exact i64s_one _ | exact AggOk.mk (by kernel_rfl) (by kernel_rfl)) ?_
      refine At.run 100 true [true] [] rfl (by (repeat' apply And.intro) <;> first | exact True.intro | omega | (simp only [inK]; omega) | (simp; done) | (simp; omega) | exact decide_eq_true (by omega) | exact decide_eq_false (by omega) | rfl | (simp [Value.oneCell']; done) | exact i64s_one _ | exact AggOk.mk (by kernel_rfl) (by kernel_rfl)) ?_
      exact At.retK [] [] [] rfl rfl Tryd.func26 rfl trivial ⟨rfl, rfl, rfl⟩
    | true =>
    rw [hmay] at hM
    have hok' : ∀ j e, j < i + 1 → L[j]? = some e → mayC (chP e) = true := fun j e hj he => by
      by_cases e2 : j = i
      · subst e2; rw [hx] at he; cases he; exact hmay
      · exact hok j e (by omega) he
    by_cases h0 : i = 0
    · subst h0
      refine At.quiet true [false, false] [hB 0, hC (.bool true)] ⟨by kernel_rfl, by kernel_rfl, rfl, rfl, rfl⟩ rfl rfl rfl (by (repeat' apply And.intro) <;> first | exact hM | exact True.intro | omega | rfl | (simp only [inK]; omega) | exact decide_eq_true (by omega) | exact decide_eq_false (by omega) | (simp; done) | (simp; omega) | (simp [Value.oneCell']; done) | exact i64s_one _ | exact AggOk.mk (by kernel_rfl) (by kernel_rfl)) ?_
      refine At.run 100 true [false] [] rfl (by (repeat' apply And.intro) <;> first | exact True.intro | omega | (simp only [inK]; omega) | (simp; done) | (simp; omega) | exact decide_eq_true (by omega) | exact decide_eq_false (by omega) | rfl | (simp [Value.oneCell']; done) | exact i64s_one _ | exact AggOk.mk (by kernel_rfl) (by kernel_rfl)) ?_
      refine At.keep [] [] rfl ?_
      exact At.weak (ih _ _ _ _ (by omega) ⟨0 + 1, rfl, by omega, hok', fun j d e h => by omega, rfl, rfl, rfl⟩) ⟨rfl, rfl, rfl, some_int_eq (by omega), trivial⟩
    · obtain ⟨i, rfl⟩ : ∃ i', i = i' + 1 := ⟨i - 1, by omega⟩
      obtain ⟨y, hy⟩ : ∃ y, L[i]? = some y := ⟨_, List.getElem?_eq_getElem (by omega)⟩
      have hyP : (L.map chP)[i]? = some (chP y) := by rw [List.getElem?_map, hy]; rfl
      have hi1 : (((i + 1 : Nat) : Int) - 1).toNat = i := by omega
      have rY : ∀ {bx : Bx} {hp : List Seg}, RdW ⟨w, kys [] []⟩ bx hp g (o + (((i + 1 : Nat) : Int) - 1).toNat * 5) (chC y) := fun {_ _} => RdW.chE hc (hm _) hy (by rw [hi1])
      have hK1 : ∀ {bx : Bx} {hp : List Seg}, CallOb Tryd.prog ⟨w, kys [] []⟩ bx hp 27 [.agg ⟨chC y⟩] (key3 y.k) := fun {_ _} w' _ => Tryd.key_w y w'
      have hK2 : ∀ {bx : Bx} {hp : List Seg}, CallOb Tryd.prog ⟨w, kys [] []⟩ bx hp 27 [.agg ⟨chC x⟩] (key3 x.k) := fun {_ _} w' _ => Tryd.key_w x w'
      have hA : ∀ {bx : Bx} {hp : List Seg}, CallOb Tryd.prog ⟨w, kys [] []⟩ bx hp 24 [key3 y.k, key3 x.k] (.int .i64 (cf3 y.k x.k)) := fun {_ _} w' _ => Tryd.ahead_w y.k x.k w'
      refine At.quiet true [false, true] [hB 0, hC (.bool true), hR (chC y), hC (key3 y.k), hB 0, hC (key3 x.k), hC (.int .i64 (cf3 y.k x.k))] ⟨by kernel_rfl, by kernel_rfl, rfl, rfl, rfl⟩ rfl rfl rfl (by (repeat' apply And.intro) <;> first | exact hM | exact rY | exact hK1 | exact hK2 | exact hA | exact True.intro | omega | rfl | (simp only [inK]; omega) | exact decide_eq_true (by omega) | exact decide_eq_false (by omega) | (simp; done) | (simp; omega) | (simp [Value.oneCell']; done) | exact i64s_one _ | exact AggOk.mk (by kernel_rfl) (by kernel_rfl)) ?_
      by_cases hc3 : lt3 y.k x.k
      · have hcf := cf3_lt.2 hc3
        refine At.run 100 true [false] [] rfl (by (repeat' apply And.intro) <;> first | exact True.intro | omega | (simp only [inK]; omega) | (simp; done) | (simp; omega) | exact decide_eq_true (by omega) | exact decide_eq_false (by omega) | rfl | (simp [Value.oneCell']; done) | exact i64s_one _ | exact AggOk.mk (by kernel_rfl) (by kernel_rfl)) ?_
        refine At.keep [] [] rfl ?_
        exact At.weak (ih _ _ _ _ (by omega) ⟨i + 1 + 1, rfl, by omega, hok', fun j d e hj hd he => by
          by_cases e2 : j = i
          · subst e2; rw [hy] at hd; rw [hx] at he; cases hd; cases he; exact hc3
          · exact hris j d e (by omega) hd he, rfl, rfl, rfl⟩) ⟨rfl, rfl, rfl, some_int_eq (by omega), trivial⟩
      · have hcf : ¬ cf3 y.k x.k < 0 := fun h => hc3 (cf3_lt.1 h)
        rw [rightB_false (RightP.no2 hyP hxP hc3)]
        refine At.run 100 true [true] [] rfl (by (repeat' apply And.intro) <;> first | exact True.intro | omega | (simp only [inK]; omega) | (simp; done) | (simp; omega) | exact decide_eq_true (by omega) | exact decide_eq_false (by omega) | rfl | (simp [Value.oneCell']; done) | exact i64s_one _ | exact AggOk.mk (by kernel_rfl) (by kernel_rfl)) ?_
        exact At.retK [] [] [] rfl rfl Tryd.func26 rfl trivial ⟨rfl, rfl, rfl⟩
  · have hie : i = L.length := by omega
    subst hie
    rw [rightB_true (RightP.of (fun j e he => by
      rw [List.getElem?_map] at he
      obtain ⟨x, hx, rfl⟩ := Option.map_eq_some_iff.1 he
      exact hok j x (List.getElem?_eq_some_iff.1 hx).1 hx) (fun j d e hd he => by
      rw [List.getElem?_map] at hd he
      obtain ⟨x, hx, rfl⟩ := Option.map_eq_some_iff.1 hd
      obtain ⟨y, hy, rfl⟩ := Option.map_eq_some_iff.1 he
      exact hris j x y (List.getElem?_eq_some_iff.1 hy).1 hx hy))]
    refine At.run 100 true [false] [] rfl (by (repeat' apply And.intro) <;> first | exact True.intro | omega | (simp only [inK]; omega) | (simp; done) | (simp; omega) | exact decide_eq_true (by omega) | exact decide_eq_false (by omega) | rfl | (simp [Value.oneCell']; done) | exact i64s_one _ | exact AggOk.mk (by kernel_rfl) (by kernel_rfl)) ?_
    exact At.retK [] [] [] rfl rfl Tryd.func26 rfl trivial ⟨rfl, rfl, rfl⟩
end Go.Proofs

/-
  Walks of layer 14: changes turned; are changes alike?
-/
namespace Go.Proofs
open Go Go.Eng
set_option maxRecDepth 100000
set_option maxHeartbeats 4000000
attribute [local irreducible] Tri

theorem slNone {w : World} {xs : List Value} (h : SlOk w none xs) : xs = [] := by
  rcases h with h | ⟨b, o, e, -⟩
  · exact h
  · cases e
theorem i64s_nil {v : List Int} (h : i64s v = []) : v = [] := by simpa [i64s] using h
theorem Tryd.clone64_w (v : List Int) (a : Option Addr) (c : Nat) (w : World) (hl : v.length ≤ 1000000) (hs : SlOk w a (i64s v)) :
    Tri Tryd.prog 29 [.slice a v.length c] w [] (fun r bx hp => bx = [] ∧ ∃ (g : Option Nat) (c' : Nat), r = sv g v.length c' ∧ hp = [Seg.row g 2 1 v.length c' (i64s v)]) := by
  refine Tri.enter (bx := []) (hp := []) Tryd.func29 rfl (by kernel_rfl) rfl (Own.nil w) ?_
  cases a with
  | none =>
    obtain rfl := i64s_nil (slNone hs)
    refine At.run 100 true [true] [] rfl (by (repeat' apply And.intro) <;> first | exact True.intro | omega | (simp only [inK]; omega) | (simp; done) | (simp; omega) | exact decide_eq_true (by omega) | exact decide_eq_false (by omega) | rfl | (simp [Value.oneCell']; done) | exact i64s_one _ | exact AggOk.mk (by kernel_rfl) (by kernel_rfl)) ?_
    refine At.nilRow 2 1 ?_
    exact At.ret [] rfl Tryd.func29 rfl trivial ⟨rfl, none, 0, rfl, rfl⟩
  | some ad =>
    refine At.run 100 true [false] [] rfl (by (repeat' apply And.intro) <;> first | exact True.intro | omega | (simp only [inK]; omega) | (simp; done) | (simp; omega) | exact decide_eq_true (by omega) | exact decide_eq_false (by omega) | rfl | (simp [Value.oneCell']; done) | exact i64s_one _ | exact AggOk.mk (by kernel_rfl) (by kernel_rfl)) ?_
    refine At.step [] rfl rfl rfl rfl rfl trivial (OpOk.buildNil rfl rfl rfl fun g hg => ?_)
    refine At.run 100 true [] [] rfl (by (repeat' apply And.intro) <;> first | exact True.intro | omega | (simp only [inK]; omega) | (simp; done) | (simp; omega) | exact decide_eq_true (by omega) | exact decide_eq_false (by omega) | rfl | (simp [Value.oneCell']; done) | exact i64s_one _ | exact AggOk.mk (by kernel_rfl) (by kernel_rfl)) ?_
    refine At.step [] rfl rfl rfl rfl rfl trivial (OpOk.appendS 0 1 8 (i64s v) rfl rfl rfl rfl rfl rfl rfl rfl (fun w' hw' => hs.ext hw'.ext (by simp [kys])) (by rw [i64s_len]; omega) (i64s_one v) (by omega) (by omega) (fun a' c' => ?_))
    rw [Nat.zero_add, List.nil_append]
    refine At.run 100 true [] [] rfl (by (repeat' apply And.intro) <;> first | exact True.intro | omega | (simp only [inK]; omega) | (simp; done) | (simp; omega) | exact decide_eq_true (by omega) | exact decide_eq_false (by omega) | rfl | (simp [Value.oneCell']; done) | exact i64s_one _ | exact AggOk.mk (by kernel_rfl) (by kernel_rfl)) ?_
    refine At.keep [] [true] rfl ?_
    exact At.ret [] rfl Tryd.func29 rfl trivial ⟨rfl, a', c', rfl, rfl⟩

/-- Changes whose lists lie in segments. -/
def ChA (ex : List Seg) (M : List ChE) : Prop := ∀ w, (∀ s, s ∈ ex → s.ok w) → ChL w M
def ChS (L : List ChE) : Prop := ∀ e, e ∈ L → e.was.length ≤ 1000000 ∧ e.is.length ≤ 1000000
theorem Tryd.Turn_w (L : List ChE) (a : Option Addr) (ca : Nat) (w : World) (hl : L.length ≤ 1000000) (ha : SlOk w a (L.flatMap chC)) (hL : ChL w L) (hS : ChS L) :
    Tri Tryd.prog 10 [.slice a L.length ca] w [] (fun v bx hp => bx = [] ∧ ∃ (M : List ChE) (g : Option Nat) (c : Nat) (ex : List Seg), M.map chP = (L.map chP).map turnP ∧ ChA ex M ∧ v = sv g M.length c ∧ hp = [Seg.row g 67 5 M.length c (M.flatMap chC), Seg.pack [] ex]) := by
  refine Tri.enter (bx := []) (hp := []) Tryd.func10 rfl (by kernel_rfl) rfl (Own.nil w) ?_
  refine At.run 100 true [] [] rfl (by (repeat' apply And.intro) <;> first | exact True.intro | omega | (simp only [inK]; omega) | (simp; done) | (simp; omega) | exact decide_eq_true (by omega) | exact decide_eq_false (by omega) | rfl | (simp [Value.oneCell']; done) | exact i64s_one _ | exact AggOk.mk (by kernel_rfl) (by kernel_rfl)) ?_
  refine At.reshape (fun w' hw' => WOk.freeze0 hw') ?_
  refine At.nilRow 67 5 ?_
  refine At.loop (n := L.length) (env0 := [(0, .slice a L.length ca), (3, sv none 0 0), (6, .slice a L.length ca), (7, .int .i64 L.length), (8, .int .i64 0)]) (fun m env bx hp => ∃ (i : Nat) (M : List ChE) (g : Option Nat) (c : Nat) (ex : List Seg), m = L.length - i ∧ i ≤ L.length ∧ M.length = i ∧ M.map chP = ((L.take i).map chP).map turnP ∧ ChA ex M ∧
    env = [(0, .slice a L.length ca), (3, sv g M.length c), (6, .slice a L.length ca), (7, .int .i64 L.length), (8, .int .i64 i)] ∧ bx = [] ∧ hp = [Seg.row g 67 5 M.length c (M.flatMap chC), Seg.pack [] ex]) rfl
    ⟨0, [], none, 0, [], by simp, by omega, rfl, rfl, (fun w _ e he => by cases he), rfl, rfl, rfl⟩ ⟨rfl, rfl, rfl, rfl, rfl, trivial⟩ ?_
  rintro m env bx hp ⟨i, M, g0, c0, ex, rfl, hi, hMl, hM, hA, rfl, rfl, rfl⟩ ih
  by_cases hlt : i < L.length
  · obtain ⟨e, hx⟩ : ∃ e, L[i]? = some e := ⟨_, List.getElem?_eq_getElem hlt⟩
    obtain ⟨g, o, rfl, hc⟩ := ha.get (chC_ne hx)
    have hm : ∀ k, k ∉ (⟨w, kys [] []⟩ : Base).mods := by simp [kys]
    have rX : ∀ {bx : Bx} {hp : List Seg}, RdW ⟨w, kys [] []⟩ bx hp g (o + (i : Int).toNat * 5) (chC e) := fun {_ _} => RdW.chE hc (hm _) hx (by simp)
    obtain ⟨x1, x2, x3, x4⟩ := hL e (List.mem_of_getElem? hx)
    obtain ⟨y1, y2⟩ := hS e (List.mem_of_getElem? hx)
    have hnx : L.take (i + 1) = L.take i ++ [e] := by rw [List.take_add_one, hx]; rfl
    refine At.run 100 true [true] [hR (chC e)] rfl (by (repeat' apply And.intro) <;> first | exact rX | exact True.intro | omega | rfl | (simp only [inK]; omega) | exact decide_eq_true (by omega) | exact decide_eq_false (by omega) | (simp; done) | (simp; omega) | (simp [Value.oneCell']; done) | exact i64s_one _ | exact AggOk.mk (by kernel_rfl) (by kernel_rfl)) ?_
    refine At.step [] rfl rfl rfl rfl rfl trivial (OpOk.alloc (cs := [.int .i64 0, .int .i64 0, .int .i64 0, .slice none 0 0, .slice none 0 0]) rfl (by kernel_rfl) fun b5 hb5 => ?_)
    refine At.run 100 true [] [hB 0] rfl (by (repeat' apply And.intro) <;> first | exact chC_one _ | exact True.intro | omega | rfl | (simp only [inK]; omega) | exact decide_eq_true (by omega) | exact decide_eq_false (by omega) | (simp; done) | (simp; omega) | (simp [Value.oneCell']; done) | exact i64s_one _ | exact AggOk.mk (by kernel_rfl) (by kernel_rfl)) ?_
    refine At.draw 10 rfl rfl rfl rfl ?_
    refine AtD.pures (ob := True) true (by kernel_rfl) [0, 3] (fuel := 8) (by kernel_rfl) rfl (by (repeat' apply And.intro) <;> first | exact True.intro | omega | (simp only [inK]; omega) | (simp; done) | (simp; omega) | exact decide_eq_true (by omega) | exact decide_eq_false (by omega) | rfl | (simp [Value.oneCell']; done) | exact i64s_one _ | exact AggOk.mk (by kernel_rfl) (by kernel_rfl)) ?_
    refine AtD.cutS (ι := Option Nat × Nat) 5 #[true, true, true, true, true, false, false, false, false, false]
      (fun q => [(14, sv q.1 e.is.length q.2), (16, .slice e.wa e.was.length e.wc), (5, .pointer (some ⟨b5, 0, none⟩)), (0, .slice (some ⟨g, o, none⟩) L.length ca), (3, sv g0 M.length c0), (6, .slice (some ⟨g, o, none⟩) L.length ca), (7, .int .i64 L.length), (8, .int .i64 i)]) (fun _ => [(b5, 67, chC e)])
      (fun q => [Seg.row q.1 2 1 e.is.length q.2 (i64s e.is), Seg.row g0 67 5 M.length c0 (M.flatMap chC), Seg.pack [] ex]) ?_ (fun hd => ?_)
    · rintro ⟨g1, c1⟩
      dsimp only
      refine AtD.pures (ob := True) true (by kernel_rfl) [6] (fuel := 4) (by kernel_rfl) rfl (by (repeat' apply And.intro) <;> first | exact True.intro | omega | (simp only [inK]; omega) | (simp; done) | (simp; omega) | exact decide_eq_true (by omega) | exact decide_eq_false (by omega) | rfl | (simp [Value.oneCell']; done) | exact i64s_one _ | exact AggOk.mk (by kernel_rfl) (by kernel_rfl)) ?_
      refine AtD.fork1 5 (by kernel_rfl) (StepD.by [] rfl rfl rfl rfl trivial (OpOk.call rfl (fun w' hw' => Tryd.clone64_w e.was e.wa e.wc w' y1 (x1.ext hw'.ext (by simp [kys]))) ?_))
      rintro v bx' hp' ⟨rfl, g2, c2, rfl, rfl⟩
      refine AtD.fork1 7 (by kernel_rfl) (StepD.by0 [] rfl rfl rfl trivial (OpOk.one true [] [hB 0] rfl (by (repeat' apply And.intro) <;> first | exact True.intro | omega | (simp only [inK]; omega) | (simp; done) | (simp; omega) | exact decide_eq_true (by omega) | exact decide_eq_false (by omega) | rfl | (simp [Value.oneCell']; done) | exact i64s_one _ | exact AggOk.mk (by kernel_rfl) (by kernel_rfl)) ?_))
      refine AtD.pures (ob := True) true (by kernel_rfl) [8] (fuel := 1) (by kernel_rfl) rfl (by (repeat' apply And.intro) <;> first | exact True.intro | omega | (simp only [inK]; omega) | (simp; done) | (simp; omega) | exact decide_eq_true (by omega) | exact decide_eq_false (by omega) | rfl | (simp [Value.oneCell']; done) | exact i64s_one _ | exact AggOk.mk (by kernel_rfl) (by kernel_rfl)) ?_
      refine AtD.fork1 9 (by kernel_rfl) (StepD.by0 [] rfl rfl rfl trivial (OpOk.one true [] [hB 0] rfl (by (repeat' apply And.intro) <;> first | exact True.intro | omega | (simp only [inK]; omega) | (simp; done) | (simp; omega) | exact decide_eq_true (by omega) | exact decide_eq_false (by omega) | rfl | (simp [Value.oneCell']; done) | exact i64s_one _ | exact AggOk.mk (by kernel_rfl) (by kernel_rfl)) ?_))
      refine AtD.done (by kernel_rfl) ?_
      let e' : ChE := ⟨e.k, e.is, svA g1, c1, e.was, svA g2, c2⟩
      refine At.run 100 true [] [hB 0] rfl (by (repeat' apply And.intro) <;> first | exact True.intro | omega | (simp only [inK]; omega) | (simp; done) | (simp; omega) | exact decide_eq_true (by omega) | exact decide_eq_false (by omega) | rfl | (simp [Value.oneCell']; done) | exact i64s_one _ | exact AggOk.mk (by kernel_rfl) (by kernel_rfl)) ?_
      refine At.step [] rfl rfl rfl rfl rfl trivial (OpOk.buildSlice rfl rfl rfl rfl rfl rfl rfl (fun bs hbs => ?_))
      refine At.run 100 true [] [] rfl (by (repeat' apply And.intro) <;> first | exact True.intro | omega | (simp only [inK]; omega) | (simp; done) | (simp; omega) | exact decide_eq_true (by omega) | exact decide_eq_false (by omega) | rfl | (simp [Value.oneCell']; done) | exact i64s_one _ | exact AggOk.mk (by kernel_rfl) (by kernel_rfl)) ?_
      refine At.order (br := [(bs, 67, chC e'), (b5, 67, chC e')]) (hr := [Seg.row g0 67 5 M.length c0 (M.flatMap chC), Seg.row g2 2 1 e.was.length c2 (i64s e.was), Seg.row g1 2 1 e.is.length c1 (i64s e.is), Seg.pack [] ex]) [] [2] rfl rfl ?_
      refine At.step [] rfl rfl rfl rfl rfl trivial (OpOk.append 0 5 72 (chC e') rfl rfl rfl rfl rfl rfl rfl (RdW.blk0 (i := 0) rfl) rfl (chC_one _) (by omega) (by omega) fun g3 c3 => ?_)
      refine At.run 100 true [] [] rfl (by (repeat' apply And.intro) <;> first | exact True.intro | omega | (simp only [inK]; omega) | (simp; done) | (simp; omega) | exact decide_eq_true (by omega) | exact decide_eq_false (by omega) | rfl | (simp [Value.oneCell']; done) | exact i64s_one _ | exact AggOk.mk (by kernel_rfl) (by kernel_rfl)) ?_
      refine At.keep [] [true, true, true, true] rfl ?_
      refine At.order (br := []) (hr := [Seg.row g1 2 1 e.is.length c1 (i64s e.is), Seg.pack [] ex, Seg.row g3 67 5 (M.length + 1) c3 (M.flatMap chC ++ chC e'), Seg.row g2 2 1 e.was.length c2 (i64s e.was)]) [] [3, 3] rfl rfl ?_
      refine At.reshape (fun w' hw' => WOk.freeze hw') ?_
      refine At.order (br := []) (hr := [Seg.row g2 2 1 e.was.length c2 (i64s e.was), Seg.pack [] (Seg.row g1 2 1 e.is.length c1 (i64s e.is) :: ex), Seg.row g3 67 5 (M.length + 1) c3 (M.flatMap chC ++ chC e')]) [] [2] rfl rfl ?_
      refine At.reshape (fun w' hw' => WOk.freeze hw') ?_
      refine At.order (br := []) (hr := [Seg.row g3 67 5 (M.length + 1) c3 (M.flatMap chC ++ chC e'), Seg.pack [] (Seg.row g2 2 1 e.was.length c2 (i64s e.was) :: Seg.row g1 2 1 e.is.length c1 (i64s e.is) :: ex)]) [] [1] rfl rfl ?_
      have hA' : ChA (Seg.row g2 2 1 e.was.length c2 (i64s e.was) :: Seg.row g1 2 1 e.is.length c1 (i64s e.is) :: ex) (M ++ [e']) := by
        intro w' hs d hd
        rcases List.mem_append.1 hd with hd | hd
        · exact hA w' (fun s hsm => hs s (by simp [hsm])) d hd
        · rw [List.mem_singleton] at hd
          subst hd
          exact ⟨SlOk.row (hs (Seg.row g1 2 1 e.is.length c1 (i64s e.is)) (by simp)), SlOk.row (hs (Seg.row g2 2 1 e.was.length c2 (i64s e.was)) (by simp)), x4, x3⟩
      have hMl' : (M ++ [e']).length = i + 1 := by rw [List.length_append, hMl]; rfl
      have ih := ih _ _ _ _ (by omega) ⟨i + 1, M ++ [e'], g3, c3, _, rfl, by omega, hMl', by rw [hnx, List.map_append, List.map_append, List.map_append, hM]; rfl, hA', rfl, rfl, rfl⟩
      simp only [List.length_append, List.length_singleton, List.flatMap_append, List.flatMap_singleton] at ih
      exact At.weak ih ⟨rfl, rfl, rfl, rfl, some_int_eq (by omega), trivial⟩
    have hcl : ∀ {bx : Bx} {hp : List Seg} {w' : World}, WOk ⟨w, kys [] []⟩ bx hp w' → _ := fun {_ _ w'} hw' => Tryd.clone64_w e.is e.ia e.ic w' y2 (x2.ext hw'.ext (by simp [kys]))
    refine AtD.fork2 1 4 (by kernel_rfl) ?_ ?_
    · refine StepD.by [] rfl rfl rfl rfl trivial (OpOk.one true [] [hB 0] rfl (by (repeat' apply And.intro) <;> first | exact True.intro | omega | (simp only [inK]; omega) | (simp; done) | (simp; omega) | exact decide_eq_true (by omega) | exact decide_eq_false (by omega) | rfl | (simp [Value.oneCell']; done) | exact i64s_one _ | exact AggOk.mk (by kernel_rfl) (by kernel_rfl)) ?_)
      refine AtD.fork2 2 4 (by kernel_rfl) ?_ ?_
      · refine StepD.by [] rfl rfl rfl rfl trivial (OpOk.call rfl (fun w' hw' => hcl hw') ?_)
        rintro v bx' hp' ⟨rfl, g1, c1, rfl, rfl⟩
        refine AtD.fork1 4 (by kernel_rfl) (StepD.by [] rfl rfl rfl rfl trivial (OpOk.one true [] [hB 0] rfl (by (repeat' apply And.intro) <;> first | exact True.intro | omega | (simp only [inK]; omega) | (simp; done) | (simp; omega) | exact decide_eq_true (by omega) | exact decide_eq_false (by omega) | rfl | (simp [Value.oneCell']; done) | exact i64s_one _ | exact AggOk.mk (by kernel_rfl) (by kernel_rfl)) ?_))
        exact AtD.weak (hd ⟨g1, c1⟩) ⟨rfl, rfl, rfl, rfl, rfl, rfl, rfl, rfl, trivial⟩
      · refine StepD.by [] rfl rfl rfl rfl trivial (OpOk.one true [] [hB 0] rfl (by (repeat' apply And.intro) <;> first | exact True.intro | omega | (simp only [inK]; omega) | (simp; done) | (simp; omega) | exact decide_eq_true (by omega) | exact decide_eq_false (by omega) | rfl | (simp [Value.oneCell']; done) | exact i64s_one _ | exact AggOk.mk (by kernel_rfl) (by kernel_rfl)) ?_)
        refine AtD.fork1 2 (by kernel_rfl) (StepD.by [] rfl rfl rfl rfl trivial (OpOk.call rfl (fun w' hw' => hcl hw') ?_))
        rintro v bx' hp' ⟨rfl, g1, c1, rfl, rfl⟩
        exact AtD.weak (hd ⟨g1, c1⟩) ⟨rfl, rfl, rfl, rfl, rfl, rfl, rfl, rfl, trivial⟩
    · refine StepD.by [] rfl rfl rfl rfl trivial (OpOk.one true [] [hB 0] rfl (by (repeat' apply And.intro) <;> first | exact True.intro | omega | (simp only [inK]; omega) | (simp; done) | (simp; omega) | exact decide_eq_true (by omega) | exact decide_eq_false (by omega) | rfl | (simp [Value.oneCell']; done) | exact i64s_one _ | exact AggOk.mk (by kernel_rfl) (by kernel_rfl)) ?_)
      refine AtD.fork1 1 (by kernel_rfl) (StepD.by [] rfl rfl rfl rfl trivial (OpOk.one true [] [hB 0] rfl (by (repeat' apply And.intro) <;> first | exact True.intro | omega | (simp only [inK]; omega) | (simp; done) | (simp; omega) | exact decide_eq_true (by omega) | exact decide_eq_false (by omega) | rfl | (simp [Value.oneCell']; done) | exact i64s_one _ | exact AggOk.mk (by kernel_rfl) (by kernel_rfl)) ?_))
      refine AtD.fork1 2 (by kernel_rfl) (StepD.by [] rfl rfl rfl rfl trivial (OpOk.call rfl (fun w' hw' => hcl hw') ?_))
      rintro v bx' hp' ⟨rfl, g1, c1, rfl, rfl⟩
      exact AtD.weak (hd ⟨g1, c1⟩) ⟨rfl, rfl, rfl, rfl, rfl, rfl, rfl, rfl, trivial⟩
  · have hie : i = L.length := by omega
    subst hie
    rw [List.take_length] at hM
    refine At.run 100 true [false] [] rfl (by (repeat' apply And.intro) <;> first | exact True.intro | omega | (simp only [inK]; omega) | (simp; done) | (simp; omega) | exact decide_eq_true (by omega) | exact decide_eq_false (by omega) | rfl | (simp [Value.oneCell']; done) | exact i64s_one _ | exact AggOk.mk (by kernel_rfl) (by kernel_rfl)) ?_
    exact At.ret [] rfl Tryd.func10 rfl trivial ⟨rfl, M, g0, c0, ex, hM, hA, rfl, rfl⟩

theorem Tryd.same1_w (x y : ChE) (w : World) (x1 : SlOk w x.wa (i64s x.was)) (x2 : SlOk w x.ia (i64s x.is)) (x3 : x.was.length ≤ 1152921504606846976) (x4 : x.is.length ≤ 1152921504606846976) (y1 : SlOk w y.wa (i64s y.was)) (y2 : SlOk w y.ia (i64s y.is)) (y3 : y.was.length ≤ 1152921504606846976) (y4 : y.is.length ≤ 1152921504606846976) :
    Fun Tryd.prog 31 [.agg ⟨chC x⟩, .agg ⟨chC y⟩] w (.bool (decide (chP x = chP y))) := by
  refine Tri.enter (bx := []) (hp := []) Tryd.func31 rfl (by kernel_rfl) rfl (Own.nil w) ?_
  refine At.run 100 true [] [] rfl trivial ?_
  refine At.step [] rfl rfl rfl rfl rfl trivial (OpOk.box rfl rfl rfl fun bq hbq => ?_)
  refine At.step [] rfl rfl rfl rfl rfl trivial (OpOk.box rfl rfl rfl fun b3 hb3 => ?_)
  have hC1 : ∀ {bx : Bx} {hp : List Seg}, CallOb Tryd.prog ⟨w, kys [] []⟩ bx hp 32 [.int .i64 x.k.2.1, .int .i64 y.k.2.1] (.int .i64 (cmpI x.k.2.1 y.k.2.1)) := fun {_ _} w' _ => Tryd.compare_w _ _ w'
  have hC2 : ∀ {bx : Bx} {hp : List Seg}, CallOb Tryd.prog ⟨w, kys [] []⟩ bx hp 32 [.int .i64 x.k.2.2, .int .i64 y.k.2.2] (.int .i64 (cmpI x.k.2.2 y.k.2.2)) := fun {_ _} w' _ => Tryd.compare_w _ _ w'
  have hE1 : ∀ {bx : Bx} {hp : List Seg}, CallOb Tryd.prog ⟨w, kys [] []⟩ bx hp 25 [.slice x.wa x.was.length x.wc, .slice y.wa y.was.length y.wc] (.bool (decide (x.was = y.was))) := fun {_ _} w' hw' => Tryd.equal_w _ _ _ _ _ _ w' (by omega) (by omega) (x1.ext hw'.ext (by simp [kys])) (y1.ext hw'.ext (by simp [kys]))
  have hE2 : ∀ {bx : Bx} {hp : List Seg}, CallOb Tryd.prog ⟨w, kys [] []⟩ bx hp 25 [.slice x.ia x.is.length x.ic, .slice y.ia y.is.length y.ic] (.bool (decide (x.is = y.is))) := fun {_ _} w' hw' => Tryd.equal_w _ _ _ _ _ _ w' (by omega) (by omega) (x2.ext hw'.ext (by simp [kys])) (y2.ext hw'.ext (by simp [kys]))
  have q1 := @cmpI_eq x.k.2.1 y.k.2.1
  have q2 := @cmpI_eq x.k.2.2 y.k.2.2
  by_cases e0 : x.k.1 = y.k.1
  · by_cases e1 : x.k.2.1 = y.k.2.1
    · have q1 := q1.2 e1
      by_cases e2 : x.k.2.2 = y.k.2.2
      · have q2 := q2.2 e2
        by_cases e3 : x.was = y.was
        · have e : decide (chP x = chP y) = decide (x.is = y.is) := by
            rw [decide_eq_decide]
            constructor
            · intro h; exact congrArg (fun p => p.2.2) h
            · intro h; rw [chP, chP, e3, h, Prod.ext (x := x.k) (y := y.k) e0 (Prod.ext e1 e2)]
          rw [e]
          refine At.run 100 true [true, true, true, true] [hB 1, hB 0, hB 1, hB 0, hC (.int .i64 (cmpI x.k.2.1 y.k.2.1)), hB 1, hB 0, hC (.int .i64 (cmpI x.k.2.2 y.k.2.2)), hB 1, hB 0, hC (.bool (decide (x.was = y.was))), hB 1, hB 0, hC (.bool (decide (x.is = y.is)))] rfl (by (repeat' apply And.intro) <;> first | exact hC1 | exact hC2 | exact hE1 | exact hE2 | (simp [e0, q1, q2, e3]; done) | exact True.intro | omega | rfl | (simp only [inK]; omega) | exact decide_eq_true (by omega) | exact decide_eq_false (by omega) | (simp; done) | (simp; omega) | (simp [Value.oneCell']; done) | exact i64s_one _ | exact AggOk.mk (by kernel_rfl) (by kernel_rfl)) ?_
          exact At.retK [] [] [] rfl rfl Tryd.func31 rfl trivial ⟨rfl, rfl, rfl⟩
        · rw [decide_eq_false fun h : chP x = chP y => e3 (congrArg (fun p => p.2.1) h)]
          refine At.run 100 true [true, true, true, false] [hB 1, hB 0, hB 1, hB 0, hC (.int .i64 (cmpI x.k.2.1 y.k.2.1)), hB 1, hB 0, hC (.int .i64 (cmpI x.k.2.2 y.k.2.2)), hB 1, hB 0, hC (.bool (decide (x.was = y.was)))] rfl (by (repeat' apply And.intro) <;> first | exact hC1 | exact hC2 | exact hE1 | exact hE2 | (simp [e0, q1, q2, e3]; done) | exact True.intro | omega | rfl | (simp only [inK]; omega) | exact decide_eq_true (by omega) | exact decide_eq_false (by omega) | (simp; done) | (simp; omega) | (simp [Value.oneCell']; done) | exact i64s_one _ | exact AggOk.mk (by kernel_rfl) (by kernel_rfl)) ?_
          exact At.retK [] [] [] rfl rfl Tryd.func31 rfl trivial ⟨rfl, rfl, rfl⟩
      · have q2 := fun h => e2 (q2.1 h)
        rw [decide_eq_false fun h : chP x = chP y => e2 (congrArg (fun p => p.1.2.2) h)]
        refine At.run 100 true [true, true, false, false] [hB 1, hB 0, hB 1, hB 0, hC (.int .i64 (cmpI x.k.2.1 y.k.2.1)), hB 1, hB 0, hC (.int .i64 (cmpI x.k.2.2 y.k.2.2))] rfl (by (repeat' apply And.intro) <;> first | exact hC1 | exact hC2 | (simp [e0, q1, q2]; done) | exact True.intro | omega | rfl | (simp only [inK]; omega) | exact decide_eq_true (by omega) | exact decide_eq_false (by omega) | (simp; done) | (simp; omega) | (simp [Value.oneCell']; done) | exact i64s_one _ | exact AggOk.mk (by kernel_rfl) (by kernel_rfl)) ?_
        exact At.retK [] [] [] rfl rfl Tryd.func31 rfl trivial ⟨rfl, rfl, rfl⟩
    · have q1 := fun h => e1 (q1.1 h)
      rw [decide_eq_false fun h : chP x = chP y => e1 (congrArg (fun p => p.1.2.1) h)]
      refine At.run 100 true [true, false, false, false] [hB 1, hB 0, hB 1, hB 0, hC (.int .i64 (cmpI x.k.2.1 y.k.2.1))] rfl (by (repeat' apply And.intro) <;> first | exact hC1 | (simp [e0, q1]; done) | exact True.intro | omega | rfl | (simp only [inK]; omega) | exact decide_eq_true (by omega) | exact decide_eq_false (by omega) | (simp; done) | (simp; omega) | (simp [Value.oneCell']; done) | exact i64s_one _ | exact AggOk.mk (by kernel_rfl) (by kernel_rfl)) ?_
      exact At.retK [] [] [] rfl rfl Tryd.func31 rfl trivial ⟨rfl, rfl, rfl⟩
  · rw [decide_eq_false fun h : chP x = chP y => e0 (congrArg (fun p => p.1.1) h)]
    refine At.run 100 true [false, false, false, false] [hB 1, hB 0] rfl (by (repeat' apply And.intro) <;> first | (simp [e0]; done) | exact True.intro | omega | rfl | (simp only [inK]; omega) | exact decide_eq_true (by omega) | exact decide_eq_false (by omega) | (simp; done) | (simp; omega) | (simp [Value.oneCell']; done) | exact i64s_one _ | exact AggOk.mk (by kernel_rfl) (by kernel_rfl)) ?_
    exact At.retK [] [] [] rfl rfl Tryd.func31 rfl trivial ⟨rfl, rfl, rfl⟩

theorem Tryd.equalF_w (L M : List ChE) (a b : Option Addr) (ca cb : Nat) (w : World) (hl : L.length ≤ 1000000000) (hm : M.length ≤ 1000000000) (ha : SlOk w a (L.flatMap chC)) (hb : SlOk w b (M.flatMap chC)) (hva : ChL w L) (hvb : ChL w M) :
    Fun Tryd.prog 30 [.slice a L.length ca, .slice b M.length cb, .func (.func 31) ⟨[]⟩ ⟨[]⟩] w (.bool (decide (L.map chP = M.map chP))) := by
  refine Tri.enter (bx := []) (hp := []) Tryd.func30 rfl (by kernel_rfl) rfl (Own.nil w) ?_
  by_cases hlen : L.length = M.length
  · refine At.run 100 true [false] [] rfl (by (repeat' apply And.intro) <;> first | (simp [hlen]; done) | exact True.intro | omega | rfl | (simp only [inK]; omega) | exact decide_eq_true (by omega) | exact decide_eq_false (by omega) | (simp; done) | (simp; omega) | (simp [Value.oneCell']; done) | exact i64s_one _ | exact AggOk.mk (by kernel_rfl) (by kernel_rfl)) ?_
    refine At.loop (n := L.length) (env0 := [(0, .slice a L.length ca), (1, .slice b M.length cb), (2, .func (.func 31) ⟨[]⟩ ⟨[]⟩), (15, .slice a L.length ca), (16, .int .i64 L.length), (17, .int .i64 0)]) (fun m env bx hp => ∃ i : Nat, m = L.length - i ∧ i ≤ L.length ∧ (L.map chP).take i = (M.map chP).take i ∧
      env = [(0, .slice a L.length ca), (1, .slice b M.length cb), (2, .func (.func 31) ⟨[]⟩ ⟨[]⟩), (15, .slice a L.length ca), (16, .int .i64 L.length), (17, .int .i64 i)] ∧ bx = [] ∧ hp = []) rfl ⟨0, by simp, by omega, by simp, rfl, rfl, rfl⟩ ⟨rfl, rfl, rfl, rfl, rfl, rfl, trivial⟩ ?_
    rintro m env bx hp ⟨i, rfl, hi, htk, rfl, rfl, rfl⟩ ih
    by_cases hlt : i < L.length
    · obtain ⟨x, hx⟩ : ∃ x, L[i]? = some x := ⟨_, List.getElem?_eq_getElem hlt⟩
      obtain ⟨y, hy⟩ : ∃ y, M[i]? = some y := ⟨_, List.getElem?_eq_getElem (by omega)⟩
      obtain ⟨g, o, rfl, hc⟩ := ha.get (chC_ne hx)
      obtain ⟨g2, o2, rfl, hc2⟩ := hb.get (chC_ne hy)
      have hmm : ∀ k, k ∉ (⟨w, kys [] []⟩ : Base).mods := by simp [kys]
      have rX : ∀ {bx : Bx} {hp : List Seg}, RdW ⟨w, kys [] []⟩ bx hp g (o + (i : Int).toNat * 5) (chC x) := fun {_ _} => RdW.chE hc (hmm _) hx (by simp)
      have rY : ∀ {bx : Bx} {hp : List Seg}, RdW ⟨w, kys [] []⟩ bx hp g2 (o2 + (i : Int).toNat * 5) (chC y) := fun {_ _} => RdW.chE hc2 (hmm _) hy (by simp)
      obtain ⟨x1, x2, x3, x4⟩ := hva x (List.mem_of_getElem? hx)
      obtain ⟨y1, y2, y3, y4⟩ := hvb y (List.mem_of_getElem? hy)
      have hcb : ∀ {bx : Bx} {hp : List Seg}, CallOb Tryd.prog ⟨w, kys [] []⟩ bx hp 31 (allArgs [] [.agg ⟨chC x⟩, .agg ⟨chC y⟩] []) (.bool (decide (chP x = chP y))) := fun {_ _} w' hw' => by
        rw [allArgs_eq]
        exact Tryd.same1_w x y w' (x1.ext hw'.ext (by simp [kys])) (x2.ext hw'.ext (by simp [kys])) x3 x4 (y1.ext hw'.ext (by simp [kys])) (y2.ext hw'.ext (by simp [kys])) y3 y4
      refine At.run 100 true [true] [hR (chC x)] rfl (by (repeat' apply And.intro) <;> first | exact rX | exact True.intro | omega | rfl | (simp only [inK]; omega) | exact decide_eq_true (by omega) | exact decide_eq_false (by omega) | (simp; done) | (simp; omega) | (simp [Value.oneCell']; done) | exact i64s_one _ | exact AggOk.mk (by kernel_rfl) (by kernel_rfl)) ?_
      refine At.step [] rfl rfl rfl rfl rfl trivial (OpOk.alloc (cs := [.int .i64 0, .int .i64 0, .int .i64 0, .slice none 0 0, .slice none 0 0]) rfl (by kernel_rfl) fun b8 hb8 => ?_)
      refine At.run 100 true [] [hB 0, hR (chC y)] rfl (by (repeat' apply And.intro) <;> first | exact rY | exact chC_one _ | exact True.intro | omega | rfl | (simp only [inK]; omega) | exact decide_eq_true (by omega) | exact decide_eq_false (by omega) | (simp; done) | (simp; omega) | (simp [Value.oneCell']; done) | exact i64s_one _ | exact AggOk.mk (by kernel_rfl) (by kernel_rfl)) ?_
      refine At.step [] rfl rfl rfl rfl rfl trivial (OpOk.alloc (cs := [.int .i64 0, .int .i64 0, .int .i64 0, .slice none 0 0, .slice none 0 0]) rfl (by kernel_rfl) fun b9 hb9 => ?_)
      by_cases hxy : chP x = chP y
      · refine At.run 100 true [false] [hB 0, hB 1, hB 0, hC (.bool (decide (chP x = chP y)))] rfl (by (repeat' apply And.intro) <;> first | exact hcb | exact chC_one _ | (simp [hxy]; done) | exact True.intro | omega | rfl | (simp only [inK]; omega) | exact decide_eq_true (by omega) | exact decide_eq_false (by omega) | (simp; done) | (simp; omega) | (simp [Value.oneCell']; done) | exact i64s_one _ | exact AggOk.mk (by kernel_rfl) (by kernel_rfl)) ?_
        refine At.keep [] [] rfl ?_
        exact At.weak (ih _ _ _ _ (by omega) ⟨i + 1, rfl, by omega, by rw [List.take_add_one, List.take_add_one, List.getElem?_map, List.getElem?_map, hx, hy, htk, Option.map_some, Option.map_some, hxy], rfl, rfl, rfl⟩) ⟨rfl, rfl, rfl, rfl, rfl, some_int_eq (by omega), trivial⟩
      · have hne : L.map chP ≠ M.map chP := by
          intro e
          have e' := congrArg (fun l => l[i]?) e
          simp only [List.getElem?_map, hx, hy, Option.map_some, Option.some.injEq] at e'
          exact hxy e'
        rw [decide_eq_false hne]
        refine At.run 100 true [true] [hB 0, hB 1, hB 0, hC (.bool (decide (chP x = chP y)))] rfl (by (repeat' apply And.intro) <;> first | exact hcb | exact chC_one _ | (simp [hxy]; done) | exact True.intro | omega | rfl | (simp only [inK]; omega) | exact decide_eq_true (by omega) | exact decide_eq_false (by omega) | (simp; done) | (simp; omega) | (simp [Value.oneCell']; done) | exact i64s_one _ | exact AggOk.mk (by kernel_rfl) (by kernel_rfl)) ?_
        exact At.retK [] [] [] rfl rfl Tryd.func30 rfl trivial ⟨rfl, rfl, rfl⟩
    · have he : L.map chP = M.map chP := by
        rw [List.take_of_length_le (by simp; omega), List.take_of_length_le (by simp; omega)] at htk; exact htk
      rw [decide_eq_true he]
      refine At.run 100 true [false] [] rfl (by (repeat' apply And.intro) <;> first | exact True.intro | omega | (simp only [inK]; omega) | (simp; done) | (simp; omega) | exact decide_eq_true (by omega) | exact decide_eq_false (by omega) | rfl | (simp [Value.oneCell']; done) | exact i64s_one _ | exact AggOk.mk (by kernel_rfl) (by kernel_rfl)) ?_
      exact At.retK [] [] [] rfl rfl Tryd.func30 rfl trivial ⟨rfl, rfl, rfl⟩
  · have hne : L.map chP ≠ M.map chP := fun e => hlen (by simpa using congrArg List.length e)
    rw [decide_eq_false hne]
    refine At.run 100 true [true] [] rfl (by (repeat' apply And.intro) <;> first | (simp; omega) | exact True.intro | omega | rfl | (simp only [inK]; omega) | exact decide_eq_true (by omega) | exact decide_eq_false (by omega) | (simp; done) | (simp; omega) | (simp [Value.oneCell']; done) | exact i64s_one _ | exact AggOk.mk (by kernel_rfl) (by kernel_rfl)) ?_
    exact At.retK [] [] [] rfl rfl Tryd.func30 rfl trivial ⟨rfl, rfl, rfl⟩

theorem Tryd.same14_w (L M : List ChE) (a b : Option Addr) (ca cb : Nat) (w : World) (hl : L.length ≤ 1000000000) (hm : M.length ≤ 1000000000) (ha : SlOk w a (L.flatMap chC)) (hb : SlOk w b (M.flatMap chC)) (hva : ChL w L) (hvb : ChL w M) :
    Fun Tryd.prog 12 [.slice a L.length ca, .slice b M.length cb] w (.bool (decide (L.map chP = M.map chP))) := by
  refine Tri.enter (bx := []) (hp := []) Tryd.func12 rfl (by kernel_rfl) rfl (Own.nil w) ?_
  have hE : ∀ {bx : Bx} {hp : List Seg}, CallOb Tryd.prog ⟨w, kys [] []⟩ bx hp 30 [.slice a L.length ca, .slice b M.length cb, .func (.func 31) ⟨[]⟩ ⟨[]⟩] (.bool (decide (L.map chP = M.map chP))) := fun {_ _} w' hw' =>
    Tryd.equalF_w L M a b ca cb w' hl hm (ha.ext hw'.ext (by simp [kys])) (hb.ext hw'.ext (by simp [kys])) (hva.ext hw'.ext (by simp [kys])) (hvb.ext hw'.ext (by simp [kys]))
  refine At.run 100 true [] [hC (.bool (decide (L.map chP = M.map chP)))] rfl (by (repeat' apply And.intro) <;> first | exact hE | exact True.intro | omega | rfl | (simp only [inK]; omega) | exact decide_eq_true (by omega) | exact decide_eq_false (by omega) | (simp; done) | (simp; omega) | (simp [Value.oneCell']; done) | exact i64s_one _ | exact AggOk.mk (by kernel_rfl) (by kernel_rfl)) ?_
  exact At.retK [] [] [] rfl rfl Tryd.func12 rfl trivial ⟨rfl, rfl, rfl⟩
end Go.Proofs

/-
  What layer 14's document answers when a change is set.
-/
namespace Go.Proofs
open Go Go.Eng
set_option maxRecDepth 100000
set_option maxHeartbeats 4000000
attribute [local irreducible] Tri

theorem kys_freeze1 (bx : Bx) (s : Seg) (hp : List Seg) : kys bx (Seg.pack [] [s] :: hp) = kys bx (s :: hp) := by simp [kys, Seg.pack]
theorem WOk.freeze1 {S : Base} {bx : Bx} {s : Seg} {hp : List Seg} {w : World} (h : WOk S bx (s :: hp) w) : WOk S bx (Seg.pack [] [s] :: hp) w := by
  refine ⟨h.ext, by rw [kys_freeze1]; exact h.nd, by rw [kys_freeze1]; exact h.lt, by rw [kys_freeze1]; exact h.own, h.bx, fun t ht => ?_⟩
  rcases List.mem_cons.1 ht with rfl | ht
  · refine ⟨by simp, fun t ht => ?_⟩
    rcases List.mem_cons.1 ht with rfl | ht
    · exact h.hp _ (by simp)
    · cases ht
  · exact h.hp t (by simp [ht])

/-- A book whose lists lie in rows that nothing turns, or where another one's lie. -/
def BkTo (ex : List Seg) (b : Bk) (A : BkA) (nb : Bk) (A' : BkA) : Prop := ∀ w', (∀ s, s ∈ ex → s.ok w') → BkOk w' b A → BkOk w' nb A'
def Tryd.SetQ (b : Bk) (A : BkA) (nb : Bk) (v : Value) (bx : Bx) (hp : List Seg) : Prop := bx = [] ∧ ∃ (A' : BkA) (ex : List Seg), v = .agg ⟨bkV nb A'⟩ ∧ hp = [Seg.pack [] ex] ∧ BkTo ex b A nb A'
theorem outK_recs {sz : Nat} {l : List (List Int)} {K : Int} (h : Recs sz l) : Recs sz (outK K l) := fun x hx => h x (List.mem_filter.1 hx).1
theorem outK_len {l : List (List Int)} {K : Int} : (outK K l).length ≤ l.length := List.length_filter_le ..
theorem outK_drop {l : List (List Int)} {K : Int} {i : Nat} {z : List Int} (h : l[i]? = some z) : outK K (l.drop i) = (if k0 z = K then [] else [z]) ++ outK K (l.drop (i + 1)) := by
  rw [drop_at h]
  unfold outK
  by_cases e : k0 z = K
  · rw [if_pos e, List.filter_cons_of_neg (by simp [e])]; rfl
  · rw [if_neg e, List.filter_cons_of_pos (by simp [e])]; rfl
theorem rowZ {S : Base} {bx : Bx} {hp : List Seg} {j g : Nat} {t : TypeId} (k : Nat) (hk : k < 5) (h : nth hp j = some (Seg.row (some g) t 1 5 5 (i64s zer5))) {off : Nat} (ho : off = k) : RdW S bx hp g off [.int .i64 0] := RdW.row h (fun i u hu => by
  rw [ho]
  have hi : i = 0 := by
    have := (List.getElem?_eq_some_iff.1 hu).1
    simp at this; omega
  subst hi
  have hu : some (Value.int .i64 0) = some u := hu
  rw [← hu]
  have : k = 0 ∨ k = 1 ∨ k = 2 ∨ k = 3 ∨ k = 4 := by omega
  rcases this with rfl | rfl | rfl | rfl | rfl <;> rfl)
theorem zer_at (j : Nat) (hj : j < 5 * 1) : (i64s zer5)[j]? = ([Value.int .i64 0])[j % 1]? := by
  have : j = 0 ∨ j = 1 ∨ j = 2 ∨ j = 3 ∨ j = 4 := by omega
  rcases this with rfl | rfl | rfl | rfl | rfl <;> rfl
end Go.Proofs

/-
  Walks of layer 14's document: a change of list 1 set.
-/
namespace Go.Proofs
open Go Go.Eng
set_option maxRecDepth 100000
set_option maxHeartbeats 4000000
attribute [local irreducible] Tri

theorem Tryd.set1n_w (b : Bk) (A : BkA) (K B : Int) (was : List Int) (wa : Option Addr) (wc : Nat) (v0 v1 v2 : Int) (ia : Option Addr) (ic : Nat) (w : World) (hi : BkIn b) (ho : BkOk w b A) (hia : SlOk w ia (i64s [v0, v1, v2])) :
    Tri Tryd.prog 38 [.agg ⟨bkV b A⟩, .agg ⟨chC ⟨(1, K, B), was, wa, wc, [v0, v1, v2], ia, ic⟩⟩] w [] (Tryd.SetQ b A { b with H := insK [K, v0, v1, v2] false (outK K b.H) }) := by
  obtain ⟨a1, a2, a3, a4, c1, c2, c3, c4⟩ := A
  refine Tri.enter (bx := []) (hp := []) Tryd.func38 rfl (by kernel_rfl) rfl (Own.nil w) ?_
  have hm0 : ∀ k, k ∉ (⟨w, kys [] []⟩ : Base).mods := by simp [kys]
  refine At.run 100 true [] [] rfl trivial ?_
  refine At.step [] rfl rfl rfl rfl rfl trivial (OpOk.box rfl rfl rfl fun bq hbq => ?_)
  refine At.step [] rfl rfl rfl rfl rfl trivial (OpOk.box rfl rfl rfl fun b3 hb3 => ?_)
  refine At.step [] rfl rfl rfl rfl rfl trivial (OpOk.alloc (cs := [.slice none 0 0, .slice none 0 0, .slice none 0 0, .slice none 0 0, .int .i64 0]) rfl (by kernel_rfl) fun b4 hb4 => ?_)
  have hal : SlOk w a1 (b.H.flatMap i64s) := ho.h1
  have l1 := hi.l1
  obtain ⟨gv, ov, rfl, hv⟩ := hia.get (by simp [i64s])
  have rv0 : ∀ {bx : Bx} {hp : List Seg}, RdW ⟨w, kys [] []⟩ bx hp gv (ov + (0 : Int).toNat * 1) [.int .i64 v0] := fun {_ _} => RdW.i64At hv (hm0 _) (j := 0) rfl (by simp)
  have rv1 : ∀ {bx : Bx} {hp : List Seg}, RdW ⟨w, kys [] []⟩ bx hp gv (ov + (1 : Int).toNat * 1) [.int .i64 v1] := fun {_ _} => RdW.i64At hv (hm0 _) (j := 1) rfl (by simp)
  have rv2 : ∀ {bx : Bx} {hp : List Seg}, RdW ⟨w, kys [] []⟩ bx hp gv (ov + (2 : Int).toNat * 1) [.int .i64 v2] := fun {_ _} => RdW.i64At hv (hm0 _) (j := 2) rfl (by simp)
  refine At.run 100 true [false, true] [hB 1, hB 1] rfl (by (repeat' apply And.intro) <;> first | (simp; done) | exact True.intro | omega | rfl | (simp only [inK]; omega) | exact decide_eq_true (by omega) | exact decide_eq_false (by omega) | (simp; done) | (simp; omega) | (simp [Value.oneCell']; done) | exact i64s_one _ | exact AggOk.mk (by kernel_rfl) (by kernel_rfl)) ?_
  refine At.nilRow 52 4 ?_
  refine At.loop (n := b.H.length) (env0 := [(2, .pointer (some ⟨bq, 0, none⟩)), (3, .pointer (some ⟨b3, 0, none⟩)), (4, .pointer (some ⟨b4, 0, none⟩)), (5, .slice (some ⟨gv, ov, none⟩) 3 ic), (6, sv none ([] : List (List Int)).length 0), (7, .int .i64 0)]) (fun m env bx hp => ∃ (i : Nat) (out : List (List Int)) (g : Option Nat) (c : Nat), m = b.H.length - i ∧ i ≤ b.H.length ∧ out.length ≤ i ∧ outK K b.H = out ++ outK K (b.H.drop i) ∧
    env = [(2, .pointer (some ⟨bq, 0, none⟩)), (3, .pointer (some ⟨b3, 0, none⟩)), (4, .pointer (some ⟨b4, 0, none⟩)), (5, .slice (some ⟨gv, ov, none⟩) 3 ic), (6, sv g out.length c), (7, .int .i64 i)] ∧ bx = [(b4, 27, [.slice none 0 0, .slice none 0 0, .slice none 0 0, .slice none 0 0, .int .i64 0]), (b3, 46, chC ⟨(1, K, B), was, wa, wc, [v0, v1, v2], some ⟨gv, ov, none⟩, ic⟩), (bq, 27, bkV b ⟨a1, a2, a3, a4, c1, c2, c3, c4⟩)] ∧ hp = [Seg.row g 52 4 out.length c (out.flatMap i64s)]) rfl ⟨0, [], none, 0, by simp, by omega, by simp, rfl, rfl, rfl, rfl⟩ ⟨rfl, rfl, rfl, rfl, rfl, rfl, trivial⟩ ?_
  rintro m env bx hp ⟨i, out, g, c, rfl, hi2, hol, hpre, rfl, rfl, rfl⟩ ih
  by_cases hlt : i < b.H.length
  · obtain ⟨z, hz⟩ : ∃ z, b.H[i]? = some z := ⟨_, List.getElem?_eq_getElem hlt⟩
    obtain ⟨hzl, hzi⟩ := hi.r1 z (List.mem_of_getElem? hz)
    have hne := slNe (sz := 4) (by omega) (fun x hx => (hi.r1 x hx).1) hz
    obtain ⟨gg, o, rfl, hc⟩ := hal.get hne
    obtain ⟨z0, z1, z2, z3, rfl⟩ := len4 hzl
    have rE : ∀ {bx : Bx} {hp : List Seg}, RdW ⟨w, kys [] []⟩ bx hp gg (o + (i : Int).toNat * 4) (i64s [z0, z1, z2, z3]) := fun {_ _} => RdW.sl hc (hm0 _) (i * 4) (by omega) (fun j u hu => flat_rec (fun x hx => (hi.r1 x hx).1) hz j u hu)
    rw [outK_drop hz] at hpre
    refine At.run 100 true [true] [hB 2] rfl (by (repeat' apply And.intro) <;> first | exact True.intro | omega | (simp only [inK]; omega) | (simp; done) | (simp; omega) | exact decide_eq_true (by omega) | exact decide_eq_false (by omega) | rfl | (simp [Value.oneCell']; done) | exact i64s_one _ | exact AggOk.mk (by kernel_rfl) (by kernel_rfl)) ?_
    refine At.quiet true [] [hB 2, hR [.int .i64 z0], hB 1] ⟨by kernel_rfl, by kernel_rfl, rfl, rfl, rfl⟩ rfl rfl rfl (by (repeat' apply And.intro) <;> first | exact RdW.at rE 0 rfl | exact True.intro | omega | rfl | (simp only [inK]; omega) | exact decide_eq_true (by omega) | exact decide_eq_false (by omega) | (simp; done) | (simp; omega) | (simp [Value.oneCell']; done) | exact i64s_one _ | exact AggOk.mk (by kernel_rfl) (by kernel_rfl)) ?_
    by_cases he : z0 = K
    · rw [if_pos (by exact he), List.nil_append] at hpre
      refine At.run 100 true [false] [] rfl (by (repeat' apply And.intro) <;> first | (simp [he]; done) | exact True.intro | omega | rfl | (simp only [inK]; omega) | exact decide_eq_true (by omega) | exact decide_eq_false (by omega) | (simp; done) | (simp; omega) | (simp [Value.oneCell']; done) | exact i64s_one _ | exact AggOk.mk (by kernel_rfl) (by kernel_rfl)) ?_
      exact At.weak (ih _ _ _ _ (by omega) ⟨i + 1, out, g, c, rfl, by omega, by omega, hpre, rfl, rfl, rfl⟩) ⟨rfl, rfl, rfl, rfl, rfl, some_int_eq (by omega), trivial⟩
    · rw [if_neg (by exact he)] at hpre
      refine At.run 100 true [true] [hB 2, hR (i64s [z0, z1, z2, z3])] rfl (by (repeat' apply And.intro) <;> first | exact rE | (simp [he]; done) | exact True.intro | omega | rfl | (simp only [inK]; omega) | exact decide_eq_true (by omega) | exact decide_eq_false (by omega) | (simp; done) | (simp; omega) | (simp [Value.oneCell']; done) | exact i64s_one _ | exact AggOk.mk (by kernel_rfl) (by kernel_rfl)) ?_
      refine At.append1 0 4 32 rfl rfl rfl rfl rfl rfl rfl rfl rfl trivial (fun _ => rfl) trivial rfl rfl rfl rfl rfl rfl rfl rfl (fun _ => rfl) (i64s_one [z0, z1, z2, z3]) (by omega) (by omega) (fun bz g2 cc2 => ?_)
      refine At.run 100 true [] [] rfl (by (repeat' apply And.intro) <;> first | exact True.intro | omega | (simp only [inK]; omega) | (simp; done) | (simp; omega) | exact decide_eq_true (by omega) | exact decide_eq_false (by omega) | rfl | (simp [Value.oneCell']; done) | exact i64s_one _ | exact AggOk.mk (by kernel_rfl) (by kernel_rfl)) ?_
      have ih := ih _ _ _ _ (by omega) ⟨i + 1, out ++ [[z0, z1, z2, z3]], g2, cc2, rfl, by omega, by simp; omega, by rw [hpre]; simp, rfl, rfl, rfl⟩
      simp only [List.length_append, List.length_singleton, List.flatMap_append, List.flatMap_singleton] at ih
      exact At.weak ih ⟨rfl, rfl, rfl, rfl, rfl, some_int_eq (by omega), trivial⟩
  · rw [List.drop_of_length_le (by omega)] at hpre
    clear ih
    have hpre : outK K b.H = out := hpre.trans (List.append_nil _)
    rw [hpre]
    have hol2 : out.length ≤ 1048576 := by omega
    have hib : BkIn { b with H := out } := ⟨(by rw [← hpre]; exact outK_recs hi.r1), hi.r2, hi.r3, hi.r4, hol2, hi.l2, hi.l3, hi.l4, hi.cc⟩
    refine At.run 100 true [false, true] [hB 2, hB 2, hB 1] rfl (by (repeat' apply And.intro) <;> first | (simp; done) | exact True.intro | omega | rfl | (simp only [inK]; omega) | exact decide_eq_true (by omega) | exact decide_eq_false (by omega) | (simp; done) | (simp; omega) | (simp [Value.oneCell']; done) | exact i64s_one _ | exact AggOk.mk (by kernel_rfl) (by kernel_rfl)) ?_
    refine At.draw 15 rfl rfl rfl rfl ?_
    refine AtD.lex 0 13 2 true [] [hB 2, hB 1, hR [.int .i64 v0], hR [.int .i64 v1], hR [.int .i64 v2]] ⟨by kernel_rfl, by kernel_rfl, by kernel_rfl, rfl, by kernel_rfl, by kernel_rfl⟩ rfl rfl rfl (by (repeat' apply And.intro) <;> first | exact rv0 | exact rv1 | exact rv2 | exact True.intro | omega | rfl | (simp only [inK]; omega) | exact decide_eq_true (by omega) | exact decide_eq_false (by omega) | (simp; done) | (simp; omega) | (simp [Value.oneCell']; done) | exact i64s_one _ | exact AggOk.mk (by kernel_rfl) (by kernel_rfl)) (fun h => by cases h) ?_
    refine AtD.fork1 13 (by kernel_rfl) (StepD.by [] rfl rfl rfl rfl trivial (OpOk.call rfl (fun w' hw' => Tryd.SetHolder_w { b with H := out } ⟨svA g, a2, a3, a4, c, c2, c3, c4⟩ [K, v0, v1, v2] w' hib rfl ⟨SlOk.row (hw'.hp (Seg.row g 52 4 out.length c (out.flatMap i64s)) (by simp)), (ho.h2.ext hw'.ext (by simp [kys])), (ho.h3.ext hw'.ext (by simp [kys])), (ho.h4.ext hw'.ext (by simp [kys]))⟩) ?_))
    rintro v bx' hp' ⟨rfl, g2, c5, rfl, rfl⟩
    refine AtD.fork1 14 (by kernel_rfl) (StepD.by0 [] rfl rfl rfl trivial (OpOk.one true [] [hB 2] rfl (by (repeat' apply And.intro) <;> first | exact cells5 rfl rfl rfl rfl rfl | exact True.intro | omega | rfl | (simp only [inK]; omega) | exact decide_eq_true (by omega) | exact decide_eq_false (by omega) | (simp; done) | (simp; omega) | (simp [Value.oneCell']; done) | exact i64s_one _ | exact AggOk.mk (by kernel_rfl) (by kernel_rfl)) ?_))
    refine AtD.done (by kernel_rfl) ?_
    refine At.run 100 true [] [hB 2, hB 0] rfl (by (repeat' apply And.intro) <;> first | exact cells5 rfl rfl rfl rfl rfl | exact True.intro | omega | rfl | (simp only [inK]; omega) | exact decide_eq_true (by omega) | exact decide_eq_false (by omega) | (simp; done) | (simp; omega) | (simp [Value.oneCell']; done) | exact i64s_one _ | exact AggOk.mk (by kernel_rfl) (by kernel_rfl)) ?_
    refine At.reshape (fun w' hw' => WOk.freeze1 hw') ?_
    exact At.retK [] [true] [hB 0] rfl rfl Tryd.func38 rfl ⟨rfl, trivial⟩ ⟨rfl, ⟨svA g2, a2, a3, a4, c5, c2, c3, c4⟩, _, rfl, rfl, fun w' hx h => ⟨SlOk.row (hx _ (List.mem_singleton.2 rfl)), h.h2, h.h3, h.h4⟩⟩

theorem Tryd.set1e_w (b : Bk) (A : BkA) (K B : Int) (was : List Int) (wa : Option Addr) (wc : Nat) (ia : Option Addr) (ic : Nat) (w : World) (hi : BkIn b) (ho : BkOk w b A) :
    Tri Tryd.prog 38 [.agg ⟨bkV b A⟩, .agg ⟨chC ⟨(1, K, B), was, wa, wc, [], ia, ic⟩⟩] w [] (Tryd.SetQ b A { b with H := outK K b.H }) := by
  obtain ⟨a1, a2, a3, a4, c1, c2, c3, c4⟩ := A
  refine Tri.enter (bx := []) (hp := []) Tryd.func38 rfl (by kernel_rfl) rfl (Own.nil w) ?_
  have hm0 : ∀ k, k ∉ (⟨w, kys [] []⟩ : Base).mods := by simp [kys]
  refine At.run 100 true [] [] rfl trivial ?_
  refine At.step [] rfl rfl rfl rfl rfl trivial (OpOk.box rfl rfl rfl fun bq hbq => ?_)
  refine At.step [] rfl rfl rfl rfl rfl trivial (OpOk.box rfl rfl rfl fun b3 hb3 => ?_)
  refine At.step [] rfl rfl rfl rfl rfl trivial (OpOk.alloc (cs := [.slice none 0 0, .slice none 0 0, .slice none 0 0, .slice none 0 0, .int .i64 0]) rfl (by kernel_rfl) fun b4 hb4 => ?_)
  have hal : SlOk w a1 (b.H.flatMap i64s) := ho.h1
  have l1 := hi.l1
  refine At.run 100 true [true] [hB 1] rfl (by (repeat' apply And.intro) <;> first | (simp; done) | exact True.intro | omega | rfl | (simp only [inK]; omega) | exact decide_eq_true (by omega) | exact decide_eq_false (by omega) | (simp; done) | (simp; omega) | (simp [Value.oneCell']; done) | exact i64s_one _ | exact AggOk.mk (by kernel_rfl) (by kernel_rfl)) ?_
  refine At.step [] rfl rfl rfl rfl rfl trivial (OpOk.makeSlice (sz := 1) (by_ := 8) (xs := i64s zer5) 5 rfl rfl rfl rfl rfl rfl (by omega) (by omega) (by omega) (by simp [i64s, zer5]) zer_at (by decide) (fun gz => ?_))
  refine At.run 100 true [true] [hB 1] rfl (by (repeat' apply And.intro) <;> first | exact True.intro | omega | (simp only [inK]; omega) | (simp; done) | (simp; omega) | exact decide_eq_true (by omega) | exact decide_eq_false (by omega) | rfl | (simp [Value.oneCell']; done) | exact i64s_one _ | exact AggOk.mk (by kernel_rfl) (by kernel_rfl)) ?_
  refine At.nilRow 52 4 ?_
  refine At.loop (n := b.H.length) (env0 := [(2, .pointer (some ⟨bq, 0, none⟩)), (3, .pointer (some ⟨b3, 0, none⟩)), (4, .pointer (some ⟨b4, 0, none⟩)), (5, sv (some gz) 5 5), (6, sv none ([] : List (List Int)).length 0), (7, .int .i64 0)]) (fun m env bx hp => ∃ (i : Nat) (out : List (List Int)) (g : Option Nat) (c : Nat), m = b.H.length - i ∧ i ≤ b.H.length ∧ out.length ≤ i ∧ outK K b.H = out ++ outK K (b.H.drop i) ∧
    env = [(2, .pointer (some ⟨bq, 0, none⟩)), (3, .pointer (some ⟨b3, 0, none⟩)), (4, .pointer (some ⟨b4, 0, none⟩)), (5, sv (some gz) 5 5), (6, sv g out.length c), (7, .int .i64 i)] ∧ bx = [(b4, 27, [.slice none 0 0, .slice none 0 0, .slice none 0 0, .slice none 0 0, .int .i64 0]), (b3, 46, chC ⟨(1, K, B), was, wa, wc, [], ia, ic⟩), (bq, 27, bkV b ⟨a1, a2, a3, a4, c1, c2, c3, c4⟩)] ∧ hp = [Seg.row g 52 4 out.length c (out.flatMap i64s), Seg.row (some gz) 2 1 5 5 (i64s zer5)]) rfl ⟨0, [], none, 0, by simp, by omega, by simp, rfl, rfl, rfl, rfl⟩ ⟨rfl, rfl, rfl, rfl, rfl, rfl, trivial⟩ ?_
  rintro m env bx hp ⟨i, out, g, c, rfl, hi2, hol, hpre, rfl, rfl, rfl⟩ ih
  by_cases hlt : i < b.H.length
  · obtain ⟨z, hz⟩ : ∃ z, b.H[i]? = some z := ⟨_, List.getElem?_eq_getElem hlt⟩
    obtain ⟨hzl, hzi⟩ := hi.r1 z (List.mem_of_getElem? hz)
    have hne := slNe (sz := 4) (by omega) (fun x hx => (hi.r1 x hx).1) hz
    obtain ⟨gg, o, rfl, hc⟩ := hal.get hne
    obtain ⟨z0, z1, z2, z3, rfl⟩ := len4 hzl
    have rE : ∀ {bx : Bx} {hp : List Seg}, RdW ⟨w, kys [] []⟩ bx hp gg (o + (i : Int).toNat * 4) (i64s [z0, z1, z2, z3]) := fun {_ _} => RdW.sl hc (hm0 _) (i * 4) (by omega) (fun j u hu => flat_rec (fun x hx => (hi.r1 x hx).1) hz j u hu)
    rw [outK_drop hz] at hpre
    refine At.run 100 true [true] [hB 2] rfl (by (repeat' apply And.intro) <;> first | exact True.intro | omega | (simp only [inK]; omega) | (simp; done) | (simp; omega) | exact decide_eq_true (by omega) | exact decide_eq_false (by omega) | rfl | (simp [Value.oneCell']; done) | exact i64s_one _ | exact AggOk.mk (by kernel_rfl) (by kernel_rfl)) ?_
    refine At.quiet true [] [hB 2, hR [.int .i64 z0], hB 1] ⟨by kernel_rfl, by kernel_rfl, rfl, rfl, rfl⟩ rfl rfl rfl (by (repeat' apply And.intro) <;> first | exact RdW.at rE 0 rfl | exact True.intro | omega | rfl | (simp only [inK]; omega) | exact decide_eq_true (by omega) | exact decide_eq_false (by omega) | (simp; done) | (simp; omega) | (simp [Value.oneCell']; done) | exact i64s_one _ | exact AggOk.mk (by kernel_rfl) (by kernel_rfl)) ?_
    by_cases he : z0 = K
    · rw [if_pos (by exact he), List.nil_append] at hpre
      refine At.run 100 true [false] [] rfl (by (repeat' apply And.intro) <;> first | (simp [he]; done) | exact True.intro | omega | rfl | (simp only [inK]; omega) | exact decide_eq_true (by omega) | exact decide_eq_false (by omega) | (simp; done) | (simp; omega) | (simp [Value.oneCell']; done) | exact i64s_one _ | exact AggOk.mk (by kernel_rfl) (by kernel_rfl)) ?_
      exact At.weak (ih _ _ _ _ (by omega) ⟨i + 1, out, g, c, rfl, by omega, by omega, hpre, rfl, rfl, rfl⟩) ⟨rfl, rfl, rfl, rfl, rfl, some_int_eq (by omega), trivial⟩
    · rw [if_neg (by exact he)] at hpre
      refine At.run 100 true [true] [hB 2, hR (i64s [z0, z1, z2, z3])] rfl (by (repeat' apply And.intro) <;> first | exact rE | (simp [he]; done) | exact True.intro | omega | rfl | (simp only [inK]; omega) | exact decide_eq_true (by omega) | exact decide_eq_false (by omega) | (simp; done) | (simp; omega) | (simp [Value.oneCell']; done) | exact i64s_one _ | exact AggOk.mk (by kernel_rfl) (by kernel_rfl)) ?_
      refine At.append1 0 4 32 rfl rfl rfl rfl rfl rfl rfl rfl rfl trivial (fun _ => rfl) trivial rfl rfl rfl rfl rfl rfl rfl rfl (fun _ => rfl) (i64s_one [z0, z1, z2, z3]) (by omega) (by omega) (fun bz g2 cc2 => ?_)
      refine At.run 100 true [] [] rfl (by (repeat' apply And.intro) <;> first | exact True.intro | omega | (simp only [inK]; omega) | (simp; done) | (simp; omega) | exact decide_eq_true (by omega) | exact decide_eq_false (by omega) | rfl | (simp [Value.oneCell']; done) | exact i64s_one _ | exact AggOk.mk (by kernel_rfl) (by kernel_rfl)) ?_
      have ih := ih _ _ _ _ (by omega) ⟨i + 1, out ++ [[z0, z1, z2, z3]], g2, cc2, rfl, by omega, by simp; omega, by rw [hpre]; simp, rfl, rfl, rfl⟩
      simp only [List.length_append, List.length_singleton, List.flatMap_append, List.flatMap_singleton] at ih
      exact At.weak ih ⟨rfl, rfl, rfl, rfl, rfl, some_int_eq (by omega), trivial⟩
  · rw [List.drop_of_length_le (by omega)] at hpre
    clear ih
    have hpre : outK K b.H = out := hpre.trans (List.append_nil _)
    rw [hpre]
    refine At.run 100 true [false, false] [hB 2, hB 2, hB 1, hB 2, hB 0] rfl (by (repeat' apply And.intro) <;> first | exact cells5 rfl rfl rfl rfl rfl | (simp; done) | exact True.intro | omega | rfl | (simp only [inK]; omega) | exact decide_eq_true (by omega) | exact decide_eq_false (by omega) | (simp; done) | (simp; omega) | (simp [Value.oneCell']; done) | exact i64s_one _ | exact AggOk.mk (by kernel_rfl) (by kernel_rfl)) ?_
    refine At.reshape (fun w' hw' => WOk.freeze1 hw') ?_
    exact At.retK [] [true] [hB 0] rfl rfl Tryd.func38 rfl ⟨rfl, trivial⟩ ⟨rfl, ⟨svA g, a2, a3, a4, c, c2, c3, c4⟩, _, rfl, rfl, fun w' hx h => ⟨SlOk.row (hx _ (List.mem_singleton.2 rfl)), h.h2, h.h3, h.h4⟩⟩

end Go.Proofs

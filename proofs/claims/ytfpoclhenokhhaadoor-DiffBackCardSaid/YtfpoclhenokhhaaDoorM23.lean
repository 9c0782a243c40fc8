/-
  Plain laws of two books' changes: both ways of finding them tell the same.
-/
import Derived.Test.YtfpoclhenokhhaaDoorM21
import Derived.Test.YtfpoclhenokhhaaDoorM22
import Derived.Test.YtfpoclhenokhhaaDoorM9
/-
  Plain laws of two books' changes: both ways of finding them tell the same.
-/
namespace Go.Proofs
open Go Go.Eng
set_option maxRecDepth 100000
set_option maxHeartbeats 4000000
attribute [local irreducible] Tri

abbrev ChP := K3T × List Int × List Int
theorem strict_eq {α : Type} {lt : α → α → Prop} (hi : ∀ x, ¬ lt x x) (ht : ∀ x y z, lt x y → lt y z → lt x z) : ∀ {l1 l2 : List α}, l1.Pairwise lt → l2.Pairwise lt → (∀ x, x ∈ l1 ↔ x ∈ l2) → l1 = l2
  | [], [], _, _, _ => rfl
  | [], y :: l2, _, _, h => by have := (h y).2 (List.mem_cons_self ..); cases this
  | x :: l1, [], _, _, h => by have := (h x).1 (List.mem_cons_self ..); cases this
  | x :: l1, y :: l2, h1, h2, h => by
    rw [List.pairwise_cons] at h1 h2
    have hxy : x = y := by
      rcases List.mem_cons.1 ((h x).1 (List.mem_cons_self ..)) with e | hx
      · exact e
      · rcases List.mem_cons.1 ((h y).2 (List.mem_cons_self ..)) with e | hy
        · exact e.symm
        · exact (hi _ (ht _ _ _ (h1.1 y hy) (h2.1 x hx))).elim
    subst hxy
    rw [strict_eq hi ht h1.2 h2.2 fun z => ⟨fun hz => ?_, fun hz => ?_⟩]
    · rcases List.mem_cons.1 ((h z).1 (List.mem_cons_of_mem _ hz)) with e | hz2
      · subst e; exact (hi _ (h1.1 _ hz)).elim
      · exact hz2
    · rcases List.mem_cons.1 ((h z).2 (List.mem_cons_of_mem _ hz)) with e | hz2
      · subst e; exact (hi _ (h2.1 _ hz)).elim
      · exact hz2

/-- Rows whose keys rise, and which have values. -/
structure YOk (T : List YE) : Prop where
  ris : T.Pairwise fun x y => lt3 x.k y.k
  ne : ∀ x, x ∈ T → x.v ≠ []
theorem YOk.tail {x : YE} {T : List YE} (h : YOk (x :: T)) : YOk T := ⟨(List.pairwise_cons.1 h.ris).2, fun y hy => h.ne y (List.mem_cons_of_mem _ hy)⟩
theorem YOk.lt {x : YE} {T : List YE} (h : YOk (x :: T)) : ∀ y, y ∈ T → lt3 x.k y.k := (List.pairwise_cons.1 h.ris).1
theorem YOk.of {T : List YE} {b : Bk} (hT : T.map YE.row = rowsB b) (h : RowsOk (rowsB b)) : YOk T := by
  rw [← hT] at h
  refine ⟨?_, fun x hx => h.ne x.row (List.mem_map_of_mem hx)⟩
  have := h.ris
  rw [List.pairwise_map] at this
  exact this
theorem getT_cons (x : YE) (T : List YE) (k : K3T) : getT (x :: T) k = if x.k = k then x.v else getT T k := by
  unfold getT
  rw [List.find?_cons]
  by_cases h : x.k = k
  · rw [if_pos h, decide_eq_true h]
  · rw [if_neg h, decide_eq_false h]
theorem getT_far {T : List YE} {k : K3T} (h : ∀ x, x ∈ T → lt3 k x.k) : getT T k = [] := by
  unfold getT
  cases hf : T.find? (fun x => decide (x.k = k)) with
  | none => rfl
  | some x => exact (lt3_ne (h x (find_k hf).1) (find_k hf).2.symm).elim
theorem getT_mem {T : List YE} (h : YOk T) {x : YE} (hx : x ∈ T) : getT T x.k = x.v := by
  induction T with
  | nil => cases hx
  | cons y T ih =>
    rw [getT_cons]
    rcases List.mem_cons.1 hx with rfl | hx
    · rw [if_pos rfl]
    · rw [if_neg (lt3_ne (h.lt x hx)), ih h.tail hx]
theorem getT_row {T : List YE} (h : YOk T) (k : K3T) (v : List Int) : (k, v) ∈ T.map YE.row ↔ getT T k = v ∧ v ≠ [] := by
  constructor
  · intro hm
    obtain ⟨x, hx, e⟩ := List.mem_map.1 hm
    have e1 : x.k = k := congrArg Prod.fst e
    have e2 : x.v = v := congrArg Prod.snd e
    subst e1 e2
    exact ⟨getT_mem h hx, h.ne x hx⟩
  · rintro ⟨rfl, hv⟩
    unfold getT at *
    cases hf : T.find? (fun x => decide (x.k = k)) with
    | none => rw [hf] at hv; exact (hv rfl).elim
    | some x =>
      have h1 := find_k hf
      exact List.mem_map.2 ⟨x, h1.1, by show (x.k, x.v) = _; rw [h1.2]⟩
/-- What a key's change is. -/
def IsCh (T U : List YE) (e : ChP) : Prop := e.2.1 = getT T e.1 ∧ e.2.2 = getT U e.1 ∧ e.2.1 ≠ e.2.2
theorem mgE_mem : ∀ (T U : List YE), YOk T → YOk U → ∀ e : ChP, e ∈ (mgE T U).map chP ↔ IsCh T U e := by
  intro T U
  fun_induction mgE T U with
  | case1 => intro _ _ e; simp [IsCh, getT]; exact fun h1 h2 => h1.trans h2.symm
  | case2 x T ih =>
    intro hT hU e
    have h0 : getT ([] : List YE) e.1 = [] := rfl
    have hx : getT T x.k = [] := getT_far hT.lt
    have hne := hT.ne x (List.mem_cons_self ..)
    obtain ⟨k, a, b⟩ := e
    rw [List.map_cons, List.mem_cons, ih hT.tail hU]
    simp only [IsCh, getT_cons, chP, chW, Prod.mk.injEq] at *
    by_cases hk : x.k = k
    · subst hk
      simp only [true_and, if_true, hx, h0]
      constructor
      · rintro (⟨rfl, rfl⟩ | ⟨rfl, rfl, h⟩)
        · exact ⟨rfl, rfl, hne⟩
        · exact (h rfl).elim
      · rintro ⟨rfl, rfl, h⟩
        exact .inl ⟨rfl, rfl⟩
    · simp only [if_neg hk, Ne.symm hk, false_and, false_or]
  | case3 y U ih =>
    intro hT hU e
    have h0 : getT ([] : List YE) e.1 = [] := rfl
    have hx : getT U y.k = [] := getT_far hU.lt
    have hne := hU.ne y (List.mem_cons_self ..)
    obtain ⟨k, a, b⟩ := e
    rw [List.map_cons, List.mem_cons, ih hT hU.tail]
    simp only [IsCh, getT_cons, chP, chI, Prod.mk.injEq] at *
    by_cases hk : y.k = k
    · subst hk
      simp only [true_and, if_true, hx, h0]
      constructor
      · rintro (⟨rfl, rfl⟩ | ⟨rfl, rfl, h⟩)
        · exact ⟨rfl, rfl, hne.symm⟩
        · exact (h rfl).elim
      · rintro ⟨rfl, rfl, h⟩
        exact .inl ⟨rfl, rfl⟩
    · simp only [if_neg hk, Ne.symm hk, false_and, false_or]
  | case4 x T y U h1 ih =>
    intro hT hU e
    have hx : getT T x.k = [] := getT_far hT.lt
    have hy : getT (y :: U) x.k = [] := getT_far fun z hz => by
      rcases List.mem_cons.1 hz with rfl | hz
      · exact h1
      · exact lt3_trans h1 (hU.lt z hz)
    have hne := hT.ne x (List.mem_cons_self ..)
    obtain ⟨k, a, b⟩ := e
    rw [List.map_cons, List.mem_cons, ih hT.tail hU]
    simp only [IsCh, getT_cons x T, chP, chW, Prod.mk.injEq] at *
    by_cases hk : x.k = k
    · subst hk
      simp only [true_and, if_true, hx, hy]
      constructor
      · rintro (⟨rfl, rfl⟩ | ⟨rfl, rfl, h⟩)
        · exact ⟨rfl, rfl, hne⟩
        · exact (h rfl).elim
      · rintro ⟨rfl, rfl, h⟩
        exact .inl ⟨rfl, rfl⟩
    · simp only [if_neg hk, Ne.symm hk, false_and, false_or]
  | case5 x T y U h1 h2 ih =>
    intro hT hU e
    have hy : getT U y.k = [] := getT_far hU.lt
    have hx : getT (x :: T) y.k = [] := getT_far fun z hz => by
      rcases List.mem_cons.1 hz with rfl | hz
      · exact h2
      · exact lt3_trans h2 (hT.lt z hz)
    have hne := hU.ne y (List.mem_cons_self ..)
    obtain ⟨k, a, b⟩ := e
    rw [List.map_cons, List.mem_cons, ih hT hU.tail]
    simp only [IsCh, getT_cons y U, chP, chI, Prod.mk.injEq] at *
    by_cases hk : y.k = k
    · subst hk
      simp only [true_and, if_true, hx, hy]
      constructor
      · rintro (⟨rfl, rfl⟩ | ⟨rfl, rfl, h⟩)
        · exact ⟨rfl, rfl, hne.symm⟩
        · exact (h rfl).elim
      · rintro ⟨rfl, rfl, h⟩
        exact .inl ⟨rfl, rfl⟩
    · simp only [if_neg hk, Ne.symm hk, false_and, false_or]
  | case6 x T y U h1 h2 ih =>
    intro hT hU e
    have hk0 : x.k = y.k := by
      rcases lt3_tri x.k y.k with h | h | h
      · exact (h1 h).elim
      · exact h
      · exact (h2 h).elim
    have hx : getT T x.k = [] := getT_far hT.lt
    have hy : getT U x.k = [] := by rw [hk0]; exact getT_far hU.lt
    obtain ⟨k, a, b⟩ := e
    rw [List.map_append, List.mem_append, ih hT.tail hU.tail]
    simp only [IsCh, getT_cons, ← hk0] at *
    by_cases hk : x.k = k
    · subst hk
      simp only [if_true, hx, hy]
      by_cases h3 : x.v = y.v
      · rw [if_pos h3]
        constructor
        · rintro (h | ⟨rfl, rfl, h⟩)
          · cases h
          · exact (h rfl).elim
        · rintro ⟨rfl, rfl, h⟩
          exact (h h3).elim
      · rw [if_neg h3]
        simp only [List.map_cons, List.map_nil, List.mem_singleton, chP, chB, Prod.mk.injEq, true_and]
        constructor
        · rintro (⟨rfl, rfl⟩ | ⟨rfl, rfl, h⟩)
          · exact ⟨rfl, rfl, h3⟩
          · exact (h rfl).elim
        · rintro ⟨rfl, rfl, h⟩
          exact .inl ⟨rfl, rfl⟩
    · have : ¬ ((k, a, b) ∈ (if x.v = y.v then ([] : List ChE) else [chB x y]).map chP) := by
        split
        · simp
        · simp only [List.map_cons, List.map_nil, List.mem_singleton, chP, chB, Prod.mk.injEq, not_and]
          intro h; exact (hk h.symm).elim
      simp only [if_neg hk, this, false_or]
theorem mgE_ris : ∀ (T U : List YE), YOk T → YOk U → ((mgE T U).map chP).Pairwise fun p q => lt3 p.1 q.1 := by
  have far : ∀ {T U : List YE} {k : K3T}, YOk T → YOk U → (∀ x, x ∈ T → lt3 k x.k) → (∀ y, y ∈ U → lt3 k y.k) → ∀ p, p ∈ (mgE T U).map chP → lt3 k p.1 := by
    intro T U k hT hU h1 h2 p hp
    obtain ⟨e1, e2, e3⟩ := (mgE_mem T U hT hU p).1 hp
    by_cases h : getT T p.1 = []
    · have hne : getT U p.1 ≠ [] := fun h' => e3 (by rw [e1, e2, h, h'])
      obtain ⟨x, hx, e⟩ := List.mem_map.1 ((getT_row hU p.1 _).2 ⟨rfl, hne⟩)
      rw [← show x.k = p.1 from congrArg Prod.fst e]; exact h2 x hx
    · obtain ⟨x, hx, e⟩ := List.mem_map.1 ((getT_row hT p.1 _).2 ⟨rfl, h⟩)
      rw [← show x.k = p.1 from congrArg Prod.fst e]; exact h1 x hx
  intro T U
  fun_induction mgE T U with
  | case1 => intro _ _; exact List.Pairwise.nil
  | case2 x T ih =>
    intro hT hU
    rw [List.map_cons, List.pairwise_cons]
    exact ⟨far hT.tail hU hT.lt (fun _ h => by cases h), ih hT.tail hU⟩
  | case3 y U ih =>
    intro hT hU
    rw [List.map_cons, List.pairwise_cons]
    exact ⟨far hT hU.tail (fun _ h => by cases h) hU.lt, ih hT hU.tail⟩
  | case4 x T y U h1 ih =>
    intro hT hU
    rw [List.map_cons, List.pairwise_cons]
    refine ⟨far hT.tail hU hT.lt fun z hz => ?_, ih hT.tail hU⟩
    rcases List.mem_cons.1 hz with rfl | hz
    · exact h1
    · exact lt3_trans h1 (hU.lt z hz)
  | case5 x T y U h1 h2 ih =>
    intro hT hU
    rw [List.map_cons, List.pairwise_cons]
    refine ⟨far hT hU.tail (fun z hz => ?_) hU.lt, ih hT hU.tail⟩
    rcases List.mem_cons.1 hz with rfl | hz
    · exact h2
    · exact lt3_trans h2 (hT.lt z hz)
  | case6 x T y U h1 h2 ih =>
    intro hT hU
    have hk0 : x.k = y.k := by
      rcases lt3_tri x.k y.k with h | h | h
      · exact (h1 h).elim
      · exact h
      · exact (h2 h).elim
    split
    · exact ih hT.tail hU.tail
    · rw [List.map_append, List.map_cons, List.map_nil, List.singleton_append, List.pairwise_cons]
      exact ⟨far hT.tail hU.tail hT.lt (by rw [show (chP (chB x y)).1 = y.k from hk0]; exact hU.lt), ih hT.tail hU.tail⟩
theorem sort3_ris {ks : List K3T} (hn : ks.Nodup) : (sort3 ks).Pairwise lt3 := by
  have hle : ∀ x y : K3T, (!(_root_.Go.Proofs.ltOf cf3) y x) = true ↔ ¬ lt3 y x := fun x y => by rw [cf3_b]; simp
  have hp : (sort3 ks).Pairwise fun x y => ¬ lt3 y x := by
    refine (List.pairwise_mergeSort (fun a b c h1 h2 => ?_) (fun a b => ?_) ks).imp (fun h => (hle _ _).1 h)
    · rw [hle] at *
      intro h
      rcases lt3_tri b c with h3 | h3 | h3
      · exact h1 (lt3_trans h3 h)
      · subst h3; exact h1 h
      · exact h2 h3
    · rw [Bool.or_eq_true, hle, hle]
      rcases lt3_tri a b with h3 | h3 | h3
      · exact .inl fun h => lt3_irrefl _ (lt3_trans h3 h)
      · subst h3; exact .inl (lt3_irrefl _)
      · exact .inr fun h => lt3_irrefl _ (lt3_trans h3 h)
  have hn2 : (sort3 ks).Nodup := (List.mergeSort_perm ks _).nodup_iff.2 hn
  refine (List.pairwise_and_iff.2 ⟨hp, hn2⟩).imp fun h => ?_
  rcases lt3_tri _ _ with h3 | h3 | h3
  · exact h3
  · exact (h.2 h3).elim
  · exact (h.1 h3).elim
theorem YOk.nodup {T : List YE} (h : YOk T) : (T.map (·.k)).Nodup := by
  rw [List.nodup_iff_pairwise_ne, List.pairwise_map]
  exact h.ris.imp fun h => lt3_ne h
theorem hasT_iff {T : List YE} {k : K3T} : hasT T k = true ↔ k ∈ T.map (·.k) := by
  unfold hasT
  rw [List.find?_isSome]
  constructor
  · rintro ⟨x, hx, e⟩
    exact List.mem_map.2 ⟨x, hx, by simpa using e⟩
  · intro h
    obtain ⟨x, hx, e⟩ := List.mem_map.1 h
    exact ⟨x, hx, by simpa using e⟩
theorem keysT_nodup {T U : List YE} (hT : YOk T) (hU : YOk U) : (keysT T U).Nodup := by
  unfold keysT
  rw [List.nodup_append]
  refine ⟨hT.nodup, ?_, ?_⟩
  · rw [List.nodup_iff_pairwise_ne, List.pairwise_map]
    exact (hU.ris.filter _).imp fun h => lt3_ne h
  · intro a ha b hb e
    subst e
    obtain ⟨x, hx, rfl⟩ := List.mem_map.1 hb
    rw [List.mem_filter] at hx
    have := hasT_iff.2 ha
    rw [this] at hx
    exact absurd hx.2 (by simp)
theorem keysT_mem {T U : List YE} {k : K3T} : k ∈ keysT T U ↔ k ∈ T.map (·.k) ∨ k ∈ U.map (·.k) := by
  unfold keysT
  rw [List.mem_append]
  constructor
  · rintro (h | h)
    · exact .inl h
    · obtain ⟨x, hx, rfl⟩ := List.mem_map.1 h
      exact .inr (List.mem_map_of_mem (List.mem_filter.1 hx).1)
  · rintro (h | h)
    · exact .inl h
    · cases hh : hasT T k with
      | true => exact .inl (hasT_iff.1 hh)
      | false =>
        obtain ⟨x, hx, rfl⟩ := List.mem_map.1 h
        exact .inr (List.mem_map.2 ⟨x, List.mem_filter.2 ⟨hx, by rw [hh]; rfl⟩, rfl⟩)
theorem getT_key {T : List YE} {k : K3T} (h : getT T k ≠ []) : k ∈ T.map (·.k) := by
  unfold getT at h
  cases hf : T.find? (fun x => decide (x.k = k)) with
  | none => rw [hf] at h; exact (h rfl).elim
  | some x => exact List.mem_map.2 ⟨x, (find_k hf).1, (find_k hf).2⟩
theorem diffK_eq {T U : List YE} (hT : YOk T) (hU : YOk U) : (diffK T U (sort3 (keysT T U))).map chP = (mgE T U).map chP := by
  refine strict_eq (lt := fun p q : ChP => lt3 p.1 q.1) (fun _ => lt3_irrefl _) (fun _ _ _ => lt3_trans) ?_ (mgE_ris T U hT hU) fun e => ?_
  · unfold diffK
    rw [List.map_map, List.pairwise_map]
    exact ((sort3_ris (keysT_nodup hT hU)).filter _).imp fun h => h
  · rw [mgE_mem T U hT hU, IsCh]
    unfold diffK
    rw [List.map_map, List.mem_map]
    constructor
    · rintro ⟨k, hk, rfl⟩
      have := (List.mem_filter.1 hk).2
      refine ⟨rfl, rfl, fun h => ?_⟩
      have h' : getT T k = getT U k := h
      rw [h'] at this
      simp at this
    · obtain ⟨k, a, b⟩ := e
      rintro ⟨h1, h2, h⟩
      obtain rfl : a = getT T k := h1
      obtain rfl : b = getT U k := h2
      refine ⟨k, List.mem_filter.2 ⟨(List.mergeSort_perm _ _).mem_iff.2 (keysT_mem.2 ?_), ?_⟩, rfl⟩
      · by_cases h1 : getT T k = []
        · exact .inr (getT_key fun h2 => h (by show getT T k = getT U k; rw [h1, h2]))
        · exact .inl (getT_key h1)
      · rw [decide_eq_false h]; rfl
theorem mgE_nil {T U : List YE} (hT : YOk T) (hU : YOk U) : mgE T U = [] ↔ T.map YE.row = U.map YE.row := by
  have hr : ∀ {V : List YE}, YOk V → (V.map YE.row).Pairwise fun p q => lt3 p.1 q.1 := fun h => List.pairwise_map.2 h.ris
  constructor
  · intro h
    refine strict_eq (lt := fun p q : RowB => lt3 p.1 q.1) (fun _ => lt3_irrefl _) (fun _ _ _ => lt3_trans) (hr hT) (hr hU) fun e => ?_
    obtain ⟨k, v⟩ := e
    rw [getT_row hT, getT_row hU]
    have hk : getT T k = getT U k := Classical.byContradiction fun hne => by
      have := (mgE_mem T U hT hU (k, getT T k, getT U k)).2 ⟨rfl, rfl, hne⟩
      rw [h] at this; cases this
    rw [hk]
  · intro h
    have hk : ∀ k, getT T k = getT U k := fun k => by
      by_cases h1 : getT T k = []
      · by_cases h2 : getT U k = []
        · rw [h1, h2]
        · have := (getT_row hU k _).2 ⟨rfl, h2⟩
          rw [← h, getT_row hT] at this
          exact this.1
      · have := (getT_row hT k _).2 ⟨rfl, h1⟩
        rw [h, getT_row hU] at this
        exact this.1.symm
    cases hm : mgE T U with
    | nil => rfl
    | cons e l =>
      have := (mgE_mem T U hT hU (chP e)).1 (by rw [hm]; exact List.mem_map_of_mem (List.mem_cons_self ..))
      exact (this.2.2 (by rw [this.1, this.2.1, hk])).elim

theorem getT_congr {T T' : List YE} (hT : YOk T) (hT' : YOk T') (h : T.map YE.row = T'.map YE.row) (k : K3T) : getT T k = getT T' k := by
  by_cases h1 : getT T k = []
  · by_cases h2 : getT T' k = []
    · rw [h1, h2]
    · have := (getT_row hT' k _).2 ⟨rfl, h2⟩
      rw [← h, getT_row hT] at this
      exact this.1
  · have := (getT_row hT k _).2 ⟨rfl, h1⟩
    rw [h, getT_row hT'] at this
    exact this.1.symm
theorem mgE_congr {T U T' U' : List YE} (hT : YOk T) (hU : YOk U) (hT' : YOk T') (hU' : YOk U') (h : T.map YE.row = T'.map YE.row) (k : U.map YE.row = U'.map YE.row) : (mgE T U).map chP = (mgE T' U').map chP :=
  strict_eq (lt := fun p q : ChP => lt3 p.1 q.1) (fun _ => lt3_irrefl _) (fun _ _ _ => lt3_trans) (mgE_ris T U hT hU) (mgE_ris T' U' hT' hU') fun e => by
    rw [mgE_mem T U hT hU, mgE_mem T' U' hT' hU', IsCh, IsCh, getT_congr hT hT' h, getT_congr hU hU' k]

/-- Rows that are alike are of books that are alike. -/
theorem r1_inj {l : Int} {sz : Nat} (hs : 0 < sz) : ∀ {A B : List (List Int)}, (∀ x, x ∈ A → x.length = sz) → (∀ x, x ∈ B → x.length = sz) → A.map (r1 l) = B.map (r1 l) → A = B
  | [], [], _, _, _ => rfl
  | [], _ :: _, _, _, h => by simp at h
  | _ :: _, [], _, _, h => by simp at h
  | x :: A, y :: B, hA, hB, h => by
    simp only [List.map_cons, List.cons.injEq, r1, Prod.mk.injEq, true_and, and_true] at h
    have hx := hA x (List.mem_cons_self ..)
    have hy := hB y (List.mem_cons_self ..)
    have e : x = y := by
      match x, y, h.1 with
      | [], _, _ => simp only [List.length_nil] at hx; omega
      | _ :: _, [], _ => simp only [List.length_nil] at hy; omega
      | a :: x, b :: y, h1 => simpa [k0] using h1
    rw [e, r1_inj hs (fun z hz => hA z (List.mem_cons_of_mem _ hz)) (fun z hz => hB z (List.mem_cons_of_mem _ hz)) h.2]
theorem r2_inj : ∀ {A B : List (List Int)}, (∀ x, x ∈ A → x.length = 3) → (∀ x, x ∈ B → x.length = 3) → A.map r2 = B.map r2 → A = B
  | [], [], _, _, _ => rfl
  | [], _ :: _, _, _, h => by simp at h
  | _ :: _, [], _, _, h => by simp at h
  | x :: A, y :: B, hA, hB, h => by
    simp only [List.map_cons, List.cons.injEq, r2, Prod.mk.injEq, true_and] at h
    have hx := hA x (List.mem_cons_self ..)
    have hy := hB y (List.mem_cons_self ..)
    have e : x = y := by
      obtain ⟨a, b, c, rfl⟩ := len3 hx
      obtain ⟨a', b', c', rfl⟩ := len3 hy
      simpa [k0, k1, and_assoc] using h.1
    rw [e, r2_inj (fun z hz => hA z (List.mem_cons_of_mem _ hz)) (fun z hz => hB z (List.mem_cons_of_mem _ hz)) h.2]
theorem fil_all {l : Int} {A : List RowB} (h : ∀ p, p ∈ A → p.1.1 = l) : A.filter (fun p => decide (p.1.1 = l)) = A := List.filter_eq_self.2 fun p hp => decide_eq_true (h p hp)
theorem fil_none {l : Int} {A : List RowB} (h : ∀ p, p ∈ A → p.1.1 ≠ l) : A.filter (fun p => decide (p.1.1 = l)) = [] := List.filter_eq_nil_iff.2 fun p hp => by simpa using h p hp
theorem r1_list {l : Int} {A : List (List Int)} : ∀ p, p ∈ A.map (r1 l) → p.1.1 = l := fun p hp => by obtain ⟨x, -, rfl⟩ := List.mem_map.1 hp; rfl
theorem r2_list {A : List (List Int)} : ∀ p, p ∈ A.map r2 → p.1.1 = 2 := fun p hp => by obtain ⟨x, -, rfl⟩ := List.mem_map.1 hp; rfl
theorem rowsB_fil (b : Bk) : (rowsB b).filter (fun p => decide (p.1.1 = 1)) = b.H.map (r1 1) ∧ (rowsB b).filter (fun p => decide (p.1.1 = 2)) = b.S.map r2 ∧ (rowsB b).filter (fun p => decide (p.1.1 = 3)) = b.O.map (r1 3) ∧ (rowsB b).filter (fun p => decide (p.1.1 = 4)) = b.R.map (r1 4) ∧ (rowsB b).filter (fun p => decide (p.1.1 = 5)) = [((5, 0, 0), [b.c])] := by
  have n1 : ∀ {l m : Int} {A : List (List Int)}, l ≠ m → (A.map (r1 l)).filter (fun p => decide (p.1.1 = m)) = [] := fun h => fil_none fun p hp => by rw [r1_list p hp]; exact h
  have n2 : ∀ {m : Int} {A : List (List Int)}, 2 ≠ m → (A.map r2).filter (fun p => decide (p.1.1 = m)) = [] := fun h => fil_none fun p hp => by rw [r2_list p hp]; exact h
  have y1 : ∀ {l : Int} {A : List (List Int)}, (A.map (r1 l)).filter (fun p => decide (p.1.1 = l)) = A.map (r1 l) := fil_all r1_list
  have y2 : ∀ {A : List (List Int)}, (A.map r2).filter (fun p => decide (p.1.1 = 2)) = A.map r2 := fil_all r2_list
  refine ⟨?_, ?_, ?_, ?_, ?_⟩ <;> simp only [rowsB, List.filter_append]
  · rw [y1, n2 (by decide), n1 (by decide), n1 (by decide)]; simp
  · rw [n1 (by decide), y2, n1 (by decide), n1 (by decide)]; simp
  · rw [n1 (by decide), n2 (by decide), y1, n1 (by decide)]; simp
  · rw [n1 (by decide), n2 (by decide), n1 (by decide), y1]; simp
  · rw [n1 (by decide), n2 (by decide), n1 (by decide), n1 (by decide)]; simp
theorem rowsB_inj {a b : Bk} (ha : BkIn a) (hb : BkIn b) (h : rowsB a = rowsB b) : a.H = b.H ∧ a.S = b.S ∧ a.O = b.O ∧ a.R = b.R ∧ a.c = b.c := by
  obtain ⟨a1, a2, a3, a4, a5⟩ := rowsB_fil a
  obtain ⟨b1, b2, b3, b4, b5⟩ := rowsB_fil b
  rw [h] at a1 a2 a3 a4 a5
  refine ⟨r1_inj (by omega) (fun x hx => (ha.r1 x hx).1) (fun x hx => (hb.r1 x hx).1) (a1.symm.trans b1), r2_inj (fun x hx => (ha.r2 x hx).1) (fun x hx => (hb.r2 x hx).1) (a2.symm.trans b2), r1_inj (by omega) (fun x hx => (ha.r3 x hx).1) (fun x hx => (hb.r3 x hx).1) (a3.symm.trans b3), r1_inj (by omega) (fun x hx => (ha.r4 x hx).1) (fun x hx => (hb.r4 x hx).1) (a4.symm.trans b4), ?_⟩
  have := a5.symm.trans b5
  simpa using this
theorem mgE_same {T U : List YE} {a b : Bk} (hT : T.map YE.row = rowsB a) (hU : U.map YE.row = rowsB b) (ha : BkIn a) (hb : BkIn b) (la : listsB a = true) (lb : listsB b = true) : decide (mgE T U = []) = sameB a b := by
  rw [sameB, decide_eq_decide, mgE_nil (YOk.of hT (rowsB_ok ha la)) (YOk.of hU (rowsB_ok hb lb)), hT, hU]
  constructor
  · exact rowsB_inj ha hb
  · rintro ⟨h1, h2, h3, h4, h5⟩
    rw [rowsB, rowsB, h1, h2, h3, h4, h5]
end Go.Proofs

/-
  Plain laws of patches: tables of keys and values, and what changes make of them.
-/
namespace Go.Proofs
open Go Go.Eng
set_option maxRecDepth 100000
set_option maxHeartbeats 4000000
attribute [local irreducible] Tri

abbrev FunT := K3T → List Int
def valR (R : List RowB) : FunT := fun k => match R.find? fun r => decide (r.1 = k) with
  | some r => r.2
  | none => []
theorem valR_cons (r : RowB) (R : List RowB) (k : K3T) : valR (r :: R) k = if r.1 = k then r.2 else valR R k := by
  unfold valR
  rw [List.find?_cons]
  by_cases h : r.1 = k
  · rw [if_pos h, decide_eq_true h]
  · rw [if_neg h, decide_eq_false h]
theorem valR_mem {R : List RowB} (h : (R.map (·.1)).Nodup) {k : K3T} {v : List Int} (hm : (k, v) ∈ R) : valR R k = v := by
  induction R with
  | nil => cases hm
  | cons r R ih =>
    rw [List.map_cons, List.nodup_cons] at h
    rw [valR_cons]
    rcases List.mem_cons.1 hm with rfl | hm
    · rw [if_pos rfl]
    · rw [if_neg (fun e => h.1 (by rw [e]; exact List.mem_map.2 ⟨_, hm, rfl⟩)), ih h.2 hm]
theorem valR_none {R : List RowB} {k : K3T} (h : ∀ r, r ∈ R → r.1 ≠ k) : valR R k = [] := by
  induction R with
  | nil => rfl
  | cons r R ih => rw [valR_cons, if_neg (h r (List.mem_cons_self ..)), ih fun x hx => h x (List.mem_cons_of_mem _ hx)]
def upd (f : FunT) (k : K3T) (v : List Int) : FunT := fun k' => if k' = k then v else f k'

/-- How many values things of a list have. -/
def widN (l : Int) : Nat := if l = 1 then 3 else if l = 3 then 5 else 1
/-- A row that a book may have. -/
structure RowWf (r : RowB) : Prop where
  l1 : 1 ≤ r.1.1
  l5 : r.1.1 ≤ 5
  k1 : inK .i64 r.1.2.1
  k2 : inK .i64 r.1.2.2
  v : ∀ x, x ∈ r.2 → inK .i64 x
  len : r.2.length = widN r.1.1
  b0 : r.1.1 ≠ 2 → r.1.2.2 = 0
  a0 : r.1.1 = 5 → r.1.2.1 = 0
theorem widN_pos (l : Int) : 0 < widN l := by unfold widN; split; · omega
                                              split <;> omega
theorem RowWf.ne {r : RowB} (h : RowWf r) : r.2 ≠ [] := fun e => by
  have := h.len
  have := widN_pos r.1.1
  rw [e, List.length_nil] at *; omega
theorem RowWf.in3 {r : RowB} (h : RowWf r) : In3 r.1 := ⟨by have := h.l1; have := h.l5; simp only [inK]; omega, h.k1, h.k2⟩
theorem rowsB_wf {b : Bk} (hi : BkIn b) : ∀ r, r ∈ rowsB b → RowWf r := by
  have one : ∀ {sz : Nat} {l : Int} {x : List Int}, 1 ≤ l → l ≤ 4 → l ≠ 2 → 0 < sz → sz = widN l + 1 → x.length = sz → (∀ y, y ∈ x → inK .i64 y) → RowWf (r1 l x) := by
    intro sz l x h1 h2 h3 h4 h5 hx hin
    exact ⟨h1, by show l ≤ 5; omega, hin _ (k0_mem (by omega)), by simp [r1, inK], fun y hy => hin y (mem_drop' hy), by show (x.drop 1).length = widN l; rw [List.length_drop]; omega, fun _ => rfl, fun e => by have : l = 5 := e; omega⟩
  intro p hp
  simp only [rowsB, List.mem_append, List.mem_map, List.mem_singleton] at hp
  rcases hp with ⟨x, hx, rfl⟩ | ⟨x, hx, rfl⟩ | ⟨x, hx, rfl⟩ | ⟨x, hx, rfl⟩ | rfl
  · exact one (sz := 4) (by omega) (by omega) (by omega) (by omega) (by decide) (hi.r1 x hx).1 (hi.r1 x hx).2
  · have hl := (hi.r2 x hx).1
    exact ⟨by simp [r2], by simp [r2], (hi.r2 x hx).2 _ (k0_mem (by omega)), (hi.r2 x hx).2 _ (k1_mem (by omega)), fun y hy => (hi.r2 x hx).2 y (mem_drop' hy), by show (x.drop 2).length = widN 2; rw [List.length_drop, hl]; rfl, fun h => (h rfl).elim, fun e => by cases e⟩
  · exact one (sz := 6) (by omega) (by omega) (by omega) (by omega) (by decide) (hi.r3 x hx).1 (hi.r3 x hx).2
  · exact one (sz := 2) (by omega) (by omega) (by omega) (by omega) (by decide) (hi.r4 x hx).1 (hi.r4 x hx).2
  · exact ⟨by show (1 : Int) ≤ 5; omega, by show (5 : Int) ≤ 5; omega, by simp [inK], by simp [inK], fun y hy => by rw [List.mem_singleton] at hy; subst hy; exact hi.cc, rfl, fun _ => rfl, fun _ => rfl⟩

/-- Rows that are the table of a function. -/
structure TabR (R : List RowB) (f : FunT) : Prop where
  nd : (R.map (·.1)).Nodup
  wf : ∀ r, r ∈ R → RowWf r
  iff : ∀ k v, (k, v) ∈ R ↔ f k = v ∧ v ≠ []
theorem TabR.of {R : List RowB} (nd : (R.map (·.1)).Nodup) (wf : ∀ r, r ∈ R → RowWf r) : TabR R (valR R) := by
  refine ⟨nd, wf, fun k v => ⟨fun h => ⟨valR_mem nd h, (wf _ h).ne⟩, ?_⟩⟩
  rintro ⟨rfl, h⟩
  unfold valR at *
  cases hf : R.find? (fun r => decide (r.1 = k)) with
  | none => rw [hf] at h; exact (h rfl).elim
  | some r =>
    have h1 := List.mem_of_find?_eq_some hf
    have h2 : r.1 = k := by simpa using List.find?_some hf
    subst h2
    exact h1
theorem TabR.wfF {R : List RowB} {f : FunT} (h : TabR R f) {k : K3T} (hk : f k ≠ []) : RowWf (k, f k) := h.wf _ ((h.iff k _).2 ⟨rfl, hk⟩)
theorem TabR.find {R : List RowB} {f : FunT} (h : TabR R f) {k : K3T} (hk : f k ≠ []) : ∃ i : Nat, R[i]? = some (k, f k) := List.mem_iff_getElem?.1 ((h.iff k _).2 ⟨rfl, hk⟩)
theorem TabR.miss {R : List RowB} {f : FunT} (h : TabR R f) {k : K3T} (hk : f k = []) : ∀ r, r ∈ R → r.1 ≠ k := by
  rintro ⟨k', v⟩ hr e
  have e : k' = k := e
  subst e
  obtain ⟨h1, h2⟩ := (h.iff k' v).1 hr
  exact h2 (h1.symm.trans hk)
theorem mem_erase_iff {R : List RowB} (h : (R.map (·.1)).Nodup) {i : Nat} {k : K3T} {v : List Int} (hi : R[i]? = some (k, v)) (r : RowB) : r ∈ R.eraseIdx i ↔ r ∈ R ∧ r.1 ≠ k := by
  induction R generalizing i with
  | nil => cases hi
  | cons x R ih =>
    rw [List.map_cons, List.nodup_cons] at h
    cases i with
    | zero =>
      have e : x = (k, v) := Option.some.inj hi
      subst e
      rw [List.eraseIdx_cons_zero, List.mem_cons]
      constructor
      · intro hr
        exact ⟨.inr hr, fun e => h.1 (List.mem_map.2 ⟨r, hr, e⟩)⟩
      · rintro ⟨rfl | hr, hne⟩
        · exact (hne rfl).elim
        · exact hr
    | succ i =>
      have hi : R[i]? = some (k, v) := by simpa using hi
      rw [List.eraseIdx_cons_succ, List.mem_cons, List.mem_cons, ih h.2 hi]
      constructor
      · rintro (rfl | hr)
        · exact ⟨.inl rfl, fun e => h.1 (by rw [e]; exact List.mem_map.2 ⟨_, List.mem_of_getElem? hi, rfl⟩)⟩
        · exact ⟨.inr hr.1, hr.2⟩
      · rintro ⟨rfl | hr, hne⟩
        · exact .inl rfl
        · exact .inr ⟨hr, hne⟩
theorem TabR.erase {R : List RowB} {f : FunT} (h : TabR R f) {i : Nat} {k : K3T} {v : List Int} (hi : R[i]? = some (k, v)) : TabR (R.eraseIdx i) (upd f k []) := by
  refine ⟨h.nd.sublist (List.Sublist.map _ (List.eraseIdx_sublist ..)), fun r hr => h.wf r ((List.eraseIdx_sublist ..).mem hr), fun k' v' => ?_⟩
  rw [mem_erase_iff h.nd hi, h.iff]
  unfold upd
  by_cases e : k' = k
  · rw [if_pos e]
    exact ⟨fun x => (x.2 e).elim, fun x => (x.2 x.1.symm).elim⟩
  · rw [if_neg e]
    exact ⟨fun x => x.1, fun x => ⟨x, e⟩⟩
theorem mem_set_iff {R : List RowB} (h : (R.map (·.1)).Nodup) {i : Nat} {k : K3T} {v u : List Int} (hi : R[i]? = some (k, v)) (r : RowB) : r ∈ R.set i (k, u) ↔ r = (k, u) ∨ r ∈ R ∧ r.1 ≠ k := by
  induction R generalizing i with
  | nil => cases hi
  | cons x R ih =>
    rw [List.map_cons, List.nodup_cons] at h
    cases i with
    | zero =>
      have e : x = (k, v) := Option.some.inj hi
      subst e
      rw [List.set_cons_zero, List.mem_cons, List.mem_cons]
      constructor
      · rintro (hr | hr)
        · exact .inl hr
        · exact .inr ⟨.inr hr, fun e => h.1 (List.mem_map.2 ⟨r, hr, e⟩)⟩
      · rintro (hr | ⟨rfl | hr, hne⟩)
        · exact .inl hr
        · exact (hne rfl).elim
        · exact .inr hr
    | succ i =>
      have hi : R[i]? = some (k, v) := by simpa using hi
      rw [List.set_cons_succ, List.mem_cons, List.mem_cons, ih h.2 hi]
      constructor
      · rintro (rfl | hr | hr)
        · exact .inr ⟨.inl rfl, fun e => h.1 (by rw [e]; exact List.mem_map.2 ⟨_, List.mem_of_getElem? hi, rfl⟩)⟩
        · exact .inl hr
        · exact .inr ⟨.inr hr.1, hr.2⟩
      · rintro (hr | ⟨rfl | hr, hne⟩)
        · exact .inr (.inl hr)
        · exact .inl rfl
        · exact .inr (.inr ⟨hr, hne⟩)
theorem TabR.set {R : List RowB} {f : FunT} (h : TabR R f) {i : Nat} {k : K3T} {v u : List Int} (hi : R[i]? = some (k, v)) (hu : RowWf (k, u)) : TabR (R.set i (k, u)) (upd f k u) := by
  refine ⟨?_, fun r hr => ?_, fun k' v' => ?_⟩
  · have : (R.set i (k, u)).map (·.1) = R.map (·.1) := by
      rw [List.map_set]
      apply List.ext_getElem?
      intro j
      rw [List.getElem?_set]
      by_cases e : i = j
      · subst e
        have hl := (List.getElem?_eq_some_iff.1 hi).1
        rw [if_pos rfl, if_pos (by rw [List.length_map]; exact hl), List.getElem?_map, hi]; rfl
      · rw [if_neg e]
    rw [this]; exact h.nd
  · rcases (mem_set_iff h.nd hi r).1 hr with rfl | hr
    · exact hu
    · exact h.wf r hr.1
  · rw [mem_set_iff h.nd hi, h.iff]
    unfold upd
    by_cases e : k' = k
    · subst e
      rw [if_pos rfl]
      constructor
      · rintro (e | e)
        · have : v' = u := congrArg Prod.snd e
          subst this; exact ⟨rfl, hu.ne⟩
        · exact (e.2 rfl).elim
      · rintro ⟨rfl, -⟩; exact .inl rfl
    · rw [if_neg e]
      constructor
      · rintro (e2 | e2)
        · exact (e (congrArg Prod.fst e2)).elim
        · exact e2.1
      · intro x; exact .inr ⟨x, e⟩
theorem TabR.push {R : List RowB} {f : FunT} (h : TabR R f) {k : K3T} {u : List Int} (hk : ∀ r, r ∈ R → r.1 ≠ k) (hu : RowWf (k, u)) : TabR (R ++ [(k, u)]) (upd f k u) := by
  refine ⟨?_, fun r hr => ?_, fun k' v' => ?_⟩
  · rw [List.map_append, List.nodup_append]
    refine ⟨h.nd, by simp, fun a ha b hb e => ?_⟩
    obtain ⟨r, hr, rfl⟩ := List.mem_map.1 ha
    simp only [List.map_cons, List.map_nil, List.mem_singleton] at hb
    exact hk r hr (e.trans hb)
  · rcases List.mem_append.1 hr with hr | hr
    · exact h.wf r hr
    · rw [List.mem_singleton] at hr; subst hr; exact hu
  · rw [List.mem_append, List.mem_singleton, h.iff]
    unfold upd
    by_cases e : k' = k
    · subst e
      rw [if_pos rfl]
      constructor
      · rintro (e | e)
        · exact (hk (k', v') ((h.iff k' v').2 e) rfl).elim
        · have : v' = u := congrArg Prod.snd e
          subst this; exact ⟨rfl, hu.ne⟩
      · rintro ⟨rfl, -⟩; exact .inr rfl
    · rw [if_neg e]
      constructor
      · rintro (e2 | e2)
        · exact e2
        · exact (e (congrArg Prod.fst e2)).elim
      · intro x; exact .inl x

/-- May a list's things have these values? -/
def valuesB (l : Int) (v : List Int) : Bool := if v = [] then decide (l ≠ 5) else decide (v.length = widN l) && (decide (l ≠ 3) || (decide (nthI v 2 = 0) || decide (nthI v 2 = 1)))
/-- May a change be? -/
def mayC (e : ChP) : Bool := decide (1 ≤ e.1.1 ∧ e.1.1 ≤ 5 ∧ e.2.1 ≠ e.2.2 ∧ (e.1.1 ≠ 2 → e.1.2.2 = 0) ∧ (e.1.1 = 5 → e.1.2.1 = 0)) && (valuesB e.1.1 e.2.1 && valuesB e.1.1 e.2.2)
structure RightP (l : List ChP) : Prop where
  may : ∀ e, e ∈ l → mayC e = true
  ris : l.Pairwise fun p q => lt3 p.1 q.1
open Classical in
noncomputable def rightB (l : List ChP) : Bool := decide (RightP l)
theorem rightB_iff {l : List ChP} : rightB l = true ↔ RightP l := by unfold rightB; simp
theorem rightB_true {l : List ChP} (h : RightP l) : rightB l = true := rightB_iff.2 h
theorem rightB_false {l : List ChP} (h : ¬ RightP l) : rightB l = false := by
  cases hb : rightB l with
  | false => rfl
  | true => exact (h (rightB_iff.1 hb)).elim
theorem RightP.of {l : List ChP} (h1 : ∀ (i : Nat) e, l[i]? = some e → mayC e = true) (h2 : ∀ (i : Nat) d e, l[i]? = some d → l[i + 1]? = some e → lt3 d.1 e.1) : RightP l := by
  refine ⟨fun e he => ?_, ?_⟩
  · obtain ⟨i, hi⟩ := List.mem_iff_getElem?.1 he
    exact h1 i e hi
  · clear h1
    induction l with
    | nil => exact List.Pairwise.nil
    | cons x l ih =>
      have ih := ih fun i d e hd he => h2 (i + 1) d e (by simpa using hd) (by simpa using he)
      rw [List.pairwise_cons]
      refine ⟨fun y hy => ?_, ih⟩
      cases l with
      | nil => cases hy
      | cons z l =>
        have h0 := h2 0 x z rfl rfl
        rcases List.mem_cons.1 hy with rfl | hy
        · exact h0
        · exact lt3_trans h0 ((List.pairwise_cons.1 ih).1 y hy)
theorem RightP.no1 {l : List ChP} {i : Nat} {e : ChP} (hi : l[i]? = some e) (h : mayC e = false) : ¬ RightP l := fun hr => by
  rw [hr.may e (List.mem_of_getElem? hi)] at h; cases h
theorem RightP.no2 {l : List ChP} {i : Nat} {d e : ChP} (hd : l[i]? = some d) (he : l[i + 1]? = some e) (h : ¬ lt3 d.1 e.1) : ¬ RightP l := fun hr => by
  obtain ⟨h1, e1⟩ := List.getElem?_eq_some_iff.1 hd
  obtain ⟨h2, e2⟩ := List.getElem?_eq_some_iff.1 he
  have := List.pairwise_iff_getElem.1 hr.ris i (i + 1) h1 h2 (by omega)
  rw [e1, e2] at this
  exact h this
/-- A function patched by changes; none if it isn't as they say. -/
def chkP (f : FunT) : List ChP → Option FunT
  | [] => some f
  | e :: l => if f e.1 = e.2.1 then chkP (upd f e.1 e.2.2) l else none
theorem chkP_to : ∀ (l : List ChP) (f g : FunT), l.Pairwise (fun p q => lt3 p.1 q.1) → (∀ e, e ∈ l → f e.1 = e.2.1 ∧ g e.1 = e.2.2) → (∀ k, (∀ e, e ∈ l → e.1 ≠ k) → f k = g k) → chkP f l = some g
  | [], f, g, _, _, h => by
    rw [chkP, Option.some.injEq]
    funext k
    exact h k fun e he => by cases he
  | e :: l, f, g, hp, hm, h => by
    rw [List.pairwise_cons] at hp
    have he := hm e (List.mem_cons_self ..)
    rw [chkP, if_pos he.1]
    refine chkP_to l _ g hp.2 (fun e' he' => ?_) fun k hk => ?_
    · have hne : e'.1 ≠ e.1 := fun e2 => lt3_ne (hp.1 e' he') e2.symm
      have := hm e' (List.mem_cons_of_mem _ he')
      exact ⟨by unfold upd; rw [if_neg hne]; exact this.1, this.2⟩
    · unfold upd
      by_cases e2 : k = e.1
      · rw [if_pos e2, e2, he.2]
      · rw [if_neg e2]
        refine h k fun e' he' => ?_
        rcases List.mem_cons.1 he' with rfl | he'
        · exact fun e3 => e2 e3.symm
        · exact hk e' he'
/-- Changes that are those of two functions. -/
structure IsDiff (f g : FunT) (l : List ChP) : Prop where
  ris : l.Pairwise fun p q => lt3 p.1 q.1
  mem : ∀ e, e ∈ l ↔ e.2.1 = f e.1 ∧ e.2.2 = g e.1 ∧ e.2.1 ≠ e.2.2
theorem IsDiff.chk {f g : FunT} {l : List ChP} (h : IsDiff f g l) : chkP f l = some g := by
  refine chkP_to l f g h.ris (fun e he => ?_) fun k hk => ?_
  · have := (h.mem e).1 he
    exact ⟨this.1.symm, this.2.1.symm⟩
  · exact Classical.byContradiction fun hne => hk (k, f k, g k) ((h.mem _).2 ⟨rfl, rfl, hne⟩) rfl
theorem IsDiff.eq {f g : FunT} {l m : List ChP} (h : IsDiff f g l) (h' : IsDiff f g m) : l = m :=
  strict_eq (lt := fun p q : ChP => lt3 p.1 q.1) (fun _ => lt3_irrefl _) (fun _ _ _ => lt3_trans) h.ris h'.ris fun e => by rw [h.mem, h'.mem]
/-- A change turned. -/
def turnP (e : ChP) : ChP := (e.1, e.2.2, e.2.1)
theorem IsDiff.turn {f g : FunT} {l : List ChP} (h : IsDiff f g l) : IsDiff g f (l.map turnP) := by
  refine ⟨by rw [List.pairwise_map]; exact h.ris, fun e => ?_⟩
  rw [List.mem_map]
  constructor
  · rintro ⟨d, hd, rfl⟩
    obtain ⟨h1, h2, h3⟩ := (h.mem d).1 hd
    exact ⟨h2, h1, fun e => h3 e.symm⟩
  · rintro ⟨h1, h2, h3⟩
    exact ⟨turnP e, (h.mem _).2 ⟨h2, h1, fun e => h3 e.symm⟩, rfl⟩
theorem mgE_isDiff {T U : List YE} (hT : YOk T) (hU : YOk U) : IsDiff (getT T) (getT U) ((mgE T U).map chP) := ⟨mgE_ris T U hT hU, fun e => mgE_mem T U hT hU e⟩
theorem getT_val (T : List YE) : getT T = valR (T.map YE.row) := by
  funext k
  unfold getT valR
  rw [List.find?_map]
  rw [show ((fun r : RowB => decide (r.1 = k)) ∘ YE.row) = fun x : YE => decide (x.k = k) from rfl]
  cases T.find? (fun x => decide (x.k = k)) <;> rfl
theorem rowsB_nd {b : Bk} (h : listsB b = true) : ((rowsB b).map (·.1)).Nodup := by
  rw [List.nodup_iff_pairwise_ne, List.pairwise_map]
  exact (rowsB_ris h).imp fun h => lt3_ne h
/-- A book's values. -/
def valB (b : Bk) : FunT := valR (rowsB b)
theorem tabB {b : Bk} (hi : BkIn b) (h : listsB b = true) : TabR (rowsB b) (valB b) := TabR.of (rowsB_nd h) (rowsB_wf hi)
theorem valB_c {b : Bk} (hi : BkIn b) (h : listsB b = true) : valB b (5, 0, 0) = [b.c] := ((tabB hi h).iff (5, 0, 0) [b.c]).1 (by simp [rowsB]) |>.1
theorem wf_k5 {r : RowB} (h : RowWf r) (e : r.1.1 = 5) : r.1 = (5, 0, 0) := by
  have h1 := h.a0 e
  have h2 := h.b0 (by omega)
  obtain ⟨⟨a, b, c⟩, v⟩ := r
  simp only at *
  subst e h1 h2; rfl
/-- The side of an order of a book that may be. -/
theorem mayB_side {b : Bk} (hi : BkIn b) (hm : mayB b = true) {r : RowB} (hr : r ∈ rowsB b) (h3 : r.1.1 = 3) : nthI r.2 2 = 0 ∨ nthI r.2 2 = 1 := by
  simp only [mayB, Bool.and_eq_true] at hm
  have hO := hm.2.2.2.2.2
  simp only [rowsB, List.mem_append, List.mem_map, List.mem_singleton] at hr
  rcases hr with ⟨x, hx, rfl⟩ | ⟨x, hx, rfl⟩ | ⟨x, hx, rfl⟩ | ⟨x, hx, rfl⟩ | rfl
  · exact absurd h3 (by simp [r1])
  · exact absurd h3 (by simp [r2])
  · have := List.any_eq_false.1 (by simpa using hO) x hx
    obtain ⟨x0, x1, x2, x3, x4, x5, rfl⟩ := len6 (hi.r3 x hx).1
    simp only [badO, Bool.or_eq_true, decide_eq_true_eq, not_or] at this
    have h4 := this.2.2.1
    have h5 := this.2.2.2.1
    simp [nthI] at h4 h5
    simp [nthI, r1]
    omega
  · exact absurd h3 (by simp [r1])
  · exact absurd h3 (by simp)
theorem valuesB_of {b : Bk} (hi : BkIn b) (hm : mayB b = true) {k : K3T} (h5 : k.1 = 5 → valB b k ≠ []) : valuesB k.1 (valB b k) = true := by
  have hl : listsB b = true := by simp only [mayB, Bool.and_eq_true] at hm; exact hm.1
  unfold valuesB
  by_cases h : valB b k = []
  · rw [if_pos h]
    exact decide_eq_true fun e => h5 e h
  · rw [if_neg h]
    have hr := ((tabB hi hl).iff k _).2 ⟨rfl, h⟩
    have hwf := rowsB_wf hi _ hr
    rw [Bool.and_eq_true, Bool.or_eq_true, Bool.or_eq_true, decide_eq_true_eq, decide_eq_true_eq, decide_eq_true_eq, decide_eq_true_eq]
    refine ⟨hwf.len, ?_⟩
    by_cases h3 : k.1 = 3
    · exact .inr (mayB_side hi hm hr h3)
    · exact .inl h3
theorem diff_right {a b : Bk} (hia : BkIn a) (hib : BkIn b) (ha : mayB a = true) (hb : mayB b = true) {l : List ChP} (h : IsDiff (valB a) (valB b) l) : RightP l := by
  have hla : listsB a = true := by simp only [mayB, Bool.and_eq_true] at ha; exact ha.1
  have hlb : listsB b = true := by simp only [mayB, Bool.and_eq_true] at hb; exact hb.1
  refine ⟨fun e he => ?_, h.ris⟩
  obtain ⟨k, u, v⟩ := e
  obtain ⟨h1, h2, h3⟩ := (h.mem _).1 he
  have h1 : u = valB a k := h1
  have h2 : v = valB b k := h2
  have h3 : u ≠ v := h3
  clear he
  subst u
  subst v
  have hwf : ∃ w, RowWf (k, w) := by
    by_cases e : valB a k = []
    · exact ⟨_, (tabB hib hlb).wfF (k := k) fun e2 => h3 (e.trans e2.symm)⟩
    · exact ⟨_, (tabB hia hla).wfF e⟩
  obtain ⟨w, hw⟩ := hwf
  have h5 : k.1 = 5 → k = (5, 0, 0) := fun e => wf_k5 hw e
  unfold mayC
  rw [Bool.and_eq_true, Bool.and_eq_true, decide_eq_true_eq]
  refine ⟨⟨hw.l1, hw.l5, h3, hw.b0, hw.a0⟩, valuesB_of hia ha fun e => ?_, valuesB_of hib hb fun e => ?_⟩
  · rw [h5 e, valB_c hia hla]; simp
  · rw [h5 e, valB_c hib hlb]; simp
/-- A book that is laid of a table. -/
structure IsBk (f : FunT) (b : Bk) : Prop where
  inn : BkIn b
  ris : (rowsB b).Pairwise fun p q => lt3 p.1 q.1
  iff : ∀ k v, (k, v) ∈ rowsB b ↔ f k = v ∧ v ≠ []
theorem IsBk.eq {a b : Bk} (hi : BkIn b) (hl : listsB b = true) (h : IsBk (valB b) a) : a = b := by
  have : rowsB a = rowsB b := strict_eq (lt := fun p q : RowB => lt3 p.1 q.1) (fun _ => lt3_irrefl _) (fun _ _ _ => lt3_trans) h.ris (rowsB_ris hl) fun r => by
    obtain ⟨k, v⟩ := r
    rw [h.iff, (tabB hi hl).iff]
  obtain ⟨h1, h2, h3, h4, h5⟩ := rowsB_inj h.inn hi this
  obtain ⟨aH, aS, aO, aR, ac⟩ := a
  obtain ⟨bH, bS, bO, bR, bc⟩ := b
  simp only at *
  subst h1 h2 h3 h4 h5; rfl

/-- A book of rows. -/
def un1 (r : RowB) : List Int := r.1.2.1 :: r.2
def un2 (r : RowB) : List Int := r.1.2.1 :: r.1.2.2 :: r.2
def onL (l : Int) (R : List RowB) : List RowB := R.filter fun r => decide (r.1.1 = l)
def bkOf (R : List RowB) : Bk := ⟨(onL 1 R).map un1, (onL 2 R).map un2, (onL 3 R).map un1, (onL 4 R).map un1, R.foldl (fun c r => if r.1.1 = 5 then k0 r.2 else c) 0⟩
theorem onL_snoc (l : Int) (R : List RowB) (r : RowB) : onL l (R ++ [r]) = onL l R ++ (if r.1.1 = l then [r] else []) := by
  unfold onL
  rw [List.filter_append]
  congr 1
  by_cases h : r.1.1 = l <;> simp [h]
theorem onL_len (l : Int) (R : List RowB) : (onL l R).length ≤ R.length := List.length_filter_le ..
theorem bkOf_snoc (R : List RowB) (r : RowB) : bkOf (R ++ [r]) = ⟨(bkOf R).H ++ (if r.1.1 = 1 then [un1 r] else []), (bkOf R).S ++ (if r.1.1 = 2 then [un2 r] else []), (bkOf R).O ++ (if r.1.1 = 3 then [un1 r] else []), (bkOf R).R ++ (if r.1.1 = 4 then [un1 r] else []), if r.1.1 = 5 then k0 r.2 else (bkOf R).c⟩ := by
  simp only [bkOf, onL_snoc, List.map_append, List.foldl_append, List.foldl_cons, List.foldl_nil]
  congr 1 <;> (congr 1; split <;> rfl)
theorem un1_rec {r : RowB} (h : RowWf r) {sz : Nat} (hs : widN r.1.1 + 1 = sz) : (un1 r).length = sz ∧ ∀ y, y ∈ un1 r → inK .i64 y := by
  refine ⟨by rw [un1, List.length_cons, h.len]; exact hs, fun y hy => ?_⟩
  rcases List.mem_cons.1 hy with rfl | hy
  · exact h.k1
  · exact h.v y hy
theorem bkOf_in {R : List RowB} (h : ∀ r, r ∈ R → RowWf r) (hl : R.length ≤ 1048576) : BkIn (bkOf R) := by
  have m1 : ∀ {l : Int} {sz : Nat}, widN l + 1 = sz → ∀ x, x ∈ (onL l R).map un1 → x.length = sz ∧ ∀ y, y ∈ x → inK .i64 y := by
    intro l sz hs x hx
    obtain ⟨r, hr, rfl⟩ := List.mem_map.1 hx
    have h1 := List.mem_filter.1 hr
    have h2 : r.1.1 = l := by simpa using h1.2
    exact un1_rec (h r h1.1) (by rw [h2]; exact hs)
  have le : ∀ l (f : RowB → List Int), ((onL l R).map f).length ≤ 1048576 := fun l f => by rw [List.length_map]; exact Nat.le_trans (onL_len l R) hl
  refine ⟨m1 rfl, fun x hx => ?_, m1 rfl, m1 rfl, le _ _, le _ _, le _ _, le _ _, ?_⟩
  · obtain ⟨r, hr, rfl⟩ := List.mem_map.1 hx
    have h1 := List.mem_filter.1 hr
    have h2 : r.1.1 = 2 := by simpa using h1.2
    have hw := h r h1.1
    refine ⟨by rw [un2, List.length_cons, List.length_cons, hw.len, h2]; rfl, fun y hy => ?_⟩
    rcases List.mem_cons.1 hy with rfl | hy
    · exact hw.k1
    rcases List.mem_cons.1 hy with rfl | hy
    · exact hw.k2
    · exact hw.v y hy
  · have : ∀ (R : List RowB) (c : Int), (∀ r, r ∈ R → RowWf r) → inK .i64 c → inK .i64 (R.foldl (fun c r => if r.1.1 = 5 then k0 r.2 else c) c) := by
      intro R
      induction R with
      | nil => intro c _ hc; exact hc
      | cons r R ih =>
        intro c h hc
        refine ih _ (fun r hr => h r (List.mem_cons_of_mem _ hr)) ?_
        dsimp only
        split
        · have hw := h r (List.mem_cons_self ..)
          exact hw.v _ (k0_mem (by rw [hw.len]; exact widN_pos _))
        · exact hc
    exact this R 0 h (by simp [inK])
theorem r1_un1 {r : RowB} (h : RowWf r) (h2 : r.1.1 ≠ 2) : r1 r.1.1 (un1 r) = r := by
  have := h.b0 h2
  obtain ⟨⟨a, b, c⟩, v⟩ := r
  simp only at this
  subst this
  simp [r1, un1, k0]
theorem r2_un2 {r : RowB} (h2 : r.1.1 = 2) : r2 (un2 r) = r := by
  obtain ⟨⟨a, b, c⟩, v⟩ := r
  simp only at h2
  subst h2
  simp [r2, un2, k0, k1]
theorem bkOf_c {R : List RowB} (hr : R.Pairwise fun p q => lt3 p.1 q.1) (h : ∀ r, r ∈ R → RowWf r) {v : List Int} (hc : ((5, 0, 0), v) ∈ R) : (bkOf R).c = k0 v := by
  show R.foldl (fun c r => if r.1.1 = 5 then k0 r.2 else c) 0 = k0 v
  have none : ∀ (R : List RowB) (c : Int), (∀ r, r ∈ R → r.1.1 ≠ 5) → R.foldl (fun c r => if r.1.1 = 5 then k0 r.2 else c) c = c := by
    intro R
    induction R with
    | nil => intro c _; rfl
    | cons r R ih => intro c h; rw [List.foldl_cons, if_neg (h r (List.mem_cons_self ..))]; exact ih c fun r hr => h r (List.mem_cons_of_mem _ hr)
  suffices ∀ (R : List RowB) (c : Int), R.Pairwise (fun p q => lt3 p.1 q.1) → (∀ r, r ∈ R → RowWf r) → ((5, 0, 0), v) ∈ R → R.foldl (fun c r => if r.1.1 = 5 then k0 r.2 else c) c = k0 v from this R 0 hr h hc
  intro R
  induction R with
  | nil => intro c _ _ h; cases h
  | cons r R ih =>
    intro c hr h hc
    rw [List.pairwise_cons] at hr
    rw [List.foldl_cons]
    rcases List.mem_cons.1 hc with rfl | hc
    · rw [if_pos rfl, none]
      intro r' hr' e
      have := wf_k5 (h r' (List.mem_cons_of_mem _ hr')) e
      exact lt3_ne (hr.1 r' hr') this.symm
    · exact ih _ hr.2 (fun r hr => h r (List.mem_cons_of_mem _ hr)) hc
theorem split_le (c : Int) : ∀ {R : List RowB}, R.Pairwise (fun p q => lt3 p.1 q.1) → (∀ r, r ∈ R → c ≤ r.1.1) → R = onL c R ++ R.filter fun r => decide (c < r.1.1)
  | [], _, _ => rfl
  | r :: R, hr, hc => by
    rw [List.pairwise_cons] at hr
    have h0 := hc r (List.mem_cons_self ..)
    by_cases h : r.1.1 = c
    · have e := split_le c hr.2 fun r hr => hc r (List.mem_cons_of_mem _ hr)
      unfold onL at *
      rw [List.filter_cons_of_pos (by simpa using h), List.filter_cons_of_neg (by simp; omega), List.cons_append, ← e]
    · have hgt : ∀ x, x ∈ r :: R → c < x.1.1 := by
        intro x hx
        rcases List.mem_cons.1 hx with rfl | hx
        · omega
        · have := hr.1 x hx
          unfold lt3 at this
          omega
      rw [show onL c (r :: R) = [] from List.filter_eq_nil_iff.2 fun x hx => by have := hgt x hx; simp; omega, List.filter_eq_self.2 fun x hx => decide_eq_true (hgt x hx)]
      rfl
theorem rowsB_bkOf {R : List RowB} (hr : R.Pairwise fun p q => lt3 p.1 q.1) (h : ∀ r, r ∈ R → RowWf r) {v : List Int} (hc : ((5, 0, 0), v) ∈ R) : rowsB (bkOf R) = R := by
  have lo : ∀ (c : Int) (R' : List RowB), ∀ r, r ∈ R'.filter (fun r => decide (c < r.1.1)) → c + 1 ≤ r.1.1 := fun c R' r hr => by
    have := (List.mem_filter.1 hr).2
    simp only [decide_eq_true_eq] at this; omega
  have sub : ∀ (c d : Int) (R' : List RowB), c < d → onL d (R'.filter fun r => decide (c < r.1.1)) = onL d R' := fun c d R' hcd => by
    unfold onL
    rw [List.filter_filter]
    refine List.filter_congr fun x hx => ?_
    by_cases e : x.1.1 = d
    · simp [e, hcd]
    · simp [e]
  have s1 := split_le 1 hr (fun r hr => (h r hr).l1)
  have p1 := hr.filter (fun r => decide (1 < r.1.1))
  have s2 := split_le 2 p1 (lo 1 R)
  have p2 := p1.filter (fun r => decide (2 < r.1.1))
  have s3 := split_le 3 p2 (lo 2 _)
  have p3 := p2.filter (fun r => decide (3 < r.1.1))
  have s4 := split_le 4 p3 (lo 3 _)
  have p4 := p3.filter (fun r => decide (4 < r.1.1))
  have s5 := split_le 5 p4 (lo 4 _)
  have m1 : ∀ {l : Int}, l ≠ 2 → ((onL l R).map un1).map (r1 l) = onL l R := by
    intro l hl
    rw [List.map_map]
    conv => rhs; rw [← List.map_id (onL l R)]
    refine List.map_congr_left fun r hr => ?_
    have h1 := List.mem_filter.1 hr
    have h2 : r.1.1 = l := by simpa using h1.2
    show r1 l (un1 r) = r
    rw [← h2]; exact r1_un1 (h r h1.1) (by omega)
  have m2 : ((onL 2 R).map un2).map r2 = onL 2 R := by
    rw [List.map_map]
    conv => rhs; rw [← List.map_id (onL 2 R)]
    refine List.map_congr_left fun r hr => ?_
    have h1 := List.mem_filter.1 hr
    exact r2_un2 (by simpa using h1.2)
  have c5 : onL 5 R = [((5, 0, 0), [(bkOf R).c])] := by
    refine strict_eq (lt := fun p q : RowB => lt3 p.1 q.1) (fun _ => lt3_irrefl _) (fun _ _ _ => lt3_trans) (hr.filter _) (List.pairwise_singleton ..) fun r => ?_
    rw [List.mem_singleton, bkOf_c hr h hc]
    have hv : v = [k0 v] := by
      have := (h _ hc).len
      match v, this with
      | [x], _ => rfl
    constructor
    · intro hm
      have h1 := List.mem_filter.1 hm
      have h2 := wf_k5 (h r h1.1) (by simpa using h1.2)
      obtain ⟨k, u⟩ := r
      have h2 : k = (5, 0, 0) := h2
      subst h2
      have nd : (R.map (·.1)).Nodup := by
        rw [List.nodup_iff_pairwise_ne, List.pairwise_map]
        exact hr.imp fun h => lt3_ne h
      rw [← valR_mem nd h1.1, valR_mem nd hc, ← hv]
    · rintro rfl
      rw [← hv]
      exact List.mem_filter.2 ⟨hc, by simp⟩
  have hi5 : ((((R.filter fun r => decide (1 < r.1.1)).filter fun r => decide (2 < r.1.1)).filter fun r => decide (3 < r.1.1)).filter fun r => decide (4 < r.1.1)).filter (fun r => decide (5 < r.1.1)) = [] := List.filter_eq_nil_iff.2 fun r hr => by
    have hm : r ∈ R := (List.mem_filter.1 (List.mem_filter.1 (List.mem_filter.1 (List.mem_filter.1 hr).1).1).1).1
    have := (h r hm).l5
    simp only [decide_eq_true_eq]; omega
  rw [hi5, List.append_nil] at s5
  have e5 : onL 5 ((((R.filter fun r => decide (1 < r.1.1)).filter fun r => decide (2 < r.1.1)).filter fun r => decide (3 < r.1.1)).filter fun r => decide (4 < r.1.1)) = onL 5 R := by rw [sub _ _ _ (by decide), sub _ _ _ (by decide), sub _ _ _ (by decide), sub _ _ _ (by decide)]
  have e4 : onL 4 (((R.filter fun r => decide (1 < r.1.1)).filter fun r => decide (2 < r.1.1)).filter fun r => decide (3 < r.1.1)) = onL 4 R := by rw [sub _ _ _ (by decide), sub _ _ _ (by decide), sub _ _ _ (by decide)]
  have e3 : onL 3 ((R.filter fun r => decide (1 < r.1.1)).filter fun r => decide (2 < r.1.1)) = onL 3 R := by rw [sub _ _ _ (by decide), sub _ _ _ (by decide)]
  have e2 : onL 2 (R.filter fun r => decide (1 < r.1.1)) = onL 2 R := by rw [sub _ _ _ (by decide)]
  unfold rowsB
  show ((onL 1 R).map un1).map (r1 1) ++ (((onL 2 R).map un2).map r2 ++ (((onL 3 R).map un1).map (r1 3) ++ (((onL 4 R).map un1).map (r1 4) ++ [((5, 0, 0), [(bkOf R).c])]))) = R
  rw [m1 (by decide), m2, m1 (by decide), m1 (by decide), ← c5, ← e5, ← s5, ← e4, ← s4, ← e3, ← s3, ← e2, ← s2, ← s1]
theorem isBk_of {R : List RowB} {f : FunT} (h : TabR R f) {RS : List RowB} (hp : RS.Perm R) (hr : RS.Pairwise fun p q => lt3 p.1 q.1) (hl : R.length ≤ 1048576) (hc : f (5, 0, 0) ≠ []) : IsBk f (bkOf RS) := by
  have hw : ∀ r, r ∈ RS → RowWf r := fun r hr => h.wf r (hp.mem_iff.1 hr)
  have hm : ((5, 0, 0), f (5, 0, 0)) ∈ RS := hp.mem_iff.2 ((h.iff _ _).2 ⟨rfl, hc⟩)
  have e := rowsB_bkOf hr hw hm
  refine ⟨bkOf_in hw (by rw [hp.length_eq]; exact hl), by rw [e]; exact hr, fun k v => ?_⟩
  rw [e, hp.mem_iff, h.iff]
theorem bkV_cells (b : Bk) (A : BkA) : ∀ v, v ∈ bkV b A → v.oneCell' = true := by intro v hv; simp only [bkV, List.mem_cons, List.not_mem_nil, or_false] at hv; rcases hv with rfl | rfl | rfl | rfl | rfl <;> rfl
end Go.Proofs

/-
  Walks of layer 14: may a change be, its key, may changes be.
-/
namespace Go.Proofs
open Go Go.Eng
set_option maxRecDepth 100000
set_option maxHeartbeats 4000000
attribute [local irreducible] Tri

/-- The table of the program's text: how many values things of each list have. -/
def Tryd.Wid (w : World) : Prop := SlOk w (some ⟨0, 0, none⟩) (i64s [0, 3, 1, 5, 1, 1])
theorem Tryd.Wid.ext {w w' : World} (h : Tryd.Wid w) {m : List Nat} (he : Ext m w w') (hm : m = []) : Tryd.Wid w' := SlOk.ext h he (by subst hm; simp)
theorem Tryd.Wid.cell {w : World} (h : Tryd.Wid w) {l : Int} (h1 : 1 ≤ l) (h5 : l ≤ 5) : w.cell? ⟨0, 0 + l.toNat * 1, none⟩ = some (.int .i64 (widN l)) := by
  obtain ⟨b, o, e, hc⟩ := SlOk.get h (by simp [i64s])
  cases e
  have hl : l = 1 ∨ l = 2 ∨ l = 3 ∨ l = 4 ∨ l = 5 := by omega
  rw [Nat.mul_one]
  refine hc l.toNat _ ?_
  rcases hl with rfl | rfl | rfl | rfl | rfl <;> rfl
theorem RdW.i64At {S : Base} {bx : Bx} {hp : List Seg} {g o off : Nat} {v : List Int} (hc : ∀ j u, (i64s v)[j]? = some u → S.w0.cell? ⟨g, o + j, none⟩ = some u) (hm : g ∉ S.mods) {j : Nat} {x : Int} (hx : v[j]? = some x) (ho : off = o + j) : RdW S bx hp g off [.int .i64 x] :=
  RdW.base1 hm (by subst ho; exact hc j _ (by simp [i64s, hx]))
theorem nthI_of {v : List Int} {i : Nat} {x : Int} (h : v[i]? = some x) : nthI v i = x := by simp [nthI, h]

theorem Tryd.values_w (l : Int) (v : List Int) (a : Option Addr) (c : Nat) (w : World) (h1 : 1 ≤ l) (h5 : l ≤ 5) (hv : SlOk w a (i64s v)) (hW : Tryd.Wid w) :
    Fun Tryd.prog 92 [.int .i64 l, .slice a v.length c] w (.bool (valuesB l v)) := by
  refine Tri.enter (bx := []) (hp := []) Tryd.func92 rfl (by kernel_rfl) rfl (Own.nil w) ?_
  by_cases hn : v = []
  · subst hn
    rw [show valuesB l [] = !decide (l = 5) by simp [valuesB]]
    refine At.run 100 true [true] [] rfl (by (repeat' apply And.intro) <;> first | exact True.intro | omega | (simp only [inK]; omega) | (simp; done) | (simp; omega) | exact decide_eq_true (by omega) | exact decide_eq_false (by omega) | rfl | (simp [Value.oneCell']; done) | exact i64s_one _ | exact AggOk.mk (by kernel_rfl) (by kernel_rfl)) ?_
    exact At.retK [] [] [] rfl rfl Tryd.func92 rfl trivial ⟨rfl, rfl, rfl⟩
  have hpos : 0 < v.length := List.length_pos_iff.2 hn
  have hm : ∀ k, k ∉ (⟨w, kys [] []⟩ : Base).mods := by simp [kys]
  have rW : ∀ {bx : Bx} {hp : List Seg}, RdW ⟨w, kys [] []⟩ bx hp 0 (0 + l.toNat * 1) [.int .i64 (widN l)] := fun {_ _} => RdW.base1 (hm _) (Tryd.Wid.cell hW h1 h5)
  by_cases e1 : v.length = widN l
  · by_cases e3 : l = 3
    · have hl5 : v.length = 5 := by rw [e1, e3]; rfl
      obtain ⟨x, hx⟩ : ∃ x, v[2]? = some x := ⟨_, List.getElem?_eq_getElem (by omega)⟩
      obtain ⟨g, o, rfl, hc⟩ := hv.get (by simpa [i64s] using hn)
      have r2 : ∀ {bx : Bx} {hp : List Seg}, RdW ⟨w, kys [] []⟩ bx hp g (o + (2 : Int).toNat * 1) [.int .i64 x] := fun {_ _} => RdW.i64At hc (hm _) hx (by simp)
      by_cases z : x = 0
      · rw [show valuesB l v = true by simp [valuesB, hn, e1, e3, nthI_of hx, z]]
        refine At.run 100 true [false, true, false, true] [hR [.int .i64 (widN l)], hR [.int .i64 x]] rfl (by (repeat' apply And.intro) <;> first | exact rW | exact r2 | (simp [e1]; done) | (simp [e3]; done) | (simp [z]; done) | exact True.intro | omega | rfl | (simp only [inK]; omega) | exact decide_eq_true (by omega) | exact decide_eq_false (by omega) | (simp; done) | (simp; omega) | (simp [Value.oneCell']; done) | exact i64s_one _ | exact AggOk.mk (by kernel_rfl) (by kernel_rfl)) ?_
        exact At.retK [] [] [] rfl rfl Tryd.func92 rfl trivial ⟨rfl, rfl, rfl⟩
      · rw [show valuesB l v = decide (x = 1) by rw [valuesB, if_neg hn, nthI_of hx, decide_eq_true e1, decide_eq_false z, decide_eq_false (by simp [e3] : ¬ l ≠ 3)]; simp]
        refine At.run 100 true [false, true, false, false] [hR [.int .i64 (widN l)], hR [.int .i64 x], hR [.int .i64 x]] rfl (by (repeat' apply And.intro) <;> first | exact rW | exact r2 | (simp [e1]; done) | (simp [e3]; done) | (simp [z]; done) | exact True.intro | omega | rfl | (simp only [inK]; omega) | exact decide_eq_true (by omega) | exact decide_eq_false (by omega) | (simp; done) | (simp; omega) | (simp [Value.oneCell']; done) | exact i64s_one _ | exact AggOk.mk (by kernel_rfl) (by kernel_rfl)) ?_
        exact At.retK [] [] [] rfl rfl Tryd.func92 rfl trivial ⟨rfl, rfl, rfl⟩
    · rw [show valuesB l v = true by rw [valuesB, if_neg hn, decide_eq_true e1, decide_eq_true e3]; simp]
      refine At.run 100 true [false, true, true, true] [hR [.int .i64 (widN l)]] rfl (by (repeat' apply And.intro) <;> first | exact rW | (simp [e1]; done) | (simp [e3]; done) | exact True.intro | omega | rfl | (simp only [inK]; omega) | exact decide_eq_true (by omega) | exact decide_eq_false (by omega) | (simp; done) | (simp; omega) | (simp [Value.oneCell']; done) | exact i64s_one _ | exact AggOk.mk (by kernel_rfl) (by kernel_rfl)) ?_
      exact At.retK [] [] [] rfl rfl Tryd.func92 rfl trivial ⟨rfl, rfl, rfl⟩
  · rw [show valuesB l v = false by rw [valuesB, if_neg hn, decide_eq_false e1]; simp]
    refine At.run 100 true [false, false] [hR [.int .i64 (widN l)]] rfl (by (repeat' apply And.intro) <;> first | exact rW | (simp; omega) | exact True.intro | omega | rfl | (simp only [inK]; omega) | exact decide_eq_true (by omega) | exact decide_eq_false (by omega) | (simp; done) | (simp; omega) | (simp [Value.oneCell']; done) | exact i64s_one _ | exact AggOk.mk (by kernel_rfl) (by kernel_rfl)) ?_
    exact At.retK [] [] [] rfl rfl Tryd.func92 rfl trivial ⟨rfl, rfl, rfl⟩

theorem Tryd.key_w (e : ChE) (w : World) : Fun Tryd.prog 27 [.agg ⟨chC e⟩] w (key3 e.k) := by
  refine Tri.enter (bx := []) (hp := []) Tryd.func27 rfl (by kernel_rfl) rfl (Own.nil w) ?_
  refine At.run 100 true [] [] rfl trivial ?_
  refine At.step [] rfl rfl rfl rfl rfl trivial (OpOk.box rfl rfl rfl fun bq hbq => ?_)
  refine At.step [] rfl rfl rfl rfl rfl trivial (OpOk.alloc (cs := [.int .i64 0, .int .i64 0, .int .i64 0]) rfl (by kernel_rfl) fun b2 hb2 => ?_)
  refine At.run 100 true [] [hB 1, hB 1, hB 1, hB 0] rfl (by (repeat' apply And.intro) <;> first | exact i64s_one [_, _, _] | exact True.intro | omega | rfl | (simp only [inK]; omega) | exact decide_eq_true (by omega) | exact decide_eq_false (by omega) | (simp; done) | (simp; omega) | (simp [Value.oneCell']; done) | exact i64s_one _ | exact AggOk.mk (by kernel_rfl) (by kernel_rfl)) ?_
  exact At.retK [] [] [hB 0] rfl rfl Tryd.func27 rfl ⟨rfl, trivial⟩ ⟨rfl, rfl, rfl⟩

theorem mayC_no {e : ChP} (h : ¬ (1 ≤ e.1.1 ∧ e.1.1 ≤ 5 ∧ e.2.1 ≠ e.2.2 ∧ (e.1.1 ≠ 2 → e.1.2.2 = 0) ∧ (e.1.1 = 5 → e.1.2.1 = 0))) : mayC e = false := by unfold mayC; rw [decide_eq_false h]; rfl
theorem mayC_yes {e : ChP} (h : 1 ≤ e.1.1 ∧ e.1.1 ≤ 5 ∧ e.2.1 ≠ e.2.2 ∧ (e.1.1 ≠ 2 → e.1.2.2 = 0) ∧ (e.1.1 = 5 → e.1.2.1 = 0)) : mayC e = (valuesB e.1.1 e.2.1 && valuesB e.1.1 e.2.2) := by unfold mayC; rw [decide_eq_true h]; rfl

theorem Tryd.may14_w (e : ChE) (w : World) (h1 : SlOk w e.wa (i64s e.was)) (h2 : SlOk w e.ia (i64s e.is)) (l1 : e.was.length ≤ 1152921504606846976) (l2 : e.is.length ≤ 1152921504606846976) (hW : Tryd.Wid w) :
    Fun Tryd.prog 57 [.agg ⟨chC e⟩] w (.bool (mayC (chP e))) := by
  refine Tri.enter (bx := []) (hp := []) Tryd.func57 rfl (by kernel_rfl) rfl (Own.nil w) ?_
  refine At.run 100 true [] [] rfl trivial ?_
  refine At.step [] rfl rfl rfl rfl rfl trivial (OpOk.box rfl rfl rfl fun bq hbq => ?_)
  have hEq : ∀ {bx : Bx} {hp : List Seg}, CallOb Tryd.prog ⟨w, kys [] []⟩ bx hp 25 [.slice e.wa e.was.length e.wc, .slice e.ia e.is.length e.ic] (.bool (decide (e.was = e.is))) := fun {_ _} w' hw' => Tryd.equal_w _ _ _ _ _ _ w' (by omega) (by omega) (h1.ext hw'.ext (by simp [kys])) (h2.ext hw'.ext (by simp [kys]))
  by_cases c1 : e.k.1 < 1
  · rw [mayC_no (show ¬ _ from fun h => by have := h.1; simp only [chP] at this; omega)]
    refine At.run 100 true [true, true, true] [hB 0] rfl (by (repeat' apply And.intro) <;> first | exact True.intro | omega | (simp only [inK]; omega) | (simp; done) | (simp; omega) | exact decide_eq_true (by omega) | exact decide_eq_false (by omega) | rfl | (simp [Value.oneCell']; done) | exact i64s_one _ | exact AggOk.mk (by kernel_rfl) (by kernel_rfl)) ?_
    exact At.retK [] [] [] rfl rfl Tryd.func57 rfl trivial ⟨rfl, rfl, rfl⟩
  by_cases c5 : 5 < e.k.1
  · rw [mayC_no (show ¬ _ from fun h => by have := h.2.1; simp only [chP] at this; omega)]
    refine At.run 100 true [false, true, true] [hB 0, hB 0] rfl (by (repeat' apply And.intro) <;> first | exact True.intro | omega | (simp only [inK]; omega) | (simp; done) | (simp; omega) | exact decide_eq_true (by omega) | exact decide_eq_false (by omega) | rfl | (simp [Value.oneCell']; done) | exact i64s_one _ | exact AggOk.mk (by kernel_rfl) (by kernel_rfl)) ?_
    exact At.retK [] [] [] rfl rfl Tryd.func57 rfl trivial ⟨rfl, rfl, rfl⟩
  by_cases ce : e.was = e.is
  · rw [mayC_no (show ¬ _ from fun h => h.2.2.1 ce)]
    refine At.run 100 true [false, false, true] [hB 0, hB 0, hB 0, hB 0, hC (.bool (decide (e.was = e.is)))] rfl (by (repeat' apply And.intro) <;> first | exact hEq | (simp [ce]; done) | exact True.intro | omega | rfl | (simp only [inK]; omega) | exact decide_eq_true (by omega) | exact decide_eq_false (by omega) | (simp; done) | (simp; omega) | (simp [Value.oneCell']; done) | exact i64s_one _ | exact AggOk.mk (by kernel_rfl) (by kernel_rfl)) ?_
    exact At.retK [] [] [] rfl rfl Tryd.func57 rfl trivial ⟨rfl, rfl, rfl⟩
  have hV1 : ∀ {bx : Bx} {hp : List Seg}, CallOb Tryd.prog ⟨w, kys [] []⟩ bx hp 92 [.int .i64 e.k.1, .slice e.wa e.was.length e.wc] (.bool (valuesB e.k.1 e.was)) := fun {_ _} w' hw' => Tryd.values_w _ _ _ _ w' (by omega) (by omega) (h1.ext hw'.ext (by simp [kys])) (Tryd.Wid.ext hW hw'.ext (by simp [kys]))
  have hV2 : ∀ {bx : Bx} {hp : List Seg}, CallOb Tryd.prog ⟨w, kys [] []⟩ bx hp 92 [.int .i64 e.k.1, .slice e.ia e.is.length e.ic] (.bool (valuesB e.k.1 e.is)) := fun {_ _} w' hw' => Tryd.values_w _ _ _ _ w' (by omega) (by omega) (h2.ext hw'.ext (by simp [kys])) (Tryd.Wid.ext hW hw'.ext (by simp [kys]))
  by_cases cb : ¬ e.k.1 = 2 ∧ ¬ e.k.2.2 = 0
  · rw [mayC_no (show ¬ _ from fun h => cb.2 (h.2.2.2.1 cb.1))]
    refine At.run 100 true [false, false, false, true, true, false, false] [hB 0, hB 0, hB 0, hB 0, hC (.bool (decide (e.was = e.is))), hB 0, hB 0] rfl (by (repeat' apply And.intro) <;> first | exact hEq | (simp [ce]; done) | (simp [cb.1]; done) | (simp [cb.2]; done) | exact True.intro | omega | rfl | (simp only [inK]; omega) | exact decide_eq_true (by omega) | exact decide_eq_false (by omega) | (simp; done) | (simp; omega) | (simp [Value.oneCell']; done) | exact i64s_one _ | exact AggOk.mk (by kernel_rfl) (by kernel_rfl)) ?_
    exact At.retK [] [] [] rfl rfl Tryd.func57 rfl trivial ⟨rfl, rfl, rfl⟩
  by_cases ca : e.k.1 = 5 ∧ ¬ e.k.2.1 = 0
  · have cb2 : e.k.2.2 = 0 := Classical.byContradiction fun h => cb ⟨by omega, h⟩
    rw [mayC_no (show ¬ _ from fun h => ca.2 (h.2.2.2.2 ca.1))]
    refine At.run 100 true [false, false, false, true, false, true, false, false] [hB 0, hB 0, hB 0, hB 0, hC (.bool (decide (e.was = e.is))), hB 0, hB 0, hB 0, hB 0] rfl (by (repeat' apply And.intro) <;> first | exact hEq | (simp [ce]; done) | (simp [ca.1]; done) | (simp [ca.2]; done) | (simp [cb2]; done) | exact True.intro | omega | rfl | (simp only [inK]; omega) | exact decide_eq_true (by omega) | exact decide_eq_false (by omega) | (simp; done) | (simp; omega) | (simp [Value.oneCell']; done) | exact i64s_one _ | exact AggOk.mk (by kernel_rfl) (by kernel_rfl)) ?_
    exact At.retK [] [] [] rfl rfl Tryd.func57 rfl trivial ⟨rfl, rfl, rfl⟩
  have hyes : mayC (chP e) = (valuesB e.k.1 e.was && valuesB e.k.1 e.is) := mayC_yes ⟨by simp only [chP]; omega, by simp only [chP]; omega, ce, fun h => Classical.byContradiction fun h' => cb ⟨h, h'⟩, fun h => Classical.byContradiction fun h' => ca ⟨h, h'⟩⟩
  rw [hyes]
  cases hv1 : valuesB e.k.1 e.was with
  | false =>
    rw [hv1] at hV1
    rw [Bool.false_and]
    by_cases c2 : e.k.1 = 2
    · refine At.run 100 true [false, false, false, false, false, false, true, false] [hB 0, hB 0, hB 0, hB 0, hC (.bool (decide (e.was = e.is))), hB 0, hB 0, hB 0, hB 0, hC (.bool false)] rfl (by (repeat' apply And.intro) <;> first | exact hEq | exact hV1 | (simp [ce]; done) | (simp [c2]; done) | exact True.intro | omega | rfl | (simp only [inK]; omega) | exact decide_eq_true (by omega) | exact decide_eq_false (by omega) | (simp; done) | (simp; omega) | (simp [Value.oneCell']; done) | exact i64s_one _ | exact AggOk.mk (by kernel_rfl) (by kernel_rfl)) ?_
      exact At.retK [] [] [] rfl rfl Tryd.func57 rfl trivial ⟨rfl, rfl, rfl⟩
    · have cb2 : e.k.2.2 = 0 := Classical.byContradiction fun h => cb ⟨by omega, h⟩
      by_cases c5 : e.k.1 = 5
      · have ca2 : e.k.2.1 = 0 := Classical.byContradiction fun h => ca ⟨c5, h⟩
        refine At.run 100 true [false, false, false, true, false, true, true, false] [hB 0, hB 0, hB 0, hB 0, hC (.bool (decide (e.was = e.is))), hB 0, hB 0, hB 0, hB 0, hB 0, hB 0, hC (.bool false)] rfl (by (repeat' apply And.intro) <;> first | exact hEq | exact hV1 | (simp [ce]; done) | (simp [c2]; done) | (simp [c5]; done) | (simp [cb2]; done) | (simp [ca2]; done) | exact True.intro | omega | rfl | (simp only [inK]; omega) | exact decide_eq_true (by omega) | exact decide_eq_false (by omega) | (simp; done) | (simp; omega) | (simp [Value.oneCell']; done) | exact i64s_one _ | exact AggOk.mk (by kernel_rfl) (by kernel_rfl)) ?_
        exact At.retK [] [] [] rfl rfl Tryd.func57 rfl trivial ⟨rfl, rfl, rfl⟩
      · refine At.run 100 true [false, false, false, true, false, false, true, false] [hB 0, hB 0, hB 0, hB 0, hC (.bool (decide (e.was = e.is))), hB 0, hB 0, hB 0, hB 0, hB 0, hC (.bool false)] rfl (by (repeat' apply And.intro) <;> first | exact hEq | exact hV1 | (simp [ce]; done) | (simp [c2]; done) | (simp [c5]; done) | (simp [cb2]; done) | exact True.intro | omega | rfl | (simp only [inK]; omega) | exact decide_eq_true (by omega) | exact decide_eq_false (by omega) | (simp; done) | (simp; omega) | (simp [Value.oneCell']; done) | exact i64s_one _ | exact AggOk.mk (by kernel_rfl) (by kernel_rfl)) ?_
        exact At.retK [] [] [] rfl rfl Tryd.func57 rfl trivial ⟨rfl, rfl, rfl⟩
  | true =>
    rw [hv1] at hV1
    rw [Bool.true_and]
    by_cases c2 : e.k.1 = 2
    · refine At.run 100 true [false, false, false, false, false, false, true, true] [hB 0, hB 0, hB 0, hB 0, hC (.bool (decide (e.was = e.is))), hB 0, hB 0, hB 0, hB 0, hC (.bool true), hB 0, hB 0, hC (.bool (valuesB e.k.1 e.is))] rfl (by (repeat' apply And.intro) <;> first | exact hEq | exact hV1 | exact hV2 | (simp [ce]; done) | (simp [c2]; done) | exact True.intro | omega | rfl | (simp only [inK]; omega) | exact decide_eq_true (by omega) | exact decide_eq_false (by omega) | (simp; done) | (simp; omega) | (simp [Value.oneCell']; done) | exact i64s_one _ | exact AggOk.mk (by kernel_rfl) (by kernel_rfl)) ?_
      exact At.retK [] [] [] rfl rfl Tryd.func57 rfl trivial ⟨rfl, rfl, rfl⟩
    · have cb2 : e.k.2.2 = 0 := Classical.byContradiction fun h => cb ⟨by omega, h⟩
      by_cases c5 : e.k.1 = 5
      · have ca2 : e.k.2.1 = 0 := Classical.byContradiction fun h => ca ⟨c5, h⟩
        refine At.run 100 true [false, false, false, true, false, true, true, true] [hB 0, hB 0, hB 0, hB 0, hC (.bool (decide (e.was = e.is))), hB 0, hB 0, hB 0, hB 0, hB 0, hB 0, hC (.bool true), hB 0, hB 0, hC (.bool (valuesB e.k.1 e.is))] rfl (by (repeat' apply And.intro) <;> first | exact hEq | exact hV1 | exact hV2 | (simp [ce]; done) | (simp [c2]; done) | (simp [c5]; done) | (simp [cb2]; done) | (simp [ca2]; done) | exact True.intro | omega | rfl | (simp only [inK]; omega) | exact decide_eq_true (by omega) | exact decide_eq_false (by omega) | (simp; done) | (simp; omega) | (simp [Value.oneCell']; done) | exact i64s_one _ | exact AggOk.mk (by kernel_rfl) (by kernel_rfl)) ?_
        exact At.retK [] [] [] rfl rfl Tryd.func57 rfl trivial ⟨rfl, rfl, rfl⟩
      · refine At.run 100 true [false, false, false, true, false, false, true, true] [hB 0, hB 0, hB 0, hB 0, hC (.bool (decide (e.was = e.is))), hB 0, hB 0, hB 0, hB 0, hB 0, hC (.bool true), hB 0, hB 0, hC (.bool (valuesB e.k.1 e.is))] rfl (by (repeat' apply And.intro) <;> first | exact hEq | exact hV1 | exact hV2 | (simp [ce]; done) | (simp [c2]; done) | (simp [c5]; done) | (simp [cb2]; done) | exact True.intro | omega | rfl | (simp only [inK]; omega) | exact decide_eq_true (by omega) | exact decide_eq_false (by omega) | (simp; done) | (simp; omega) | (simp [Value.oneCell']; done) | exact i64s_one _ | exact AggOk.mk (by kernel_rfl) (by kernel_rfl)) ?_
        exact At.retK [] [] [] rfl rfl Tryd.func57 rfl trivial ⟨rfl, rfl, rfl⟩

theorem RdW.chE {S : Base} {bx : Bx} {hp : List Seg} {g o i : Nat} {L : List ChE} {e : ChE} (hc : ∀ j u, (L.flatMap chC)[j]? = some u → S.w0.cell? ⟨g, o + j, none⟩ = some u) (hm : g ∉ S.mods) (hx : L[i]? = some e) {off : Nat} (ho : off = o + i * 5) :
    RdW S bx hp g off (chC e) := RdW.sl (b := g) (o := o) (xs := L.flatMap chC) hc hm (i * 5) ho fun j u hu => flat_get (f := chC) (sz := 5) (fun _ _ => rfl) hx j u hu

theorem Tryd.right_w (L : List ChE) (a : Option Addr) (ca : Nat) (w : World) (hl : L.length ≤ 1000000000) (ha : SlOk w a (L.flatMap chC)) (hL : ChL w L) (hW : Tryd.Wid w) :
    Fun Tryd.prog 26 [.slice a L.length ca] w (.bool (rightB (L.map chP))) := by
  refine Tri.enter (bx := []) (hp := []) Tryd.func26 rfl (by kernel_rfl) rfl (Own.nil w) ?_
  refine At.run 100 true [] [] rfl (by (repeat' apply And.intro) <;> first | exact True.intro | omega | (simp only [inK]; omega) | (simp; done) | (simp; omega) | exact decide_eq_true (by omega) | exact decide_eq_false (by omega) | rfl | (simp [Value.oneCell']; done) | exact i64s_one _ | exact AggOk.mk (by kernel_rfl) (by kernel_rfl)) ?_
  refine At.loop (n := L.length) (env0 := [(0, .slice a L.length ca), (5, .slice a L.length ca), (6, .int .i64 L.length), (7, .int .i64 0)]) (fun m env bx hp => ∃ i : Nat, m = L.length - i ∧ i ≤ L.length ∧ (∀ j e, j < i → L[j]? = some e → mayC (chP e) = true) ∧ (∀ j d e, j + 1 < i → L[j]? = some d → L[j + 1]? = some e → lt3 d.k e.k) ∧
    env = [(0, .slice a L.length ca), (5, .slice a L.length ca), (6, .int .i64 L.length), (7, .int .i64 i)] ∧ bx = [] ∧ hp = []) rfl ⟨0, by simp, by omega, fun j e h => by omega, fun j d e h => by omega, rfl, rfl, rfl⟩ ⟨rfl, rfl, rfl, rfl, trivial⟩ ?_
  rintro m env bx hp ⟨i, rfl, hi, hok, hris, rfl, rfl, rfl⟩ ih
  by_cases hlt : i < L.length
  · obtain ⟨x, hx⟩ : ∃ x, L[i]? = some x := ⟨_, List.getElem?_eq_getElem hlt⟩
    have hxP : (L.map chP)[i]? = some (chP x) := by rw [List.getElem?_map, hx]; rfl
    obtain ⟨g, o, rfl, hc⟩ := ha.get (chC_ne hx)
    have hm : ∀ k, k ∉ (⟨w, kys [] []⟩ : Base).mods := by simp [kys]
    have rX : ∀ {bx : Bx} {hp : List Seg}, RdW ⟨w, kys [] []⟩ bx hp g (o + (i : Int).toNat * 5) (chC x) := fun {_ _} => RdW.chE hc (hm _) hx (by simp)
    obtain ⟨x1, x2, x3, x4⟩ := hL x (List.mem_of_getElem? hx)
    have hM : ∀ {bx : Bx} {hp : List Seg}, CallOb Tryd.prog ⟨w, kys [] []⟩ bx hp 57 [.agg ⟨chC x⟩] (.bool (mayC (chP x))) := fun {_ _} w' hw' => Tryd.may14_w x w' (x1.ext hw'.ext (by simp [kys])) (x2.ext hw'.ext (by simp [kys])) x3 x4 (Tryd.Wid.ext hW hw'.ext (by simp [kys]))
    refine At.run 100 true [true] [hR (chC x)] rfl (by (repeat' apply And.intro) <;> first | exact rX | exact True.intro | omega | rfl | (simp only [inK]; omega) | exact decide_eq_true (by omega) | exact decide_eq_false (by omega) | (simp; done) | (simp; omega) | (simp [Value.oneCell']; done) | exact i64s_one _ | exact AggOk.mk (by kernel_rfl) (by kernel_rfl)) ?_
    refine At.step [] rfl rfl rfl rfl rfl trivial (OpOk.alloc (cs := [.int .i64 0, .int .i64 0, .int .i64 0, .slice none 0 0, .slice none 0 0]) rfl (by kernel_rfl) fun b4 hb4 => ?_)
    refine At.run 100 true [] [hB 0] rfl (by (repeat' apply And.intro) <;> first | exact chC_one _ | exact True.intro | omega | rfl | (simp only [inK]; omega) | exact decide_eq_true (by omega) | exact decide_eq_false (by omega) | (simp; done) | (simp; omega) | (simp [Value.oneCell']; done) | exact i64s_one _ | exact AggOk.mk (by kernel_rfl) (by kernel_rfl)) ?_
    cases hmay : mayC (chP x) with
    | false =>
      rw [hmay] at hM
      rw [rightB_false (RightP.no1 hxP hmay)]
      refine At.quiet true [true] [hB 0, hC (.bool false)] ⟨by kernel_rfl, by kernel_rfl, rfl, rfl, rfl⟩ rfl rfl rfl (by (repeat' apply And.intro) <;> first | exact hM | exact True.intro | omega | rfl | (simp only [inK]; omega) | exact decide_eq_true (by omega) | exact decide_eq_false (by omega) | (simp; done) | (simp; omega) | (simp [Value.oneCell']; done) | exact i64s_one _ | exact AggOk.mk (by kernel_rfl) (by kernel_rfl)) ?_
      refine At.run 100 true [true] [] rfl (by (repeat' apply And.intro) <;> first | exact True.intro | omega | (simp only [inK]; omega) | (simp; done) | (simp; omega) | exact decide_eq_true (by omega) | exact decide_eq_false (by omega) | rfl | (simp [Value.oneCell']; done) | exact i64s_one _ | exact AggOk.mk (by kernel_rfl) (by kernel_rfl)) ?_
      exact At.retK [] [] [] rfl rfl Tryd.func26 rfl trivial ⟨rfl, rfl, rfl⟩
    | true =>
    rw [hmay] at hM
    have hok' : ∀ j e, j < i + 1 → L[j]? = some e → mayC (chP e) = true := fun j e hj he => by
      by_cases e2 : j = i
      · subst e2; rw [hx] at he; cases he; exact hmay
      · exact hok j e (by omega) he
    by_cases h0 : i = 0
    · subst h0
      refine At.quiet true [false, false] [hB 0, hC (.bool true)] ⟨by kernel_rfl, by kernel_rfl, rfl, rfl, rfl⟩ rfl rfl rfl (by (repeat' apply And.intro) <;> first | exact hM | exact True.intro | omega | rfl | (simp only [inK]; omega) | exact decide_eq_true (by omega) | exact decide_eq_false (by omega) | (simp; done) | (simp; omega) | (simp [Value.oneCell']; done) | exact i64s_one _ | exact AggOk.mk (by kernel_rfl) (by kernel_rfl)) ?_
      refine At.run 100 true [false] [] rfl (by (repeat' apply And.intro) <;> first | exact True.intro | omega | (simp only [inK]; omega) | (simp; done) | (simp; omega) | exact decide_eq_true (by omega) | exact decide_eq_false (by omega) | rfl | (simp [Value.oneCell']; done) | exact i64s_one _ | exact AggOk.mk (by kernel_rfl) (by kernel_rfl)) ?_
      refine At.keep [] [] rfl ?_
      exact At.weak (ih _ _ _ _ (by omega) ⟨0 + 1, rfl, by omega, hok', fun j d e h => by omega, rfl, rfl, rfl⟩) ⟨rfl, rfl, rfl, some_int_eq (by omega), trivial⟩
    · obtain ⟨i, rfl⟩ : ∃ i', i = i' + 1 := ⟨i - 1, by omega⟩
      obtain ⟨y, hy⟩ : ∃ y, L[i]? = some y := ⟨_, List.getElem?_eq_getElem (by omega)⟩
      have hyP : (L.map chP)[i]? = some (chP y) := by rw [List.getElem?_map, hy]; rfl
      have hi1 : (((i + 1 : Nat) : Int) - 1).toNat = i := by omega
      have rY : ∀ {bx : Bx} {hp : List Seg}, RdW ⟨w, kys [] []⟩ bx hp g (o + (((i + 1 : Nat) : Int) - 1).toNat * 5) (chC y) := fun {_ _} => RdW.chE hc (hm _) hy (by rw [hi1])
      have hK1 : ∀ {bx : Bx} {hp : List Seg}, CallOb Tryd.prog ⟨w, kys [] []⟩ bx hp 27 [.agg ⟨chC y⟩] (key3 y.k) := fun {_ _} w' _ => Tryd.key_w y w'
      have hK2 : ∀ {bx : Bx} {hp : List Seg}, CallOb Tryd.prog ⟨w, kys [] []⟩ bx hp 27 [.agg ⟨chC x⟩] (key3 x.k) := fun {_ _} w' _ => Tryd.key_w x w'
      have hA : ∀ {bx : Bx} {hp : List Seg}, CallOb Tryd.prog ⟨w, kys [] []⟩ bx hp 24 [key3 y.k, key3 x.k] (.int .i64 (cf3 y.k x.k)) := fun {_ _} w' _ => Tryd.ahead_w y.k x.k w'
      refine At.quiet true [false, true] [hB 0, hC (.bool true), hR (chC y), hC (key3 y.k), hB 0, hC (key3 x.k), hC (.int .i64 (cf3 y.k x.k))] ⟨by kernel_rfl, by kernel_rfl, rfl, rfl, rfl⟩ rfl rfl rfl (by (repeat' apply And.intro) <;> first | exact hM | exact rY | exact hK1 | exact hK2 | exact hA | exact True.intro | omega | rfl | (simp only [inK]; omega) | exact decide_eq_true (by omega) | exact decide_eq_false (by omega) | (simp; done) | (simp; omega) | (simp [Value.oneCell']; done) | exact i64s_one _ | exact AggOk.mk (by kernel_rfl) (by kernel_rfl)) ?_
      by_cases hc3 : lt3 y.k x.k
      · have hcf := cf3_lt.2 hc3
        refine At.run 100 true [false] [] rfl (by (repeat' apply And.intro) <;> first | exact True.intro | omega | (simp only [inK]; omega) | (simp; done) | (simp; omega) | exact decide_eq_true (by omega) | exact decide_eq_false (by omega) | rfl | (simp [Value.oneCell']; done) | exact i64s_one _ | exact AggOk.mk (by kernel_rfl) (by kernel_rfl)) ?_
        refine At.keep [] [] rfl ?_
        exact At.weak (ih _ _ _ _ (by omega) ⟨i + 1 + 1, rfl, by omega, hok', fun j d e hj hd he => by
          by_cases e2 : j = i
          · subst e2; rw [hy] at hd; rw [hx] at he; cases hd; cases he; exact hc3
          · exact hris j d e (by omega) hd he, rfl, rfl, rfl⟩) ⟨rfl, rfl, rfl, some_int_eq (by omega), trivial⟩
      · have hcf : ¬ cf3 y.k x.k < 0 := fun h => hc3 (cf3_lt.1 h)
        rw [rightB_false (RightP.no2 hyP hxP hc3)]
        refine At.run 100 true [true] [] rfl (by (repeat' apply And.intro) <;> first | exact True.intro | omega | (simp only [inK]; omega) | (simp; done) | (simp; omega) | exact decide_eq_true (by omega) | exact decide_eq_false (by omega) | rfl | (simp [Value.oneCell']; done) | exact i64s_one _ | exact AggOk.mk (by kernel_rfl) (by kernel_rfl)) ?_
        exact At.retK [] [] [] rfl rfl Tryd.func26 rfl trivial ⟨rfl, rfl, rfl⟩
  · have hie : i = L.length := by omega
    subst hie
    rw [rightB_true (RightP.of (fun j e he => by
      rw [List.getElem?_map] at he
      obtain ⟨x, hx, rfl⟩ := Option.map_eq_some_iff.1 he
      exact hok j x (List.getElem?_eq_some_iff.1 hx).1 hx) (fun j d e hd he => by
      rw [List.getElem?_map] at hd he
      obtain ⟨x, hx, rfl⟩ := Option.map_eq_some_iff.1 hd
      obtain ⟨y, hy, rfl⟩ := Option.map_eq_some_iff.1 he
      exact hris j x y (List.getElem?_eq_some_iff.1 hy).1 hx hy))]
    refine At.run 100 true [false] [] rfl (by (repeat' apply And.intro) <;> first | exact True.intro | omega | (simp only [inK]; omega) | (simp; done) | (simp; omega) | exact decide_eq_true (by omega) | exact decide_eq_false (by omega) | rfl | (simp [Value.oneCell']; done) | exact i64s_one _ | exact AggOk.mk (by kernel_rfl) (by kernel_rfl)) ?_
    exact At.retK [] [] [] rfl rfl Tryd.func26 rfl trivial ⟨rfl, rfl, rfl⟩
end Go.Proofs

/-
  Walks of layer 14: changes turned; are changes alike?
-/
namespace Go.Proofs
open Go Go.Eng
set_option maxRecDepth 100000
set_option maxHeartbeats 4000000
attribute [local irreducible] Tri

theorem slNone {w : World} {xs : List Value} (h : SlOk w none xs) : xs = [] := by
  rcases h with h | ⟨b, o, e, -⟩
  · exact h
  · cases e
theorem i64s_nil {v : List Int} (h : i64s v = []) : v = [] := by simpa [i64s] using h
theorem Tryd.clone64_w (v : List Int) (a : Option Addr) (c : Nat) (w : World) (hl : v.length ≤ 1000000) (hs : SlOk w a (i64s v)) :
    Tri Tryd.prog 29 [.slice a v.length c] w [] (fun r bx hp => bx = [] ∧ ∃ (g : Option Nat) (c' : Nat), r = sv g v.length c' ∧ hp = [Seg.row g 2 1 v.length c' (i64s v)]) := by
  refine Tri.enter (bx := []) (hp := []) Tryd.func29 rfl (by kernel_rfl) rfl (Own.nil w) ?_
  cases a with
  | none =>
    obtain rfl := i64s_nil (slNone hs)
    refine At.run 100 true [true] [] rfl (by (repeat' apply And.intro) <;> first | exact True.intro | omega | (simp only [inK]; omega) | (simp; done) | (simp; omega) | exact decide_eq_true (by omega) | exact decide_eq_false (by omega) | rfl | (simp [Value.oneCell']; done) | exact i64s_one _ | exact AggOk.mk (by kernel_rfl) (by kernel_rfl)) ?_
    refine At.nilRow 2 1 ?_
    exact At.ret [] rfl Tryd.func29 rfl trivial ⟨rfl, none, 0, rfl, rfl⟩
  | some ad =>
    refine At.run 100 true [false] [] rfl (by (repeat' apply And.intro) <;> first | exact True.intro | omega | (simp only [inK]; omega) | (simp; done) | (simp; omega) | exact decide_eq_true (by omega) | exact decide_eq_false (by omega) | rfl | (simp [Value.oneCell']; done) | exact i64s_one _ | exact AggOk.mk (by kernel_rfl) (by kernel_rfl)) ?_
    refine At.step [] rfl rfl rfl rfl rfl trivial (OpOk.buildNil rfl rfl rfl fun g hg => ?_)
    refine At.run 100 true [] [] rfl (by (repeat' apply And.intro) <;> first | exact True.intro | omega | (simp only [inK]; omega) | (simp; done) | (simp; omega) | exact decide_eq_true (by omega) | exact decide_eq_false (by omega) | rfl | (simp [Value.oneCell']; done) | exact i64s_one _ | exact AggOk.mk (by kernel_rfl) (by kernel_rfl)) ?_
    refine At.step [] rfl rfl rfl rfl rfl trivial (OpOk.appendS 0 1 8 (i64s v) rfl rfl rfl rfl rfl rfl rfl rfl (fun w' hw' => hs.ext hw'.ext (by simp [kys])) (by rw [i64s_len]; omega) (i64s_one v) (by omega) (by omega) (fun a' c' => ?_))
    rw [Nat.zero_add, List.nil_append]
    refine At.run 100 true [] [] rfl (by (repeat' apply And.intro) <;> first | exact True.intro | omega | (simp only [inK]; omega) | (simp; done) | (simp; omega) | exact decide_eq_true (by omega) | exact decide_eq_false (by omega) | rfl | (simp [Value.oneCell']; done) | exact i64s_one _ | exact AggOk.mk (by kernel_rfl) (by kernel_rfl)) ?_
    refine At.keep [] [true] rfl ?_
    exact At.ret [] rfl Tryd.func29 rfl trivial ⟨rfl, a', c', rfl, rfl⟩

/-- Changes whose lists lie in segments. -/
def ChA (ex : List Seg) (M : List ChE) : Prop := ∀ w, (∀ s, s ∈ ex → s.ok w) → ChL w M
def ChS (L : List ChE) : Prop := ∀ e, e ∈ L → e.was.length ≤ 1000000 ∧ e.is.length ≤ 1000000
theorem Tryd.Turn_w (L : List ChE) (a : Option Addr) (ca : Nat) (w : World) (hl : L.length ≤ 1000000) (ha : SlOk w a (L.flatMap chC)) (hL : ChL w L) (hS : ChS L) :
    Tri Tryd.prog 10 [.slice a L.length ca] w [] (fun v bx hp => bx = [] ∧ ∃ (M : List ChE) (g : Option Nat) (c : Nat) (ex : List Seg), M.map chP = (L.map chP).map turnP ∧ ChA ex M ∧ v = sv g M.length c ∧ hp = [Seg.row g 67 5 M.length c (M.flatMap chC), Seg.pack [] ex]) := by
  refine Tri.enter (bx := []) (hp := []) Tryd.func10 rfl (by kernel_rfl) rfl (Own.nil w) ?_
  refine At.run 100 true [] [] rfl (by (repeat' apply And.intro) <;> first | exact True.intro | omega | (simp only [inK]; omega) | (simp; done) | (simp; omega) | exact decide_eq_true (by omega) | exact decide_eq_false (by omega) | rfl | (simp [Value.oneCell']; done) | exact i64s_one _ | exact AggOk.mk (by kernel_rfl) (by kernel_rfl)) ?_
  refine At.reshape (fun w' hw' => WOk.freeze0 hw') ?_
  refine At.nilRow 67 5 ?_
  refine At.loop (n := L.length) (env0 := [(0, .slice a L.length ca), (3, sv none 0 0), (6, .slice a L.length ca), (7, .int .i64 L.length), (8, .int .i64 0)]) (fun m env bx hp => ∃ (i : Nat) (M : List ChE) (g : Option Nat) (c : Nat) (ex : List Seg), m = L.length - i ∧ i ≤ L.length ∧ M.length = i ∧ M.map chP = ((L.take i).map chP).map turnP ∧ ChA ex M ∧
    env = [(0, .slice a L.length ca), (3, sv g M.length c), (6, .slice a L.length ca), (7, .int .i64 L.length), (8, .int .i64 i)] ∧ bx = [] ∧ hp = [Seg.row g 67 5 M.length c (M.flatMap chC), Seg.pack [] ex]) rfl
    ⟨0, [], none, 0, [], by simp, by omega, rfl, rfl, (fun w _ e he => by cases he), rfl, rfl, rfl⟩ ⟨rfl, rfl, rfl, rfl, rfl, trivial⟩ ?_
  rintro m env bx hp ⟨i, M, g0, c0, ex, rfl, hi, hMl, hM, hA, rfl, rfl, rfl⟩ ih
  by_cases hlt : i < L.length
  · obtain ⟨e, hx⟩ : ∃ e, L[i]? = some e := ⟨_, List.getElem?_eq_getElem hlt⟩
    obtain ⟨g, o, rfl, hc⟩ := ha.get (chC_ne hx)
    have hm : ∀ k, k ∉ (⟨w, kys [] []⟩ : Base).mods := by simp [kys]
    have rX : ∀ {bx : Bx} {hp : List Seg}, RdW ⟨w, kys [] []⟩ bx hp g (o + (i : Int).toNat * 5) (chC e) := fun {_ _} => RdW.chE hc (hm _) hx (by simp)
    obtain ⟨x1, x2, x3, x4⟩ := hL e (List.mem_of_getElem? hx)
    obtain ⟨y1, y2⟩ := hS e (List.mem_of_getElem? hx)
    have hnx : L.take (i + 1) = L.take i ++ [e] := by rw [List.take_add_one, hx]; rfl
    refine At.run 100 true [true] [hR (chC e)] rfl (by (repeat' apply And.intro) <;> first | exact rX | exact True.intro | omega | rfl | (simp only [inK]; omega) | exact decide_eq_true (by omega) | exact decide_eq_false (by omega) | (simp; done) | (simp; omega) | (simp [Value.oneCell']; done) | exact i64s_one _ | exact AggOk.mk (by kernel_rfl) (by kernel_rfl)) ?_
    refine At.step [] rfl rfl rfl rfl rfl trivial (OpOk.alloc (cs := [.int .i64 0, .int .i64 0, .int .i64 0, .slice none 0 0, .slice none 0 0]) rfl (by kernel_rfl) fun b5 hb5 => ?_)
    refine At.run 100 true [] [hB 0] rfl (by (repeat' apply And.intro) <;> first | exact chC_one _ | exact True.intro | omega | rfl | (simp only [inK]; omega) | exact decide_eq_true (by omega) | exact decide_eq_false (by omega) | (simp; done) | (simp; omega) | (simp [Value.oneCell']; done) | exact i64s_one _ | exact AggOk.mk (by kernel_rfl) (by kernel_rfl)) ?_
    refine At.draw 10 rfl rfl rfl rfl ?_
    refine AtD.pures (ob := True) true (by kernel_rfl) [0, 3] (fuel := 8) (by kernel_rfl) rfl (by (repeat' apply And.intro) <;> first | exact True.intro | omega | (simp only [inK]; omega) | (simp; done) | (simp; omega) | exact decide_eq_true (by omega) | exact decide_eq_false (by omega) | rfl | (simp [Value.oneCell']; done) | exact i64s_one _ | exact AggOk.mk (by kernel_rfl) (by kernel_rfl)) ?_
    refine AtD.cutS (ι := Option Nat × Nat) 5 #[true, true, true, true, true, false, false, false, false, false]
      (fun q => [(14, sv q.1 e.is.length q.2), (16, .slice e.wa e.was.length e.wc), (5, .pointer (some ⟨b5, 0, none⟩)), (0, .slice (some ⟨g, o, none⟩) L.length ca), (3, sv g0 M.length c0), (6, .slice (some ⟨g, o, none⟩) L.length ca), (7, .int .i64 L.length), (8, .int .i64 i)]) (fun _ => [(b5, 67, chC e)])
      (fun q => [Seg.row q.1 2 1 e.is.length q.2 (i64s e.is), Seg.row g0 67 5 M.length c0 (M.flatMap chC), Seg.pack [] ex]) ?_ (fun hd => ?_)
    · rintro ⟨g1, c1⟩
      dsimp only
      refine AtD.pures (ob := True) true (by kernel_rfl) [6] (fuel := 4) (by kernel_rfl) rfl (by (repeat' apply And.intro) <;> first | exact True.intro | omega | (simp only [inK]; omega) | (simp; done) | (simp; omega) | exact decide_eq_true (by omega) | exact decide_eq_false (by omega) | rfl | (simp [Value.oneCell']; done) | exact i64s_one _ | exact AggOk.mk (by kernel_rfl) (by kernel_rfl)) ?_
      refine AtD.fork1 5 (by kernel_rfl) (StepD.by [] rfl rfl rfl rfl trivial (OpOk.call rfl (fun w' hw' => Tryd.clone64_w e.was e.wa e.wc w' y1 (x1.ext hw'.ext (by simp [kys]))) ?_))
      rintro v bx' hp' ⟨rfl, g2, c2, rfl, rfl⟩
      refine AtD.fork1 7 (by kernel_rfl) (StepD.by0 [] rfl rfl rfl trivial (OpOk.one true [] [hB 0] rfl (by (repeat' apply And.intro) <;> first | exact True.intro | omega | (simp only [inK]; omega) | (simp; done) | (simp; omega) | exact decide_eq_true (by omega) | exact decide_eq_false (by omega) | rfl | (simp [Value.oneCell']; done) | exact i64s_one _ | exact AggOk.mk (by kernel_rfl) (by kernel_rfl)) ?_))
      refine AtD.pures (ob := True) true (by kernel_rfl) [8] (fuel := 1) (by kernel_rfl) rfl (by (repeat' apply And.intro) <;> first | exact True.intro | omega | (simp only [inK]; omega) | (simp; done) | (simp; omega) | exact decide_eq_true (by omega) | exact decide_eq_false (by omega) | rfl | (simp [Value.oneCell']; done) | exact i64s_one _ | exact AggOk.mk (by kernel_rfl) (by kernel_rfl)) ?_
      refine AtD.fork1 9 (by kernel_rfl) (StepD.by0 [] rfl rfl rfl trivial (OpOk.one true [] [hB 0] rfl (by (repeat' apply And.intro) <;> first | exact True.intro | omega | (simp only [inK]; omega) | (simp; done) | (simp; omega) | exact decide_eq_true (by omega) | exact decide_eq_false (by omega) | rfl | (simp [Value.oneCell']; done) | exact i64s_one _ | exact AggOk.mk (by kernel_rfl) (by kernel_rfl)) ?_))
      refine AtD.done (by kernel_rfl) ?_
      let e' : ChE := ⟨e.k, e.is, svA g1, c1, e.was, svA g2, c2⟩
      refine At.run 100 true [] [hB 0] rfl (by (repeat' apply And.intro) <;> first | exact True.intro | omega | (simp only [inK]; omega) | (simp; done) | (simp; omega) | exact decide_eq_true (by omega) | exact decide_eq_false (by omega) | rfl | (simp [Value.oneCell']; done) | exact i64s_one _ | exact AggOk.mk (by kernel_rfl) (by kernel_rfl)) ?_
      refine At.step [] rfl rfl rfl rfl rfl trivial (OpOk.buildSlice rfl rfl rfl rfl rfl rfl rfl (fun bs hbs => ?_))
      refine At.run 100 true [] [] rfl (by (repeat' apply And.intro) <;> first | exact True.intro | omega | (simp only [inK]; omega) | (simp; done) | (simp; omega) | exact decide_eq_true (by omega) | exact decide_eq_false (by omega) | rfl | (simp [Value.oneCell']; done) | exact i64s_one _ | exact AggOk.mk (by kernel_rfl) (by kernel_rfl)) ?_
      refine At.order (br := [(bs, 67, chC e'), (b5, 67, chC e')]) (hr := [Seg.row g0 67 5 M.length c0 (M.flatMap chC), Seg.row g2 2 1 e.was.length c2 (i64s e.was), Seg.row g1 2 1 e.is.length c1 (i64s e.is), Seg.pack [] ex]) [] [2] rfl rfl ?_
      refine At.step [] rfl rfl rfl rfl rfl trivial (OpOk.append 0 5 72 (chC e') rfl rfl rfl rfl rfl rfl rfl (RdW.blk0 (i := 0) rfl) rfl (chC_one _) (by omega) (by omega) fun g3 c3 => ?_)
      refine At.run 100 true [] [] rfl (by (repeat' apply And.intro) <;> first | exact True.intro | omega | (simp only [inK]; omega) | (simp; done) | (simp; omega) | exact decide_eq_true (by omega) | exact decide_eq_false (by omega) | rfl | (simp [Value.oneCell']; done) | exact i64s_one _ | exact AggOk.mk (by kernel_rfl) (by kernel_rfl)) ?_
      refine At.keep [] [true, true, true, true] rfl ?_
      refine At.order (br := []) (hr := [Seg.row g1 2 1 e.is.length c1 (i64s e.is), Seg.pack [] ex, Seg.row g3 67 5 (M.length + 1) c3 (M.flatMap chC ++ chC e'), Seg.row g2 2 1 e.was.length c2 (i64s e.was)]) [] [3, 3] rfl rfl ?_
      refine At.reshape (fun w' hw' => WOk.freeze hw') ?_
      refine At.order (br := []) (hr := [Seg.row g2 2 1 e.was.length c2 (i64s e.was), Seg.pack [] (Seg.row g1 2 1 e.is.length c1 (i64s e.is) :: ex), Seg.row g3 67 5 (M.length + 1) c3 (M.flatMap chC ++ chC e')]) [] [2] rfl rfl ?_
      refine At.reshape (fun w' hw' => WOk.freeze hw') ?_
      refine At.order (br := []) (hr := [Seg.row g3 67 5 (M.length + 1) c3 (M.flatMap chC ++ chC e'), Seg.pack [] (Seg.row g2 2 1 e.was.length c2 (i64s e.was) :: Seg.row g1 2 1 e.is.length c1 (i64s e.is) :: ex)]) [] [1] rfl rfl ?_
      have hA' : ChA (Seg.row g2 2 1 e.was.length c2 (i64s e.was) :: Seg.row g1 2 1 e.is.length c1 (i64s e.is) :: ex) (M ++ [e']) := by
        intro w' hs d hd
        rcases List.mem_append.1 hd with hd | hd
        · exact hA w' (fun s hsm => hs s (by simp [hsm])) d hd
        · rw [List.mem_singleton] at hd
          subst hd
          exact ⟨SlOk.row (hs (Seg.row g1 2 1 e.is.length c1 (i64s e.is)) (by simp)), SlOk.row (hs (Seg.row g2 2 1 e.was.length c2 (i64s e.was)) (by simp)), x4, x3⟩
      have hMl' : (M ++ [e']).length = i + 1 := by rw [List.length_append, hMl]; rfl
      have ih := ih _ _ _ _ (by omega) ⟨i + 1, M ++ [e'], g3, c3, _, rfl, by omega, hMl', by rw [hnx, List.map_append, List.map_append, List.map_append, hM]; rfl, hA', rfl, rfl, rfl⟩
      simp only [List.length_append, List.length_singleton, List.flatMap_append, List.flatMap_singleton] at ih
      exact At.weak ih ⟨rfl, rfl, rfl, rfl, some_int_eq (by omega), trivial⟩
    have hcl : ∀ {bx : Bx} {hp : List Seg} {w' : World}, WOk ⟨w, kys [] []⟩ bx hp w' → _ := fun {_ _ w'} hw' => Tryd.clone64_w e.is e.ia e.ic w' y2 (x2.ext hw'.ext (by simp [kys]))
    refine AtD.fork2 1 4 (by kernel_rfl) ?_ ?_
    · refine StepD.by [] rfl rfl rfl rfl trivial (OpOk.one true [] [hB 0] rfl (by (repeat' apply And.intro) <;> first | exact True.intro | omega | (simp only [inK]; omega) | (simp; done) | (simp; omega) | exact decide_eq_true (by omega) | exact decide_eq_false (by omega) | rfl | (simp [Value.oneCell']; done) | exact i64s_one _ | exact AggOk.mk (by kernel_rfl) (by kernel_rfl)) ?_)
      refine AtD.fork2 2 4 (by kernel_rfl) ?_ ?_
      · refine StepD.by [] rfl rfl rfl rfl trivial (OpOk.call rfl (fun w' hw' => hcl hw') ?_)
        rintro v bx' hp' ⟨rfl, g1, c1, rfl, rfl⟩
        refine AtD.fork1 4 (by kernel_rfl) (StepD.by [] rfl rfl rfl rfl trivial (OpOk.one true [] [hB 0] rfl (by (repeat' apply And.intro) <;> first | exact True.intro | omega | (simp only [inK]; omega) | (simp; done) | (simp; omega) | exact decide_eq_true (by omega) | exact decide_eq_false (by omega) | rfl | (simp [Value.oneCell']; done) | exact i64s_one _ | exact AggOk.mk (by kernel_rfl) (by kernel_rfl)) ?_))
        exact AtD.weak (hd ⟨g1, c1⟩) ⟨rfl, rfl, rfl, rfl, rfl, rfl, rfl, rfl, trivial⟩
      · refine StepD.by [] rfl rfl rfl rfl trivial (OpOk.one true [] [hB 0] rfl (by (repeat' apply And.intro) <;> first | exact True.intro | omega | (simp only [inK]; omega) | (simp; done) | (simp; omega) | exact decide_eq_true (by omega) | exact decide_eq_false (by omega) | rfl | (simp [Value.oneCell']; done) | exact i64s_one _ | exact AggOk.mk (by kernel_rfl) (by kernel_rfl)) ?_)
        refine AtD.fork1 2 (by kernel_rfl) (StepD.by [] rfl rfl rfl rfl trivial (OpOk.call rfl (fun w' hw' => hcl hw') ?_))
        rintro v bx' hp' ⟨rfl, g1, c1, rfl, rfl⟩
        exact AtD.weak (hd ⟨g1, c1⟩) ⟨rfl, rfl, rfl, rfl, rfl, rfl, rfl, rfl, trivial⟩
    · refine StepD.by [] rfl rfl rfl rfl trivial (OpOk.one true [] [hB 0] rfl (by (repeat' apply And.intro) <;> first | exact True.intro | omega | (simp only [inK]; omega) | (simp; done) | (simp; omega) | exact decide_eq_true (by omega) | exact decide_eq_false (by omega) | rfl | (simp [Value.oneCell']; done) | exact i64s_one _ | exact AggOk.mk (by kernel_rfl) (by kernel_rfl)) ?_)
      refine AtD.fork1 1 (by kernel_rfl) (StepD.by [] rfl rfl rfl rfl trivial (OpOk.one true [] [hB 0] rfl (by (repeat' apply And.intro) <;> first | exact True.intro | omega | (simp only [inK]; omega) | (simp; done) | (simp; omega) | exact decide_eq_true (by omega) | exact decide_eq_false (by omega) | rfl | (simp [Value.oneCell']; done) | exact i64s_one _ | exact AggOk.mk (by kernel_rfl) (by kernel_rfl)) ?_))
      refine AtD.fork1 2 (by kernel_rfl) (StepD.by [] rfl rfl rfl rfl trivial (OpOk.call rfl (fun w' hw' => hcl hw') ?_))
      rintro v bx' hp' ⟨rfl, g1, c1, rfl, rfl⟩
      exact AtD.weak (hd ⟨g1, c1⟩) ⟨rfl, rfl, rfl, rfl, rfl, rfl, rfl, rfl, trivial⟩
  · have hie : i = L.length := by omega
    subst hie
    rw [List.take_length] at hM
    refine At.run 100 true [false] [] rfl (by (repeat' apply And.intro) <;> first | exact True.intro | omega | (simp only [inK]; omega) | (simp; done) | (simp; omega) | exact decide_eq_true (by omega) | exact decide_eq_false (by omega) | rfl | (simp [Value.oneCell']; done) | exact i64s_one _ | exact AggOk.mk (by kernel_rfl) (by kernel_rfl)) ?_
    exact At.ret [] rfl Tryd.func10 rfl trivial ⟨rfl, M, g0, c0, ex, hM, hA, rfl, rfl⟩

theorem Tryd.same1_w (x y : ChE) (w : World) (x1 : SlOk w x.wa (i64s x.was)) (x2 : SlOk w x.ia (i64s x.is)) (x3 : x.was.length ≤ 1152921504606846976) (x4 : x.is.length ≤ 1152921504606846976) (y1 : SlOk w y.wa (i64s y.was)) (y2 : SlOk w y.ia (i64s y.is)) (y3 : y.was.length ≤ 1152921504606846976) (y4 : y.is.length ≤ 1152921504606846976) :
    Fun Tryd.prog 31 [.agg ⟨chC x⟩, .agg ⟨chC y⟩] w (.bool (decide (chP x = chP y))) := by
  refine Tri.enter (bx := []) (hp := []) Tryd.func31 rfl (by kernel_rfl) rfl (Own.nil w) ?_
  refine At.run 100 true [] [] rfl trivial ?_
  refine At.step [] rfl rfl rfl rfl rfl trivial (OpOk.box rfl rfl rfl fun bq hbq => ?_)
  refine At.step [] rfl rfl rfl rfl rfl trivial (OpOk.box rfl rfl rfl fun b3 hb3 => ?_)
  have hC1 : ∀ {bx : Bx} {hp : List Seg}, CallOb Tryd.prog ⟨w, kys [] []⟩ bx hp 32 [.int .i64 x.k.2.1, .int .i64 y.k.2.1] (.int .i64 (cmpI x.k.2.1 y.k.2.1)) := fun {_ _} w' _ => Tryd.compare_w _ _ w'
  have hC2 : ∀ {bx : Bx} {hp : List Seg}, CallOb Tryd.prog ⟨w, kys [] []⟩ bx hp 32 [.int .i64 x.k.2.2, .int .i64 y.k.2.2] (.int .i64 (cmpI x.k.2.2 y.k.2.2)) := fun {_ _} w' _ => Tryd.compare_w _ _ w'
  have hE1 : ∀ {bx : Bx} {hp : List Seg}, CallOb Tryd.prog ⟨w, kys [] []⟩ bx hp 25 [.slice x.wa x.was.length x.wc, .slice y.wa y.was.length y.wc] (.bool (decide (x.was = y.was))) := fun {_ _} w' hw' => Tryd.equal_w _ _ _ _ _ _ w' (by omega) (by omega) (x1.ext hw'.ext (by simp [kys])) (y1.ext hw'.ext (by simp [kys]))
  have hE2 : ∀ {bx : Bx} {hp : List Seg}, CallOb Tryd.prog ⟨w, kys [] []⟩ bx hp 25 [.slice x.ia x.is.length x.ic, .slice y.ia y.is.length y.ic] (.bool (decide (x.is = y.is))) := fun {_ _} w' hw' => Tryd.equal_w _ _ _ _ _ _ w' (by omega) (by omega) (x2.ext hw'.ext (by simp [kys])) (y2.ext hw'.ext (by simp [kys]))
  have q1 := @cmpI_eq x.k.2.1 y.k.2.1
  have q2 := @cmpI_eq x.k.2.2 y.k.2.2
  by_cases e0 : x.k.1 = y.k.1
  · by_cases e1 : x.k.2.1 = y.k.2.1
    · have q1 := q1.2 e1
      by_cases e2 : x.k.2.2 = y.k.2.2
      · have q2 := q2.2 e2
        by_cases e3 : x.was = y.was
        · have e : decide (chP x = chP y) = decide (x.is = y.is) := by
            rw [decide_eq_decide]
            constructor
            · intro h; exact congrArg (fun p => p.2.2) h
            · intro h; rw [chP, chP, e3, h, Prod.ext (x := x.k) (y := y.k) e0 (Prod.ext e1 e2)]
          rw [e]
          refine At.run 100 true [true, true, true, true] [hB 1, hB 0, hB 1, hB 0, hC (.int .i64 (cmpI x.k.2.1 y.k.2.1)), hB 1, hB 0, hC (.int .i64 (cmpI x.k.2.2 y.k.2.2)), hB 1, hB 0, hC (.bool (decide (x.was = y.was))), hB 1, hB 0, hC (.bool (decide (x.is = y.is)))] rfl (by (repeat' apply And.intro) <;> first | exact hC1 | exact hC2 | exact hE1 | exact hE2 | (simp [e0, q1, q2, e3]; done) | exact True.intro | omega | rfl | (simp only [inK]; omega) | exact decide_eq_true (by omega) | exact decide_eq_false (by omega) | (simp; done) | (simp; omega) | (simp [Value.oneCell']; done) | exact i64s_one _ | exact AggOk.mk (by kernel_rfl) (by kernel_rfl)) ?_
          exact At.retK [] [] [] rfl rfl Tryd.func31 rfl trivial ⟨rfl, rfl, rfl⟩
        · rw [decide_eq_false fun h : chP x = chP y => e3 (congrArg (fun p => p.2.1) h)]
          refine At.run 100 true [true, true, true, false] [hB 1, hB 0, hB 1, hB 0, hC (.int .i64 (cmpI x.k.2.1 y.k.2.1)), hB 1, hB 0, hC (.int .i64 (cmpI x.k.2.2 y.k.2.2)), hB 1, hB 0, hC (.bool (decide (x.was = y.was)))] rfl (by (repeat' apply And.intro) <;> first | exact hC1 | exact hC2 | exact hE1 | exact hE2 | (simp [e0, q1, q2, e3]; done) | exact True.intro | omega | rfl | (simp only [inK]; omega) | exact decide_eq_true (by omega) | exact decide_eq_false (by omega) | (simp; done) | (simp; omega) | (simp [Value.oneCell']; done) | exact i64s_one _ | exact AggOk.mk (by kernel_rfl) (by kernel_rfl)) ?_
          exact At.retK [] [] [] rfl rfl Tryd.func31 rfl trivial ⟨rfl, rfl, rfl⟩
      · have q2 := fun h => e2 (q2.1 h)
        rw [decide_eq_false fun h : chP x = chP y => e2 (congrArg (fun p => p.1.2.2) h)]
        refine At.run 100 true [true, true, false, false] [hB 1, hB 0, hB 1, hB 0, hC (.int .i64 (cmpI x.k.2.1 y.k.2.1)), hB 1, hB 0, hC (.int .i64 (cmpI x.k.2.2 y.k.2.2))] rfl (by (repeat' apply And.intro) <;> first | exact hC1 | exact hC2 | (simp [e0, q1, q2]; done) | exact True.intro | omega | rfl | (simp only [inK]; omega) | exact decide_eq_true (by omega) | exact decide_eq_false (by omega) | (simp; done) | (simp; omega) | (simp [Value.oneCell']; done) | exact i64s_one _ | exact AggOk.mk (by kernel_rfl) (by kernel_rfl)) ?_
        exact At.retK [] [] [] rfl rfl Tryd.func31 rfl trivial ⟨rfl, rfl, rfl⟩
    · have q1 := fun h => e1 (q1.1 h)
      rw [decide_eq_false fun h : chP x = chP y => e1 (congrArg (fun p => p.1.2.1) h)]
      refine At.run 100 true [true, false, false, false] [hB 1, hB 0, hB 1, hB 0, hC (.int .i64 (cmpI x.k.2.1 y.k.2.1))] rfl (by (repeat' apply And.intro) <;> first | exact hC1 | (simp [e0, q1]; done) | exact True.intro | omega | rfl | (simp only [inK]; omega) | exact decide_eq_true (by omega) | exact decide_eq_false (by omega) | (simp; done) | (simp; omega) | (simp [Value.oneCell']; done) | exact i64s_one _ | exact AggOk.mk (by kernel_rfl) (by kernel_rfl)) ?_
      exact At.retK [] [] [] rfl rfl Tryd.func31 rfl trivial ⟨rfl, rfl, rfl⟩
  · rw [decide_eq_false fun h : chP x = chP y => e0 (congrArg (fun p => p.1.1) h)]
    refine At.run 100 true [false, false, false, false] [hB 1, hB 0] rfl (by (repeat' apply And.intro) <;> first | (simp [e0]; done) | exact True.intro | omega | rfl | (simp only [inK]; omega) | exact decide_eq_true (by omega) | exact decide_eq_false (by omega) | (simp; done) | (simp; omega) | (simp [Value.oneCell']; done) | exact i64s_one _ | exact AggOk.mk (by kernel_rfl) (by kernel_rfl)) ?_
    exact At.retK [] [] [] rfl rfl Tryd.func31 rfl trivial ⟨rfl, rfl, rfl⟩

theorem Tryd.equalF_w (L M : List ChE) (a b : Option Addr) (ca cb : Nat) (w : World) (hl : L.length ≤ 1000000000) (hm : M.length ≤ 1000000000) (ha : SlOk w a (L.flatMap chC)) (hb : SlOk w b (M.flatMap chC)) (hva : ChL w L) (hvb : ChL w M) :
    Fun Tryd.prog 30 [.slice a L.length ca, .slice b M.length cb, .func (.func 31) ⟨[]⟩ ⟨[]⟩] w (.bool (decide (L.map chP = M.map chP))) := by
  refine Tri.enter (bx := []) (hp := []) Tryd.func30 rfl (by kernel_rfl) rfl (Own.nil w) ?_
  by_cases hlen : L.length = M.length
  · refine At.run 100 true [false] [] rfl (by (repeat' apply And.intro) <;> first | (simp [hlen]; done) | exact True.intro | omega | rfl | (simp only [inK]; omega) | exact decide_eq_true (by omega) | exact decide_eq_false (by omega) | (simp; done) | (simp; omega) | (simp [Value.oneCell']; done) | exact i64s_one _ | exact AggOk.mk (by kernel_rfl) (by kernel_rfl)) ?_
    refine At.loop (n := L.length) (env0 := [(0, .slice a L.length ca), (1, .slice b M.length cb), (2, .func (.func 31) ⟨[]⟩ ⟨[]⟩), (15, .slice a L.length ca), (16, .int .i64 L.length), (17, .int .i64 0)]) (fun m env bx hp => ∃ i : Nat, m = L.length - i ∧ i ≤ L.length ∧ (L.map chP).take i = (M.map chP).take i ∧
      env = [(0, .slice a L.length ca), (1, .slice b M.length cb), (2, .func (.func 31) ⟨[]⟩ ⟨[]⟩), (15, .slice a L.length ca), (16, .int .i64 L.length), (17, .int .i64 i)] ∧ bx = [] ∧ hp = []) rfl ⟨0, by simp, by omega, by simp, rfl, rfl, rfl⟩ ⟨rfl, rfl, rfl, rfl, rfl, rfl, trivial⟩ ?_
    rintro m env bx hp ⟨i, rfl, hi, htk, rfl, rfl, rfl⟩ ih
    by_cases hlt : i < L.length
    · obtain ⟨x, hx⟩ : ∃ x, L[i]? = some x := ⟨_, List.getElem?_eq_getElem hlt⟩
      obtain ⟨y, hy⟩ : ∃ y, M[i]? = some y := ⟨_, List.getElem?_eq_getElem (by omega)⟩
      obtain ⟨g, o, rfl, hc⟩ := ha.get (chC_ne hx)
      obtain ⟨g2, o2, rfl, hc2⟩ := hb.get (chC_ne hy)
      have hmm : ∀ k, k ∉ (⟨w, kys [] []⟩ : Base).mods := by simp [kys]
      have rX : ∀ {bx : Bx} {hp : List Seg}, RdW ⟨w, kys [] []⟩ bx hp g (o + (i : Int).toNat * 5) (chC x) := fun {_ _} => RdW.chE hc (hmm _) hx (by simp)
      have rY : ∀ {bx : Bx} {hp : List Seg}, RdW ⟨w, kys [] []⟩ bx hp g2 (o2 + (i : Int).toNat * 5) (chC y) := fun {_ _} => RdW.chE hc2 (hmm _) hy (by simp)
      obtain ⟨x1, x2, x3, x4⟩ := hva x (List.mem_of_getElem? hx)
      obtain ⟨y1, y2, y3, y4⟩ := hvb y (List.mem_of_getElem? hy)
      have hcb : ∀ {bx : Bx} {hp : List Seg}, CallOb Tryd.prog ⟨w, kys [] []⟩ bx hp 31 (allArgs [] [.agg ⟨chC x⟩, .agg ⟨chC y⟩] []) (.bool (decide (chP x = chP y))) := fun {_ _} w' hw' => by
        rw [allArgs_eq]
        exact Tryd.same1_w x y w' (x1.ext hw'.ext (by simp [kys])) (x2.ext hw'.ext (by simp [kys])) x3 x4 (y1.ext hw'.ext (by simp [kys])) (y2.ext hw'.ext (by simp [kys])) y3 y4
      refine At.run 100 true [true] [hR (chC x)] rfl (by (repeat' apply And.intro) <;> first | exact rX | exact True.intro | omega | rfl | (simp only [inK]; omega) | exact decide_eq_true (by omega) | exact decide_eq_false (by omega) | (simp; done) | (simp; omega) | (simp [Value.oneCell']; done) | exact i64s_one _ | exact AggOk.mk (by kernel_rfl) (by kernel_rfl)) ?_
      refine At.step [] rfl rfl rfl rfl rfl trivial (OpOk.alloc (cs := [.int .i64 0, .int .i64 0, .int .i64 0, .slice none 0 0, .slice none 0 0]) rfl (by kernel_rfl) fun b8 hb8 => ?_)
      refine At.run 100 true [] [hB 0, hR (chC y)] rfl (by (repeat' apply And.intro) <;> first | exact rY | exact chC_one _ | exact True.intro | omega | rfl | (simp only [inK]; omega) | exact decide_eq_true (by omega) | exact decide_eq_false (by omega) | (simp; done) | (simp; omega) | (simp [Value.oneCell']; done) | exact i64s_one _ | exact AggOk.mk (by kernel_rfl) (by kernel_rfl)) ?_
      refine At.step [] rfl rfl rfl rfl rfl trivial (OpOk.alloc (cs := [.int .i64 0, .int .i64 0, .int .i64 0, .slice none 0 0, .slice none 0 0]) rfl (by kernel_rfl) fun b9 hb9 => ?_)
      by_cases hxy : chP x = chP y
      · refine At.run 100 true [false] [hB 0, hB 1, hB 0, hC (.bool (decide (chP x = chP y)))] rfl (by (repeat' apply And.intro) <;> first | exact hcb | exact chC_one _ | (simp [hxy]; done) | exact True.intro | omega | rfl | (simp only [inK]; omega) | exact decide_eq_true (by omega) | exact decide_eq_false (by omega) | (simp; done) | (simp; omega) | (simp [Value.oneCell']; done) | exact i64s_one _ | exact AggOk.mk (by kernel_rfl) (by kernel_rfl)) ?_
        refine At.keep [] [] rfl ?_
        exact At.weak (ih _ _ _ _ (by omega) ⟨i + 1, rfl, by omega, by rw [List.take_add_one, List.take_add_one, List.getElem?_map, List.getElem?_map, hx, hy, htk, Option.map_some, Option.map_some, hxy], rfl, rfl, rfl⟩) ⟨rfl, rfl, rfl, rfl, rfl, some_int_eq (by omega), trivial⟩
      · have hne : L.map chP ≠ M.map chP := by
          intro e
          have e' := congrArg (fun l => l[i]?) e
          simp only [List.getElem?_map, hx, hy, Option.map_some, Option.some.injEq] at e'
          exact hxy e'
        rw [decide_eq_false hne]
        refine At.run 100 true [true] [hB 0, hB 1, hB 0, hC (.bool (decide (chP x = chP y)))] rfl (by (repeat' apply And.intro) <;> first | exact hcb | exact chC_one _ | (simp [hxy]; done) | exact True.intro | omega | rfl | (simp only [inK]; omega) | exact decide_eq_true (by omega) | exact decide_eq_false (by omega) | (simp; done) | (simp; omega) | (simp [Value.oneCell']; done) | exact i64s_one _ | exact AggOk.mk (by kernel_rfl) (by kernel_rfl)) ?_
        exact At.retK [] [] [] rfl rfl Tryd.func30 rfl trivial ⟨rfl, rfl, rfl⟩
    · have he : L.map chP = M.map chP := by
        rw [List.take_of_length_le (by simp; omega), List.take_of_length_le (by simp; omega)] at htk; exact htk
      rw [decide_eq_true he]
      refine At.run 100 true [false] [] rfl (by (repeat' apply And.intro) <;> first | exact True.intro | omega | (simp only [inK]; omega) | (simp; done) | (simp; omega) | exact decide_eq_true (by omega) | exact decide_eq_false (by omega) | rfl | (simp [Value.oneCell']; done) | exact i64s_one _ | exact AggOk.mk (by kernel_rfl) (by kernel_rfl)) ?_
      exact At.retK [] [] [] rfl rfl Tryd.func30 rfl trivial ⟨rfl, rfl, rfl⟩
  · have hne : L.map chP ≠ M.map chP := fun e => hlen (by simpa using congrArg List.length e)
    rw [decide_eq_false hne]
    refine At.run 100 true [true] [] rfl (by (repeat' apply And.intro) <;> first | (simp; omega) | exact True.intro | omega | rfl | (simp only [inK]; omega) | exact decide_eq_true (by omega) | exact decide_eq_false (by omega) | (simp; done) | (simp; omega) | (simp [Value.oneCell']; done) | exact i64s_one _ | exact AggOk.mk (by kernel_rfl) (by kernel_rfl)) ?_
    exact At.retK [] [] [] rfl rfl Tryd.func30 rfl trivial ⟨rfl, rfl, rfl⟩

theorem Tryd.same14_w (L M : List ChE) (a b : Option Addr) (ca cb : Nat) (w : World) (hl : L.length ≤ 1000000000) (hm : M.length ≤ 1000000000) (ha : SlOk w a (L.flatMap chC)) (hb : SlOk w b (M.flatMap chC)) (hva : ChL w L) (hvb : ChL w M) :
    Fun Tryd.prog 12 [.slice a L.length ca, .slice b M.length cb] w (.bool (decide (L.map chP = M.map chP))) := by
  refine Tri.enter (bx := []) (hp := []) Tryd.func12 rfl (by kernel_rfl) rfl (Own.nil w) ?_
  have hE : ∀ {bx : Bx} {hp : List Seg}, CallOb Tryd.prog ⟨w, kys [] []⟩ bx hp 30 [.slice a L.length ca, .slice b M.length cb, .func (.func 31) ⟨[]⟩ ⟨[]⟩] (.bool (decide (L.map chP = M.map chP))) := fun {_ _} w' hw' =>
    Tryd.equalF_w L M a b ca cb w' hl hm (ha.ext hw'.ext (by simp [kys])) (hb.ext hw'.ext (by simp [kys])) (hva.ext hw'.ext (by simp [kys])) (hvb.ext hw'.ext (by simp [kys]))
  refine At.run 100 true [] [hC (.bool (decide (L.map chP = M.map chP)))] rfl (by (repeat' apply And.intro) <;> first | exact hE | exact True.intro | omega | rfl | (simp only [inK]; omega) | exact decide_eq_true (by omega) | exact decide_eq_false (by omega) | (simp; done) | (simp; omega) | (simp [Value.oneCell']; done) | exact i64s_one _ | exact AggOk.mk (by kernel_rfl) (by kernel_rfl)) ?_
  exact At.retK [] [] [] rfl rfl Tryd.func12 rfl trivial ⟨rfl, rfl, rfl⟩
end Go.Proofs

/-
  Walks of layer 14: a book laid of a table.
-/
namespace Go.Proofs
open Go Go.Eng
set_option maxRecDepth 100000
set_option maxHeartbeats 4000000
attribute [local irreducible] Tri

/-- A row of a table: its key, its values, where they lie. -/
structure PE where
  k : K3T
  v : List Int
  a : Option Addr
  c : Nat
def PE.row (x : PE) : RowB := (x.k, x.v)
def PE.ent (x : PE) : Value × Value := (key3 x.k, .slice x.a x.v.length x.c)
def PE.of (y : YE) : PE := ⟨y.k, y.v, adE y, y.v.length⟩
theorem PE.of_ent (T : List YE) : (T.map PE.of).map PE.ent = T.map tEnt := by rw [List.map_map]; rfl
theorem PE.of_row (T : List YE) : (T.map PE.of).map PE.row = T.map YE.row := by rw [List.map_map]; rfl
/-- The keys at some places. -/
def someP (L : List PE) (T : List Nat) : List K3T := T.filterMap fun i => (L[i]?).map (·.k)
theorem someP_snoc {L : List PE} {T : List Nat} {i : Nat} {f : PE} (h : L[i]? = some f) : someP L (T ++ [i]) = someP L T ++ [f.k] := by simp [someP, h]
theorem someP_range (L : List PE) : ∀ m, m ≤ L.length → someP L (List.range m) = (L.take m).map (·.k)
  | 0, _ => by simp [someP]
  | m + 1, h => by
    have hm : m < L.length := by omega
    rw [List.range_succ, someP_snoc (List.getElem?_eq_getElem hm), someP_range L m (by omega), List.take_add_one, List.getElem?_eq_getElem hm, List.map_append]; rfl
theorem someP_all {L : List PE} {T : List Nat} (hp : T.Perm (List.range L.length)) : (someP L T).Perm (L.map (·.k)) := by
  have h1 := hp.filterMap fun i => (L[i]?).map (·.k)
  have h2 := someP_range L L.length (Nat.le_refl _)
  rw [List.take_length] at h2
  rw [← h2]; exact h1
theorem someP_len (L : List PE) (T : List Nat) : (someP L T).length ≤ T.length := List.length_filterMap_le ..

/-- Where a book's lists lie: rows of their own. -/
structure BkQ where
  g1 : Option Nat
  g2 : Option Nat
  g3 : Option Nat
  g4 : Option Nat
  c1 : Nat
  c2 : Nat
  c3 : Nat
  c4 : Nat
def BkQ.A (q : BkQ) : BkA := ⟨svA q.g1, svA q.g2, svA q.g3, svA q.g4, q.c1, q.c2, q.c3, q.c4⟩
def Tryd.bkHp (b : Bk) (q : BkQ) : List Seg := [Seg.row q.g1 52 4 b.H.length q.c1 (b.H.flatMap i64s), Seg.row q.g2 54 3 b.S.length q.c2 (b.S.flatMap i64s), Seg.row q.g3 57 6 b.O.length q.c3 (b.O.flatMap i64s), Seg.row q.g4 50 2 b.R.length q.c4 (b.R.flatMap i64s)]
theorem Tryd.bkHp_ok {b : Bk} {q : BkQ} {w : World} (h : ∀ s, s ∈ Tryd.bkHp b q → s.ok w) : BkOk w b q.A :=
  ⟨SlOk.row (h (Seg.row q.g1 52 4 b.H.length q.c1 (b.H.flatMap i64s)) (by simp [Tryd.bkHp])), SlOk.row (h (Seg.row q.g2 54 3 b.S.length q.c2 (b.S.flatMap i64s)) (by simp [Tryd.bkHp])), SlOk.row (h (Seg.row q.g3 57 6 b.O.length q.c3 (b.O.flatMap i64s)) (by simp [Tryd.bkHp])), SlOk.row (h (Seg.row q.g4 50 2 b.R.length q.c4 (b.R.flatMap i64s)) (by simp [Tryd.bkHp]))⟩
/-- The rows of keys, by a function. -/
def rowsF (f : FunT) (ks : List K3T) : List RowB := ks.map fun k => (k, f k)

theorem Tryd.laid_w (m ck : Nat) (es : Array MapEntry) (T : List PE) (f : FunT) (w : World) (hmap : w.heap[m]? = some (.map es ck)) (hst : MapKept.Stamped es ck) (hEs : es.toList.map (fun e => (e.key, e.val)) = T.map PE.ent) (hks : ∀ x ∈ es.toList, K3 x.key)
    (hT : TabR (T.map PE.row) f) (hA : ∀ x, x ∈ T → SlOk w x.a (i64s x.v)) (hsz : T.length ≤ 1048576) (hpos : 0 < T.length) :
    Tri Tryd.prog 28 [.map (some m)] w [] (fun v bx hp => bx = [] ∧ ∃ (q : BkQ), v = .agg ⟨bkV (bkOf (rowsF f (sort3 (T.map (·.k))))) q.A⟩ ∧ hp = Tryd.bkHp (bkOf (rowsF f (sort3 (T.map (·.k))))) q) := by
  refine Tri.enter (bx := []) (hp := []) Tryd.func28 rfl (by kernel_rfl) rfl (Own.nil w) ?_
  have hmm : ∀ {bx : Bx} {hp : List Seg} (w' : World), WOk ⟨w, kys [] []⟩ bx hp w' → w'.heap[m]? = some (.map es ck) := fun {_ _} w' hw' => by
    rw [hw'.ext.block m (Array.getElem?_eq_some_iff.1 hmap).1 (by simp [kys])]; exact hmap
  have hes : es.size = T.length := by have := congrArg List.length hEs; simpa using this
  refine At.run 100 true [] [] rfl trivial ?_
  refine At.step [] rfl rfl rfl rfl rfl trivial (OpOk.alloc (cs := [.slice none 0 0, .slice none 0 0, .slice none 0 0, .slice none 0 0, .int .i64 0]) rfl (by kernel_rfl) fun b2 hb2 => ?_)
  refine At.run 100 true [] [] rfl (by (repeat' apply And.intro) <;> first | exact True.intro | omega | (simp only [inK]; omega) | (simp; done) | (simp; omega) | exact decide_eq_true (by omega) | exact decide_eq_false (by omega) | rfl | (simp [Value.oneCell']; done) | exact i64s_one _ | exact AggOk.mk (by kernel_rfl) (by kernel_rfl)) ?_
  refine At.step [] rfl rfl rfl rfl rfl trivial (OpOk.alloc (cs := [.slice none 0 0, .slice none 0 0, .slice none 0 0, .slice none 0 0, .int .i64 0]) rfl (by kernel_rfl) fun b3 hb3 => ?_)
  refine At.run 100 true [] [] rfl (by (repeat' apply And.intro) <;> first | exact True.intro | omega | (simp only [inK]; omega) | (simp; done) | (simp; omega) | exact decide_eq_true (by omega) | exact decide_eq_false (by omega) | rfl | (simp [Value.oneCell']; done) | exact i64s_one _ | exact AggOk.mk (by kernel_rfl) (by kernel_rfl)) ?_
  refine At.step [] rfl rfl rfl rfl rfl trivial (OpOk.rangeMap rfl rfl Tryd.tableT (fun w' hw' => hmm w' hw') fun r => ?_)
  refine At.run 100 true [] [] rfl (by (repeat' apply And.intro) <;> first | exact True.intro | omega | (simp only [inK]; omega) | (simp; done) | (simp; omega) | exact decide_eq_true (by omega) | exact decide_eq_false (by omega) | rfl | (simp [Value.oneCell']; done) | exact i64s_one _ | exact AggOk.mk (by kernel_rfl) (by kernel_rfl)) ?_
  refine At.nilRow 62 3 ?_
  refine At.loop (n := leftN T.length []) (env0 := [(0, .map (some m)), (2, .pointer (some ⟨b2, 0, none⟩)), (3, .pointer (some ⟨b3, 0, none⟩)), (4, sv none 0 0), (10, .pointer (some ⟨r, 0, none⟩))]) (fun k env bx hp => ∃ (V : List Nat) (g : Option Nat) (c : Nat), k = leftN T.length V ∧ V.Nodup ∧ (∀ i, i ∈ V → i < T.length) ∧
    env = [(0, .map (some m)), (2, .pointer (some ⟨b2, 0, none⟩)), (3, .pointer (some ⟨b3, 0, none⟩)), (4, sv g (someP T V).length c), (10, .pointer (some ⟨r, 0, none⟩))] ∧ bx = [(b3, 27, bkV (bkOf []) ⟨none, none, none, none, 0, 0, 0, 0⟩), (b2, 27, bkV (bkOf []) ⟨none, none, none, none, 0, 0, 0, 0⟩)] ∧ hp = [Seg.row g 62 3 (someP T V).length c ((someP T V).flatMap k3c), Seg.iter r m es ck V]) rfl ⟨[], none, 0, by simp, by simp, by simp, rfl, rfl, rfl⟩ ⟨rfl, rfl, rfl, rfl, rfl, trivial⟩ ?_
  rintro kk env bx hp ⟨V, g, c, rfl, hn, hV, rfl, rfl, rfl⟩ ih
  have hvl := visited hn hV
  have hul := someP_len T V
  refine At.run 100 true [] [] rfl trivial ?_
  refine At.step [] rfl rfl rfl rfl rfl trivial (OpOk.nextMap 1 rfl rfl rfl (fun w' hw' => hmm w' hw') hst (fun i hi => by rw [hes]; exact hV i hi) (fun hall => ?_) (fun i e hi he => ?_))
  · clear ih
    have hp := perm_range hn hV (fun i hi => hall i (by rw [hes]; exact hi))
    have hkp := someP_all hp
    generalize someP T V = ks at *
    have hkl : ks.length = T.length := by rw [hkp.length_eq, List.length_map]
    have hsort : sort3 ks = sort3 (T.map (·.k)) := sort3_perm hkp
    have hsl : (sort3 ks).length = ks.length := List.length_mergeSort _
    refine At.run 100 true [false] [] rfl (by (repeat' apply And.intro) <;> first | exact True.intro | omega | (simp only [inK]; omega) | (simp; done) | (simp; omega) | exact decide_eq_true (by omega) | exact decide_eq_false (by omega) | rfl | (simp [Value.oneCell']; done) | exact i64s_one _ | exact AggOk.mk (by kernel_rfl) (by kernel_rfl)) ?_
    refine At.keep [true, true] [true] rfl ?_
    refine At.rowSome 0 rfl (by omega) (fun g' hg => ?_)
    subst hg
    refine At.step [] rfl rfl rfl rfl rfl trivial (OpOk.callO [] [true] rfl rfl (fun w' _ ho => Tryd.sortK_w g' c ks w' ho (by omega)) ?_)
    rintro v bx' hp' ⟨rfl, rfl, rfl⟩
    rw [hsort] at hsl ⊢
    generalize hKS : sort3 (T.map (·.k)) = KS at *
    have hin : ∀ k, k ∈ KS → ∃ x, x ∈ T ∧ x.k = k := by
      intro k hk
      rw [← hKS] at hk
      obtain ⟨x, hx, e⟩ := List.mem_map.1 ((List.mergeSort_perm _ _).mem_iff.1 hk)
      exact ⟨x, hx, e⟩
    refine At.run 100 true [] [] rfl (by (repeat' apply And.intro) <;> first | exact True.intro | omega | (simp only [inK]; omega) | (simp; done) | (simp; omega) | exact decide_eq_true (by omega) | exact decide_eq_false (by omega) | rfl | (simp [Value.oneCell']; done) | exact i64s_one _ | exact AggOk.mk (by kernel_rfl) (by kernel_rfl)) ?_
    refine At.nilRow 50 2 ?_
    refine At.nilRow 57 6 ?_
    refine At.nilRow 54 3 ?_
    refine At.nilRow 52 4 ?_
    refine At.loop (n := KS.length) (env0 := [(0, .map (some m)), (2, .pointer (some ⟨b2, 0, none⟩)), (3, .pointer (some ⟨b3, 0, none⟩)), (21, sv (some g') ks.length c), (22, .int .i64 ks.length), (23, .int .i64 0)]) (fun n env bx hp => ∃ (i : Nat) (B : Bk) (g1 g2 g3 g4 : Option Nat) (c1 c2 c3 c4 : Nat), n = KS.length - i ∧ i ≤ KS.length ∧ B = bkOf (rowsF f (KS.take i)) ∧
      env = [(0, .map (some m)), (2, .pointer (some ⟨b2, 0, none⟩)), (3, .pointer (some ⟨b3, 0, none⟩)), (21, sv (some g') ks.length c), (22, .int .i64 ks.length), (23, .int .i64 i)] ∧ bx = [(b3, 27, bkV B ⟨svA g1, svA g2, svA g3, svA g4, c1, c2, c3, c4⟩), (b2, 27, bkV (bkOf []) ⟨none, none, none, none, 0, 0, 0, 0⟩)] ∧
      hp = [Seg.row g1 52 4 B.H.length c1 (B.H.flatMap i64s), Seg.row g2 54 3 B.S.length c2 (B.S.flatMap i64s), Seg.row g3 57 6 B.O.length c3 (B.O.flatMap i64s), Seg.row g4 50 2 B.R.length c4 (B.R.flatMap i64s), Seg.row (some g') 62 3 ks.length c (KS.flatMap k3c)]) rfl
      ⟨0, bkOf [], none, none, none, none, 0, 0, 0, 0, by simp, by omega, rfl, rfl, rfl, rfl⟩ ⟨rfl, rfl, rfl, rfl, rfl, rfl, trivial⟩ ?_
    rintro n env bx hp ⟨i, B, g1, g2, g3, g4, c1, c2, c3, c4, rfl, hi, hB0, rfl, rfl, rfl⟩ ih
    by_cases hlt : i < KS.length
    · obtain ⟨k, hk⟩ : ∃ k, KS[i]? = some k := ⟨_, List.getElem?_eq_getElem hlt⟩
      obtain ⟨⟨xk, xv, xa, xc⟩, hxT, rfl⟩ := hin k (List.mem_of_getElem? hk)
      have hrow : (xk, xv) ∈ T.map PE.row := List.mem_map.2 ⟨_, hxT, rfl⟩
      have hwf := hT.wf _ hrow
      have hfk : f xk = xv := ((hT.iff xk xv).1 hrow).1
      have hsl0 := hA _ hxT
      have hkin : In3 xk := hwf.in3
      obtain ⟨j, hj⟩ := List.mem_iff_getElem?.1 hxT
      have hm0 : ∀ k, k ∉ (⟨w, kys [] []⟩ : Base).mods := by simp [kys]
      have hlen : xv.length = widN xk.1 := hwf.len
      have hwp := widN_pos xk.1
      obtain ⟨gv, ov, hxa, hcv⟩ := hsl0.get (by simp only [i64s, ne_eq, List.map_eq_nil_iff]; intro e; rw [e] at hlen; simp only [List.length_nil] at hlen; omega)
      dsimp only at hxa
      subst hxa
      have rV : ∀ {bx : Bx} {hp : List Seg} (j : Nat) (x : Int), xv[j]? = some x → RdW ⟨w, kys [] []⟩ bx hp gv (ov + (j : Int).toNat * 1) [.int .i64 x] := fun {_ _} j x hx => RdW.i64At hcv (hm0 _) hx (by simp)
      have hLk : ∀ {bx : Bx} {hp : List Seg}, LookOb Tryd.prog ⟨w, kys [] []⟩ bx hp 58 (.map (some m)) (key3 xk) false (.slice (some ⟨gv, ov, none⟩) xv.length xc) := fun {_ _} => LookOb.hitQ false Tryd.tableT Tryd.keyK (fun w' hw' => ⟨es, ck, hmm w' hw', hst, hks, hEs⟩) ⟨xk, rfl, hkin⟩ (i := j) (by rw [List.getElem?_map, hj]; rfl)
      have rK : ∀ {bx : Bx} {s1 s2 s3 s4 : Seg}, RdW ⟨w, kys [] []⟩ bx [s1, s2, s3, s4, Seg.row (some g') 62 3 ks.length c (KS.flatMap k3c)] g' (0 + (i : Int).toNat * 3) (k3c xk) := fun {_ _ _ _ _} => RdW.row (j := 4) rfl (fun j u hu => by
        rw [Nat.zero_add, Int.toNat_natCast]; exact flat_get (f := k3c) (sz := 3) (fun _ _ => rfl) hk j u hu)
      have hstep : rowsF f (KS.take (i + 1)) = rowsF f (KS.take i) ++ [(xk, xv)] := by
        rw [List.take_add_one, hk]; simp [rowsF, hfk]
      have hblen : (rowsF f (KS.take i)).length ≤ 1048576 := by simp only [rowsF, List.length_map, List.length_take]; omega
      have hh1 : B.H.length ≤ 1048576 := by rw [hB0]; simp only [bkOf, List.length_map]; exact Nat.le_trans (onL_len ..) hblen
      have hh2 : B.S.length ≤ 1048576 := by rw [hB0]; simp only [bkOf, List.length_map]; exact Nat.le_trans (onL_len ..) hblen
      have hh3 : B.O.length ≤ 1048576 := by rw [hB0]; simp only [bkOf, List.length_map]; exact Nat.le_trans (onL_len ..) hblen
      have hh4 : B.R.length ≤ 1048576 := by rw [hB0]; simp only [bkOf, List.length_map]; exact Nat.le_trans (onL_len ..) hblen
      have hnxt := bkOf_snoc (rowsF f (KS.take i)) (xk, xv)
      rw [← hstep, ← hB0] at hnxt
      have h1 := hwf.l1
      have h5 := hwf.l5
      refine At.run 100 true [true] [hR (k3c xk)] rfl (by (repeat' apply And.intro) <;> first | exact rK | exact True.intro | omega | rfl | (simp only [inK]; omega) | exact decide_eq_true (by omega) | exact decide_eq_false (by omega) | (simp; done) | (simp; omega) | (simp [Value.oneCell']; done) | exact i64s_one _ | exact AggOk.mk (by kernel_rfl) (by kernel_rfl)) ?_
      refine At.step [] rfl rfl rfl rfl rfl trivial (OpOk.alloc (cs := [.int .i64 0, .int .i64 0, .int .i64 0]) rfl (by kernel_rfl) fun b7 hb7 => ?_)
      obtain ⟨l, p, q⟩ := xk
      dsimp only at *
      have hl : l = 1 ∨ l = 2 ∨ l = 3 ∨ l = 4 ∨ l = 5 := by omega
      rcases hl with rfl | rfl | rfl | rfl | rfl
      · obtain ⟨v0, v1, v2, rfl⟩ := len3 hlen
        refine At.run 100 true [true] [hB 0, hB 0, hL (.slice (some ⟨gv, ov, none⟩) 3 xc), hB 0] rfl (by (repeat' apply And.intro) <;> first | exact hLk | exact i64s_one [_, _, _] | exact True.intro | omega | rfl | (simp only [inK]; omega) | exact decide_eq_true (by omega) | exact decide_eq_false (by omega) | (simp; done) | (simp; omega) | (simp [Value.oneCell']; done) | exact i64s_one _ | exact AggOk.mk (by kernel_rfl) (by kernel_rfl)) ?_
        refine At.draw 18 rfl rfl rfl rfl ?_
        refine AtD.pures (ob := True) true (by kernel_rfl) [0] (fuel := 17) (by kernel_rfl) rfl (by (repeat' apply And.intro) <;> first | exact True.intro | omega | (simp only [inK]; omega) | (simp; done) | (simp; omega) | exact decide_eq_true (by omega) | exact decide_eq_false (by omega) | rfl | (simp [Value.oneCell']; done) | exact i64s_one _ | exact AggOk.mk (by kernel_rfl) (by kernel_rfl)) ?_
        refine AtD.cutS (ι := Nat) 3 #[true, true, true, true, true, true, true, true, true, true, true, true, true, true, true, false, false, false] (fun bs => [(35, sv g1 B.H.length c1), (48, .slice (some ⟨bs, 0, none⟩) 1 1), (0, .map (some m)), (2, .pointer (some ⟨b2, 0, none⟩)), (3, .pointer (some ⟨b3, 0, none⟩)), (21, sv (some g') ks.length c), (22, .int .i64 ks.length), (23, .int .i64 i)]) (fun bs => [(bs, 52, i64s [p, v0, v1, v2]), (b7, 62, i64s [1, p, q]), (b3, 27, bkV B ⟨svA g1, svA g2, svA g3, svA g4, c1, c2, c3, c4⟩), (b2, 27, bkV (bkOf []) ⟨none, none, none, none, 0, 0, 0, 0⟩)]) (fun _ => [Seg.row g1 52 4 B.H.length c1 (B.H.flatMap i64s), Seg.row g2 54 3 B.S.length c2 (B.S.flatMap i64s), Seg.row g3 57 6 B.O.length c3 (B.O.flatMap i64s), Seg.row g4 50 2 B.R.length c4 (B.R.flatMap i64s), Seg.row (some g') 62 3 ks.length c (KS.flatMap k3c)]) ?_ (fun hd => ?_)
        · intro bs
          refine AtD.fork1 15 (by kernel_rfl) (StepD.by [] rfl rfl rfl rfl trivial (OpOk.append 0 4 32 (i64s [p, v0, v1, v2]) rfl rfl rfl rfl rfl rfl rfl (RdW.blk0 (i := 0) rfl) rfl (i64s_one _) (by omega) (by omega) fun g5 c5 => ?_))
          refine AtD.pures (ob := True) true (by kernel_rfl) [16] (fuel := 1) (by kernel_rfl) rfl (by (repeat' apply And.intro) <;> first | exact True.intro | omega | (simp only [inK]; omega) | (simp; done) | (simp; omega) | exact decide_eq_true (by omega) | exact decide_eq_false (by omega) | rfl | (simp [Value.oneCell']; done) | exact i64s_one _ | exact AggOk.mk (by kernel_rfl) (by kernel_rfl)) ?_
          refine AtD.fork1 17 (by kernel_rfl) (StepD.by0 [] rfl rfl rfl trivial (OpOk.one true [] [hB 2] rfl (by (repeat' apply And.intro) <;> first | (simp [Value.oneCell', sv]; done) | exact True.intro | omega | rfl | (simp only [inK]; omega) | exact decide_eq_true (by omega) | exact decide_eq_false (by omega) | (simp; done) | (simp; omega) | (simp [Value.oneCell']; done) | exact i64s_one _ | exact AggOk.mk (by kernel_rfl) (by kernel_rfl)) ?_))
          refine AtD.done (by kernel_rfl) ?_
          refine At.run 100 true [] [] rfl (by (repeat' apply And.intro) <;> first | exact True.intro | omega | (simp only [inK]; omega) | (simp; done) | (simp; omega) | exact decide_eq_true (by omega) | exact decide_eq_false (by omega) | rfl | (simp [Value.oneCell']; done) | exact i64s_one _ | exact AggOk.mk (by kernel_rfl) (by kernel_rfl)) ?_
          refine At.keep [false, false, true, true] [true, true, true, true, true] rfl ?_
          have ih := ih _ _ _ _ (by omega) ⟨i + 1, _, g5, g2, g3, g4, c5, c2, c3, c4, rfl, by omega, rfl, rfl, rfl, rfl⟩
          rw [hnxt] at ih
          simp only [if_true, if_neg (show ¬ (1 : Int) = 2 by decide), if_neg (show ¬ (1 : Int) = 3 by decide), if_neg (show ¬ (1 : Int) = 4 by decide), if_neg (show ¬ (1 : Int) = 5 by decide), List.append_nil, bkV, List.length_append, List.length_singleton, List.flatMap_append, List.flatMap_singleton] at ih
          exact At.weak ih ⟨rfl, rfl, rfl, rfl, rfl, some_int_eq (by omega), trivial⟩
        refine AtD.late 2 12 1 14 3 true [] [hB 0, hR [.int .i64 v0], hR [.int .i64 v1], hR [.int .i64 v2]] [hB 1] ⟨by kernel_rfl, by kernel_rfl, by kernel_rfl, rfl, by kernel_rfl, by kernel_rfl, rfl, rfl, by kernel_rfl⟩ rfl rfl rfl (by (repeat' apply And.intro) <;> first | exact rV 0 _ rfl | exact rV 1 _ rfl | exact rV 2 _ rfl | exact True.intro | omega | rfl | (simp only [inK]; omega) | exact decide_eq_true (by omega) | exact decide_eq_false (by omega) | (simp; done) | (simp; omega) | (simp [Value.oneCell']; done) | exact i64s_one _ | exact AggOk.mk (by kernel_rfl) (by kernel_rfl)) rfl rfl (by (repeat' apply And.intro) <;> first | exact True.intro | omega | (simp only [inK]; omega) | (simp; done) | (simp; omega) | exact decide_eq_true (by omega) | exact decide_eq_false (by omega) | rfl | (simp [Value.oneCell']; done) | exact i64s_one _ | exact AggOk.mk (by kernel_rfl) (by kernel_rfl)) ?_ ?_
        · refine AtD.fork1 14 (by kernel_rfl) (StepD.by [] rfl rfl rfl rfl trivial (OpOk.buildSlice rfl rfl rfl rfl rfl rfl rfl (fun bs hbs => ?_)))
          exact AtD.weak (hd bs) ⟨rfl, rfl, rfl, rfl, rfl, rfl, rfl, rfl, trivial⟩
        · refine StepD.by [] rfl rfl rfl rfl trivial (OpOk.buildSlice rfl rfl rfl rfl rfl rfl rfl (fun bs hbs => ?_))
          refine AtD.fork1 1 (by kernel_rfl) (StepD.by [] rfl rfl rfl rfl trivial (OpOk.one true [] [hB 2] rfl (by (repeat' apply And.intro) <;> first | exact True.intro | omega | (simp only [inK]; omega) | (simp; done) | (simp; omega) | exact decide_eq_true (by omega) | exact decide_eq_false (by omega) | rfl | (simp [Value.oneCell']; done) | exact i64s_one _ | exact AggOk.mk (by kernel_rfl) (by kernel_rfl)) ?_))
          exact AtD.weak (hd bs) ⟨rfl, rfl, rfl, rfl, rfl, rfl, rfl, rfl, trivial⟩
      · obtain ⟨v0, rfl⟩ : ∃ v0, xv = [v0] := by
          match xv, hlen with
          | [v0], _ => exact ⟨v0, rfl⟩
        refine At.run 100 true [false, true] [hB 0, hB 0, hL (.slice (some ⟨gv, ov, none⟩) 1 xc), hB 0] rfl (by (repeat' apply And.intro) <;> first | exact hLk | exact i64s_one [_, _, _] | exact True.intro | omega | rfl | (simp only [inK]; omega) | exact decide_eq_true (by omega) | exact decide_eq_false (by omega) | (simp; done) | (simp; omega) | (simp [Value.oneCell']; done) | exact i64s_one _ | exact AggOk.mk (by kernel_rfl) (by kernel_rfl)) ?_
        refine At.draw 14 rfl rfl rfl rfl ?_
        refine AtD.pures (ob := True) true (by kernel_rfl) [0] (fuel := 13) (by kernel_rfl) rfl (by (repeat' apply And.intro) <;> first | exact True.intro | omega | (simp only [inK]; omega) | (simp; done) | (simp; omega) | exact decide_eq_true (by omega) | exact decide_eq_false (by omega) | rfl | (simp [Value.oneCell']; done) | exact i64s_one _ | exact AggOk.mk (by kernel_rfl) (by kernel_rfl)) ?_
        refine AtD.cutS (ι := Nat) 3 #[true, true, true, true, true, true, true, true, true, true, true, false, false, false] (fun bs => [(54, sv g2 B.S.length c2), (63, .slice (some ⟨bs, 0, none⟩) 1 1), (0, .map (some m)), (2, .pointer (some ⟨b2, 0, none⟩)), (3, .pointer (some ⟨b3, 0, none⟩)), (21, sv (some g') ks.length c), (22, .int .i64 ks.length), (23, .int .i64 i)]) (fun bs => [(bs, 54, i64s [p, q, v0]), (b7, 62, i64s [2, p, q]), (b3, 27, bkV B ⟨svA g1, svA g2, svA g3, svA g4, c1, c2, c3, c4⟩), (b2, 27, bkV (bkOf []) ⟨none, none, none, none, 0, 0, 0, 0⟩)]) (fun _ => [Seg.row g1 52 4 B.H.length c1 (B.H.flatMap i64s), Seg.row g2 54 3 B.S.length c2 (B.S.flatMap i64s), Seg.row g3 57 6 B.O.length c3 (B.O.flatMap i64s), Seg.row g4 50 2 B.R.length c4 (B.R.flatMap i64s), Seg.row (some g') 62 3 ks.length c (KS.flatMap k3c)]) ?_ (fun hd => ?_)
        · intro bs
          refine AtD.fork1 11 (by kernel_rfl) (StepD.by [] rfl rfl rfl rfl trivial (OpOk.append 1 3 24 (i64s [p, q, v0]) rfl rfl rfl rfl rfl rfl rfl (RdW.blk0 (i := 0) rfl) rfl (i64s_one _) (by omega) (by omega) fun g5 c5 => ?_))
          refine AtD.pures (ob := True) true (by kernel_rfl) [12] (fuel := 1) (by kernel_rfl) rfl (by (repeat' apply And.intro) <;> first | exact True.intro | omega | (simp only [inK]; omega) | (simp; done) | (simp; omega) | exact decide_eq_true (by omega) | exact decide_eq_false (by omega) | rfl | (simp [Value.oneCell']; done) | exact i64s_one _ | exact AggOk.mk (by kernel_rfl) (by kernel_rfl)) ?_
          refine AtD.fork1 13 (by kernel_rfl) (StepD.by0 [] rfl rfl rfl trivial (OpOk.one true [] [hB 2] rfl (by (repeat' apply And.intro) <;> first | (simp [Value.oneCell', sv]; done) | exact True.intro | omega | rfl | (simp only [inK]; omega) | exact decide_eq_true (by omega) | exact decide_eq_false (by omega) | (simp; done) | (simp; omega) | (simp [Value.oneCell']; done) | exact i64s_one _ | exact AggOk.mk (by kernel_rfl) (by kernel_rfl)) ?_))
          refine AtD.done (by kernel_rfl) ?_
          refine At.run 100 true [] [] rfl (by (repeat' apply And.intro) <;> first | exact True.intro | omega | (simp only [inK]; omega) | (simp; done) | (simp; omega) | exact decide_eq_true (by omega) | exact decide_eq_false (by omega) | rfl | (simp [Value.oneCell']; done) | exact i64s_one _ | exact AggOk.mk (by kernel_rfl) (by kernel_rfl)) ?_
          refine At.keep [false, false, true, true] [true, true, true, true, true] rfl ?_
          have ih := ih _ _ _ _ (by omega) ⟨i + 1, _, g1, g5, g3, g4, c1, c5, c3, c4, rfl, by omega, rfl, rfl, rfl, rfl⟩
          rw [hnxt] at ih
          simp only [if_true, if_neg (show ¬ (2 : Int) = 1 by decide), if_neg (show ¬ (2 : Int) = 3 by decide), if_neg (show ¬ (2 : Int) = 4 by decide), if_neg (show ¬ (2 : Int) = 5 by decide), List.append_nil, bkV, List.length_append, List.length_singleton, List.flatMap_append, List.flatMap_singleton] at ih
          exact At.weak ih ⟨rfl, rfl, rfl, rfl, rfl, some_int_eq (by omega), trivial⟩
        refine AtD.late 2 8 1 10 3 true [] [hB 0, hB 0, hR [.int .i64 v0]] [hB 1] ⟨by kernel_rfl, by kernel_rfl, by kernel_rfl, rfl, by kernel_rfl, by kernel_rfl, rfl, rfl, by kernel_rfl⟩ rfl rfl rfl (by (repeat' apply And.intro) <;> first | exact rV 0 _ rfl | exact True.intro | omega | rfl | (simp only [inK]; omega) | exact decide_eq_true (by omega) | exact decide_eq_false (by omega) | (simp; done) | (simp; omega) | (simp [Value.oneCell']; done) | exact i64s_one _ | exact AggOk.mk (by kernel_rfl) (by kernel_rfl)) rfl rfl (by (repeat' apply And.intro) <;> first | exact True.intro | omega | (simp only [inK]; omega) | (simp; done) | (simp; omega) | exact decide_eq_true (by omega) | exact decide_eq_false (by omega) | rfl | (simp [Value.oneCell']; done) | exact i64s_one _ | exact AggOk.mk (by kernel_rfl) (by kernel_rfl)) ?_ ?_
        · refine AtD.fork1 10 (by kernel_rfl) (StepD.by [] rfl rfl rfl rfl trivial (OpOk.buildSlice rfl rfl rfl rfl rfl rfl rfl (fun bs hbs => ?_)))
          exact AtD.weak (hd bs) ⟨rfl, rfl, rfl, rfl, rfl, rfl, rfl, rfl, trivial⟩
        · refine StepD.by [] rfl rfl rfl rfl trivial (OpOk.buildSlice rfl rfl rfl rfl rfl rfl rfl (fun bs hbs => ?_))
          refine AtD.fork1 1 (by kernel_rfl) (StepD.by [] rfl rfl rfl rfl trivial (OpOk.one true [] [hB 2] rfl (by (repeat' apply And.intro) <;> first | exact True.intro | omega | (simp only [inK]; omega) | (simp; done) | (simp; omega) | exact decide_eq_true (by omega) | exact decide_eq_false (by omega) | rfl | (simp [Value.oneCell']; done) | exact i64s_one _ | exact AggOk.mk (by kernel_rfl) (by kernel_rfl)) ?_))
          exact AtD.weak (hd bs) ⟨rfl, rfl, rfl, rfl, rfl, rfl, rfl, rfl, trivial⟩
      · obtain ⟨v0, v1, v2, v3, v4, rfl⟩ : ∃ v0 v1 v2 v3 v4, xv = [v0, v1, v2, v3, v4] := by
          match xv, hlen with
          | [v0, v1, v2, v3, v4], _ => exact ⟨v0, v1, v2, v3, v4, rfl⟩
        refine At.run 100 true [false, false, true] [hB 0, hB 0, hL (.slice (some ⟨gv, ov, none⟩) 5 xc), hB 0] rfl (by (repeat' apply And.intro) <;> first | exact hLk | exact i64s_one [_, _, _] | exact True.intro | omega | rfl | (simp only [inK]; omega) | exact decide_eq_true (by omega) | exact decide_eq_false (by omega) | (simp; done) | (simp; omega) | (simp [Value.oneCell']; done) | exact i64s_one _ | exact AggOk.mk (by kernel_rfl) (by kernel_rfl)) ?_
        refine At.draw 24 rfl rfl rfl rfl ?_
        refine AtD.pures (ob := True) true (by kernel_rfl) [0] (fuel := 23) (by kernel_rfl) rfl (by (repeat' apply And.intro) <;> first | exact True.intro | omega | (simp only [inK]; omega) | (simp; done) | (simp; omega) | exact decide_eq_true (by omega) | exact decide_eq_false (by omega) | rfl | (simp [Value.oneCell']; done) | exact i64s_one _ | exact AggOk.mk (by kernel_rfl) (by kernel_rfl)) ?_
        refine AtD.cutS (ι := Nat) 3 #[true, true, true, true, true, true, true, true, true, true, true, true, true, true, true, true, true, true, true, true, true, false, false, false] (fun bs => [(69, sv g3 B.O.length c3), (88, .slice (some ⟨bs, 0, none⟩) 1 1), (0, .map (some m)), (2, .pointer (some ⟨b2, 0, none⟩)), (3, .pointer (some ⟨b3, 0, none⟩)), (21, sv (some g') ks.length c), (22, .int .i64 ks.length), (23, .int .i64 i)]) (fun bs => [(bs, 57, i64s [p, v0, v1, v2, v3, v4]), (b7, 62, i64s [3, p, q]), (b3, 27, bkV B ⟨svA g1, svA g2, svA g3, svA g4, c1, c2, c3, c4⟩), (b2, 27, bkV (bkOf []) ⟨none, none, none, none, 0, 0, 0, 0⟩)]) (fun _ => [Seg.row g1 52 4 B.H.length c1 (B.H.flatMap i64s), Seg.row g2 54 3 B.S.length c2 (B.S.flatMap i64s), Seg.row g3 57 6 B.O.length c3 (B.O.flatMap i64s), Seg.row g4 50 2 B.R.length c4 (B.R.flatMap i64s), Seg.row (some g') 62 3 ks.length c (KS.flatMap k3c)]) ?_ (fun hd => ?_)
        · intro bs
          refine AtD.fork1 21 (by kernel_rfl) (StepD.by [] rfl rfl rfl rfl trivial (OpOk.append 2 6 48 (i64s [p, v0, v1, v2, v3, v4]) rfl rfl rfl rfl rfl rfl rfl (RdW.blk0 (i := 0) rfl) rfl (i64s_one _) (by omega) (by omega) fun g5 c5 => ?_))
          refine AtD.pures (ob := True) true (by kernel_rfl) [22] (fuel := 1) (by kernel_rfl) rfl (by (repeat' apply And.intro) <;> first | exact True.intro | omega | (simp only [inK]; omega) | (simp; done) | (simp; omega) | exact decide_eq_true (by omega) | exact decide_eq_false (by omega) | rfl | (simp [Value.oneCell']; done) | exact i64s_one _ | exact AggOk.mk (by kernel_rfl) (by kernel_rfl)) ?_
          refine AtD.fork1 23 (by kernel_rfl) (StepD.by0 [] rfl rfl rfl trivial (OpOk.one true [] [hB 2] rfl (by (repeat' apply And.intro) <;> first | (simp [Value.oneCell', sv]; done) | exact True.intro | omega | rfl | (simp only [inK]; omega) | exact decide_eq_true (by omega) | exact decide_eq_false (by omega) | (simp; done) | (simp; omega) | (simp [Value.oneCell']; done) | exact i64s_one _ | exact AggOk.mk (by kernel_rfl) (by kernel_rfl)) ?_))
          refine AtD.done (by kernel_rfl) ?_
          refine At.run 100 true [] [] rfl (by (repeat' apply And.intro) <;> first | exact True.intro | omega | (simp only [inK]; omega) | (simp; done) | (simp; omega) | exact decide_eq_true (by omega) | exact decide_eq_false (by omega) | rfl | (simp [Value.oneCell']; done) | exact i64s_one _ | exact AggOk.mk (by kernel_rfl) (by kernel_rfl)) ?_
          refine At.keep [false, false, true, true] [true, true, true, true, true] rfl ?_
          have ih := ih _ _ _ _ (by omega) ⟨i + 1, _, g1, g2, g5, g4, c1, c2, c5, c4, rfl, by omega, rfl, rfl, rfl, rfl⟩
          rw [hnxt] at ih
          simp only [if_true, if_neg (show ¬ (3 : Int) = 1 by decide), if_neg (show ¬ (3 : Int) = 2 by decide), if_neg (show ¬ (3 : Int) = 4 by decide), if_neg (show ¬ (3 : Int) = 5 by decide), List.append_nil, bkV, List.length_append, List.length_singleton, List.flatMap_append, List.flatMap_singleton] at ih
          exact At.weak ih ⟨rfl, rfl, rfl, rfl, rfl, some_int_eq (by omega), trivial⟩
        refine AtD.late 2 18 1 20 3 true [] [hB 0, hR [.int .i64 v0], hR [.int .i64 v1], hR [.int .i64 v2], hR [.int .i64 v3], hR [.int .i64 v4]] [hB 1] ⟨by kernel_rfl, by kernel_rfl, by kernel_rfl, rfl, by kernel_rfl, by kernel_rfl, rfl, rfl, by kernel_rfl⟩ rfl rfl rfl (by (repeat' apply And.intro) <;> first | exact rV 0 _ rfl | exact rV 1 _ rfl | exact rV 2 _ rfl | exact rV 3 _ rfl | exact rV 4 _ rfl | exact True.intro | omega | rfl | (simp only [inK]; omega) | exact decide_eq_true (by omega) | exact decide_eq_false (by omega) | (simp; done) | (simp; omega) | (simp [Value.oneCell']; done) | exact i64s_one _ | exact AggOk.mk (by kernel_rfl) (by kernel_rfl)) rfl rfl (by (repeat' apply And.intro) <;> first | exact True.intro | omega | (simp only [inK]; omega) | (simp; done) | (simp; omega) | exact decide_eq_true (by omega) | exact decide_eq_false (by omega) | rfl | (simp [Value.oneCell']; done) | exact i64s_one _ | exact AggOk.mk (by kernel_rfl) (by kernel_rfl)) ?_ ?_
        · refine AtD.fork1 20 (by kernel_rfl) (StepD.by [] rfl rfl rfl rfl trivial (OpOk.buildSlice rfl rfl rfl rfl rfl rfl rfl (fun bs hbs => ?_)))
          exact AtD.weak (hd bs) ⟨rfl, rfl, rfl, rfl, rfl, rfl, rfl, rfl, trivial⟩
        · refine StepD.by [] rfl rfl rfl rfl trivial (OpOk.buildSlice rfl rfl rfl rfl rfl rfl rfl (fun bs hbs => ?_))
          refine AtD.fork1 1 (by kernel_rfl) (StepD.by [] rfl rfl rfl rfl trivial (OpOk.one true [] [hB 2] rfl (by (repeat' apply And.intro) <;> first | exact True.intro | omega | (simp only [inK]; omega) | (simp; done) | (simp; omega) | exact decide_eq_true (by omega) | exact decide_eq_false (by omega) | rfl | (simp [Value.oneCell']; done) | exact i64s_one _ | exact AggOk.mk (by kernel_rfl) (by kernel_rfl)) ?_))
          exact AtD.weak (hd bs) ⟨rfl, rfl, rfl, rfl, rfl, rfl, rfl, rfl, trivial⟩
      · obtain ⟨v0, rfl⟩ : ∃ v0, xv = [v0] := by
          match xv, hlen with
          | [v0], _ => exact ⟨v0, rfl⟩
        refine At.run 100 true [false, false, false, true] [hB 0, hB 0, hL (.slice (some ⟨gv, ov, none⟩) 1 xc), hB 0] rfl (by (repeat' apply And.intro) <;> first | exact hLk | exact i64s_one [_, _, _] | exact True.intro | omega | rfl | (simp only [inK]; omega) | exact decide_eq_true (by omega) | exact decide_eq_false (by omega) | (simp; done) | (simp; omega) | (simp [Value.oneCell']; done) | exact i64s_one _ | exact AggOk.mk (by kernel_rfl) (by kernel_rfl)) ?_
        refine At.draw 12 rfl rfl rfl rfl ?_
        refine AtD.pures (ob := True) true (by kernel_rfl) [0] (fuel := 11) (by kernel_rfl) rfl (by (repeat' apply And.intro) <;> first | exact True.intro | omega | (simp only [inK]; omega) | (simp; done) | (simp; omega) | exact decide_eq_true (by omega) | exact decide_eq_false (by omega) | rfl | (simp [Value.oneCell']; done) | exact i64s_one _ | exact AggOk.mk (by kernel_rfl) (by kernel_rfl)) ?_
        refine AtD.cutS (ι := Nat) 3 #[true, true, true, true, true, true, true, true, true, false, false, false] (fun bs => [(94, sv g4 B.R.length c4), (101, .slice (some ⟨bs, 0, none⟩) 1 1), (0, .map (some m)), (2, .pointer (some ⟨b2, 0, none⟩)), (3, .pointer (some ⟨b3, 0, none⟩)), (21, sv (some g') ks.length c), (22, .int .i64 ks.length), (23, .int .i64 i)]) (fun bs => [(bs, 50, i64s [p, v0]), (b7, 62, i64s [4, p, q]), (b3, 27, bkV B ⟨svA g1, svA g2, svA g3, svA g4, c1, c2, c3, c4⟩), (b2, 27, bkV (bkOf []) ⟨none, none, none, none, 0, 0, 0, 0⟩)]) (fun _ => [Seg.row g1 52 4 B.H.length c1 (B.H.flatMap i64s), Seg.row g2 54 3 B.S.length c2 (B.S.flatMap i64s), Seg.row g3 57 6 B.O.length c3 (B.O.flatMap i64s), Seg.row g4 50 2 B.R.length c4 (B.R.flatMap i64s), Seg.row (some g') 62 3 ks.length c (KS.flatMap k3c)]) ?_ (fun hd => ?_)
        · intro bs
          refine AtD.fork1 9 (by kernel_rfl) (StepD.by [] rfl rfl rfl rfl trivial (OpOk.append 3 2 16 (i64s [p, v0]) rfl rfl rfl rfl rfl rfl rfl (RdW.blk0 (i := 0) rfl) rfl (i64s_one _) (by omega) (by omega) fun g5 c5 => ?_))
          refine AtD.pures (ob := True) true (by kernel_rfl) [10] (fuel := 1) (by kernel_rfl) rfl (by (repeat' apply And.intro) <;> first | exact True.intro | omega | (simp only [inK]; omega) | (simp; done) | (simp; omega) | exact decide_eq_true (by omega) | exact decide_eq_false (by omega) | rfl | (simp [Value.oneCell']; done) | exact i64s_one _ | exact AggOk.mk (by kernel_rfl) (by kernel_rfl)) ?_
          refine AtD.fork1 11 (by kernel_rfl) (StepD.by0 [] rfl rfl rfl trivial (OpOk.one true [] [hB 2] rfl (by (repeat' apply And.intro) <;> first | (simp [Value.oneCell', sv]; done) | exact True.intro | omega | rfl | (simp only [inK]; omega) | exact decide_eq_true (by omega) | exact decide_eq_false (by omega) | (simp; done) | (simp; omega) | (simp [Value.oneCell']; done) | exact i64s_one _ | exact AggOk.mk (by kernel_rfl) (by kernel_rfl)) ?_))
          refine AtD.done (by kernel_rfl) ?_
          refine At.run 100 true [] [] rfl (by (repeat' apply And.intro) <;> first | exact True.intro | omega | (simp only [inK]; omega) | (simp; done) | (simp; omega) | exact decide_eq_true (by omega) | exact decide_eq_false (by omega) | rfl | (simp [Value.oneCell']; done) | exact i64s_one _ | exact AggOk.mk (by kernel_rfl) (by kernel_rfl)) ?_
          refine At.keep [false, false, true, true] [true, true, true, true, true] rfl ?_
          have ih := ih _ _ _ _ (by omega) ⟨i + 1, _, g1, g2, g3, g5, c1, c2, c3, c5, rfl, by omega, rfl, rfl, rfl, rfl⟩
          rw [hnxt] at ih
          simp only [if_true, if_neg (show ¬ (4 : Int) = 1 by decide), if_neg (show ¬ (4 : Int) = 2 by decide), if_neg (show ¬ (4 : Int) = 3 by decide), if_neg (show ¬ (4 : Int) = 5 by decide), List.append_nil, bkV, List.length_append, List.length_singleton, List.flatMap_append, List.flatMap_singleton] at ih
          exact At.weak ih ⟨rfl, rfl, rfl, rfl, rfl, some_int_eq (by omega), trivial⟩
        refine AtD.late 2 6 1 8 3 true [] [hB 0, hR [.int .i64 v0]] [hB 1] ⟨by kernel_rfl, by kernel_rfl, by kernel_rfl, rfl, by kernel_rfl, by kernel_rfl, rfl, rfl, by kernel_rfl⟩ rfl rfl rfl (by (repeat' apply And.intro) <;> first | exact rV 0 _ rfl | exact True.intro | omega | rfl | (simp only [inK]; omega) | exact decide_eq_true (by omega) | exact decide_eq_false (by omega) | (simp; done) | (simp; omega) | (simp [Value.oneCell']; done) | exact i64s_one _ | exact AggOk.mk (by kernel_rfl) (by kernel_rfl)) rfl rfl (by (repeat' apply And.intro) <;> first | exact True.intro | omega | (simp only [inK]; omega) | (simp; done) | (simp; omega) | exact decide_eq_true (by omega) | exact decide_eq_false (by omega) | rfl | (simp [Value.oneCell']; done) | exact i64s_one _ | exact AggOk.mk (by kernel_rfl) (by kernel_rfl)) ?_ ?_
        · refine AtD.fork1 8 (by kernel_rfl) (StepD.by [] rfl rfl rfl rfl trivial (OpOk.buildSlice rfl rfl rfl rfl rfl rfl rfl (fun bs hbs => ?_)))
          exact AtD.weak (hd bs) ⟨rfl, rfl, rfl, rfl, rfl, rfl, rfl, rfl, trivial⟩
        · refine StepD.by [] rfl rfl rfl rfl trivial (OpOk.buildSlice rfl rfl rfl rfl rfl rfl rfl (fun bs hbs => ?_))
          refine AtD.fork1 1 (by kernel_rfl) (StepD.by [] rfl rfl rfl rfl trivial (OpOk.one true [] [hB 2] rfl (by (repeat' apply And.intro) <;> first | exact True.intro | omega | (simp only [inK]; omega) | (simp; done) | (simp; omega) | exact decide_eq_true (by omega) | exact decide_eq_false (by omega) | rfl | (simp [Value.oneCell']; done) | exact i64s_one _ | exact AggOk.mk (by kernel_rfl) (by kernel_rfl)) ?_))
          exact AtD.weak (hd bs) ⟨rfl, rfl, rfl, rfl, rfl, rfl, rfl, rfl, trivial⟩
      · obtain ⟨v0, rfl⟩ : ∃ v0, xv = [v0] := by
          match xv, hlen with
          | [v0], _ => exact ⟨v0, rfl⟩
        refine At.run 100 true [false, false, false, false, true] [hB 0, hB 0, hL (.slice (some ⟨gv, ov, none⟩) 1 xc), hB 0, hR [.int .i64 v0], hB 1] rfl (by (repeat' apply And.intro) <;> first | exact hLk | exact i64s_one [_, _, _] | exact rV 0 _ rfl | exact True.intro | omega | rfl | (simp only [inK]; omega) | exact decide_eq_true (by omega) | exact decide_eq_false (by omega) | (simp; done) | (simp; omega) | (simp [Value.oneCell']; done) | exact i64s_one _ | exact AggOk.mk (by kernel_rfl) (by kernel_rfl)) ?_
        refine At.keep [false, true, true] [true, true, true, true, true] rfl ?_
        have ih := ih _ _ _ _ (by omega) ⟨i + 1, _, g1, g2, g3, g4, c1, c2, c3, c4, rfl, by omega, rfl, rfl, rfl, rfl⟩
        rw [hnxt] at ih
        simp only [if_true, if_neg (show ¬ (5 : Int) = 1 by decide), if_neg (show ¬ (5 : Int) = 2 by decide), if_neg (show ¬ (5 : Int) = 3 by decide), if_neg (show ¬ (5 : Int) = 4 by decide), List.append_nil, bkV] at ih
        exact At.weak ih ⟨rfl, rfl, rfl, rfl, rfl, some_int_eq (by omega), trivial⟩
    · rw [List.take_of_length_le (by omega)] at hB0
      subst hB0
      refine At.run 100 true [false] [hB 0, hB 1] rfl (by (repeat' apply And.intro) <;> first | exact AggOk.mk (by kernel_rfl) (by kernel_rfl) | exact True.intro | omega | rfl | (simp only [inK]; omega) | exact decide_eq_true (by omega) | exact decide_eq_false (by omega) | (simp; done) | (simp; omega) | (simp [Value.oneCell']; done) | exact i64s_one _ | exact AggOk.mk (by kernel_rfl) (by kernel_rfl)) ?_
      exact At.retK [] [true, true, true, true] [hB 1] rfl rfl Tryd.func28 rfl ⟨rfl, trivial⟩ ⟨rfl, ⟨g1, g2, g3, g4, c1, c2, c3, c4⟩, rfl, rfl⟩
  · have hil : i < T.length := by rw [← hes]; exact (Array.getElem?_eq_some_iff.1 he).1
    obtain ⟨x, hx⟩ : ∃ x, T[i]? = some x := ⟨_, List.getElem?_eq_getElem hil⟩
    have hee : (e.key, e.val) = PE.ent x := by
      have h1 : (es.toList.map fun e => (e.key, e.val))[i]? = some (e.key, e.val) := by rw [List.getElem?_map, Array.getElem?_toList, he]; rfl
      rw [hEs, List.getElem?_map, hx] at h1
      exact (Option.some.inj h1).symm
    obtain ⟨kk, v, born⟩ := e
    simp only [PE.ent, Prod.mk.injEq] at hee
    obtain ⟨rfl, rfl⟩ := hee
    simp only [setL]
    have hV' := lt_snoc hV hil
    have hn' := nodup_snoc hn hi
    refine At.run 100 true [true] [] rfl (by (repeat' apply And.intro) <;> first | exact True.intro | omega | (simp only [inK]; omega) | (simp; done) | (simp; omega) | exact decide_eq_true (by omega) | exact decide_eq_false (by omega) | rfl | (simp [Value.oneCell']; done) | exact i64s_one _ | exact AggOk.mk (by kernel_rfl) (by kernel_rfl)) ?_
    refine At.step [] rfl rfl rfl rfl rfl trivial (OpOk.entryMap (T := V) (i := i) 1 rfl rfl rfl (fun w' hw' => hmm w' hw') hst he ?_)
    simp only
    refine At.run 100 true [] [] rfl (by (repeat' apply And.intro) <;> first | exact True.intro | omega | (simp only [inK]; omega) | (simp; done) | (simp; omega) | exact decide_eq_true (by omega) | exact decide_eq_false (by omega) | rfl | (simp [Value.oneCell']; done) | exact i64s_one _ | exact AggOk.mk (by kernel_rfl) (by kernel_rfl)) ?_
    refine At.step [] rfl rfl rfl rfl rfl trivial (OpOk.alloc (cs := [.int .i64 0, .int .i64 0, .int .i64 0]) rfl (by kernel_rfl) fun b5 hb5 => ?_)
    refine At.run 100 true [] [hB 0, hB 0] rfl (by (repeat' apply And.intro) <;> first | exact i64s_one [_, _, _] | exact True.intro | omega | rfl | (simp only [inK]; omega) | exact decide_eq_true (by omega) | exact decide_eq_false (by omega) | (simp; done) | (simp; omega) | (simp [Value.oneCell']; done) | exact i64s_one _ | exact AggOk.mk (by kernel_rfl) (by kernel_rfl)) ?_
    refine At.append1 0 3 24 rfl rfl rfl rfl rfl rfl rfl rfl rfl trivial (fun _ => rfl) trivial rfl rfl rfl rfl rfl rfl rfl rfl (fun _ => rfl) (i64s_one [_, _, _]) (by omega) (by omega) (fun bb g2 c2 => ?_)
    refine At.run 100 true [] [] rfl (by (repeat' apply And.intro) <;> first | exact True.intro | omega | (simp only [inK]; omega) | (simp; done) | (simp; omega) | exact decide_eq_true (by omega) | exact decide_eq_false (by omega) | rfl | (simp [Value.oneCell']; done) | exact i64s_one _ | exact AggOk.mk (by kernel_rfl) (by kernel_rfl)) ?_
    refine At.keep [false, true, true] [true, true] rfl ?_
    have ih := ih _ _ _ _ (leftN_snoc hil hi) ⟨V ++ [i], g2, c2, rfl, hn', hV', rfl, rfl, rfl⟩
    rw [someP_snoc hx, k3_snoc, List.length_append, List.length_singleton] at ih
    exact At.weak ih ⟨rfl, rfl, rfl, rfl, rfl, trivial⟩
end Go.Proofs

/-
  Walks of layer 14's statements: the example, and the changes of any two books.
-/
namespace Go.Proofs
open Go Go.Eng
set_option maxRecDepth 100000
set_option maxHeartbeats 4000000
attribute [local irreducible] Tri

theorem Tryd.sl_of {S : Base} {bx : Bx} {hp : List Seg} {T : List YE} {w : World} (hw : WOk S bx hp w) (hm : Seg.pack (T.flatMap Tryd.yeB) [] ∈ hp) {x : YE} (hx : x ∈ T) : SlOk w (adE x) (i64s x.v) :=
  SlOk.blk ((hw.hp _ hm).1 (x.b, 2, i64s x.v) (List.mem_flatMap.2 ⟨x, hx, by simp [Tryd.yeB]⟩))
theorem Tryd.diffK_chl {S : Base} {bx : Bx} {hp : List Seg} {T U : List YE} {a b : Bk} {w : World} (hw : WOk S bx hp w) (hm1 : Seg.pack (T.flatMap Tryd.yeB) [] ∈ hp) (hm2 : Seg.pack (U.flatMap Tryd.yeB) [] ∈ hp) (hT : T.map YE.row = rowsB a) (hU : U.map YE.row = rowsB b) (hia : BkIn a) (hib : BkIn b) (ks : List K3T) : ChL w (diffK T U ks) := by
  intro e he
  unfold diffK at he
  obtain ⟨k, -, rfl⟩ := List.mem_map.1 he
  have h1 := getT_len hT hia k
  have h2 := getT_len hU hib k
  exact ⟨Tryd.val_sl hw hm1 k, Tryd.val_sl hw hm2 k, by show (getT T k).length ≤ _; omega, by show (getT U k).length ≤ _; omega⟩
theorem mgE_from : ∀ (T U : List YE) (e : ChE), e ∈ mgE T U → (e.was = [] ∨ ∃ x, x ∈ T ∧ e.was = x.v ∧ e.wa = adE x) ∧ (e.is = [] ∨ ∃ y, y ∈ U ∧ e.is = y.v ∧ e.ia = adE y) := by
  intro T U
  have up : ∀ {T U T' U' : List YE} {e : ChE}, (∀ x, x ∈ T → x ∈ T') → (∀ x, x ∈ U → x ∈ U') → ((e.was = [] ∨ ∃ x, x ∈ T ∧ e.was = x.v ∧ e.wa = adE x) ∧ (e.is = [] ∨ ∃ y, y ∈ U ∧ e.is = y.v ∧ e.ia = adE y)) →
      ((e.was = [] ∨ ∃ x, x ∈ T' ∧ e.was = x.v ∧ e.wa = adE x) ∧ (e.is = [] ∨ ∃ y, y ∈ U' ∧ e.is = y.v ∧ e.ia = adE y)) := by
    rintro T U T' U' e h1 h2 ⟨h3, h4⟩
    refine ⟨?_, ?_⟩
    · rcases h3 with h | ⟨x, h, g⟩
      · exact .inl h
      · exact .inr ⟨x, h1 x h, g⟩
    · rcases h4 with h | ⟨x, h, g⟩
      · exact .inl h
      · exact .inr ⟨x, h2 x h, g⟩
  fun_induction mgE T U with
  | case1 => intro e he; cases he
  | case2 x T ih =>
    intro e he
    rcases List.mem_cons.1 he with rfl | he
    · exact ⟨.inr ⟨x, List.mem_cons_self .., rfl, rfl⟩, .inl rfl⟩
    · exact up (fun _ h => List.mem_cons_of_mem _ h) (fun _ h => h) (ih e he)
  | case3 y U ih =>
    intro e he
    rcases List.mem_cons.1 he with rfl | he
    · exact ⟨.inl rfl, .inr ⟨y, List.mem_cons_self .., rfl, rfl⟩⟩
    · exact up (fun _ h => h) (fun _ h => List.mem_cons_of_mem _ h) (ih e he)
  | case4 x T y U h1 ih =>
    intro e he
    rcases List.mem_cons.1 he with rfl | he
    · exact ⟨.inr ⟨x, List.mem_cons_self .., rfl, rfl⟩, .inl rfl⟩
    · exact up (fun _ h => List.mem_cons_of_mem _ h) (fun _ h => h) (ih e he)
  | case5 x T y U h1 h2 ih =>
    intro e he
    rcases List.mem_cons.1 he with rfl | he
    · exact ⟨.inl rfl, .inr ⟨y, List.mem_cons_self .., rfl, rfl⟩⟩
    · exact up (fun _ h => h) (fun _ h => List.mem_cons_of_mem _ h) (ih e he)
  | case6 x T y U h1 h2 ih =>
    intro e he
    rcases List.mem_append.1 he with he | he
    · split at he
      · cases he
      · rw [List.mem_singleton] at he
        subst he
        exact ⟨.inr ⟨x, List.mem_cons_self .., rfl, rfl⟩, .inr ⟨y, List.mem_cons_self .., rfl, rfl⟩⟩
    · exact up (fun _ h => List.mem_cons_of_mem _ h) (fun _ h => List.mem_cons_of_mem _ h) (ih e he)
theorem Tryd.mgE_chl {S : Base} {bx : Bx} {hp : List Seg} {T U : List YE} {a b : Bk} {w : World} (hw : WOk S bx hp w) (hm1 : Seg.pack (T.flatMap Tryd.yeB) [] ∈ hp) (hm2 : Seg.pack (U.flatMap Tryd.yeB) [] ∈ hp) (hT : T.map YE.row = rowsB a) (hU : U.map YE.row = rowsB b) (hia : BkIn a) (hib : BkIn b) : ChL w (mgE T U) := by
  intro e he
  have lt : ∀ x, x ∈ T → x.v.length ≤ 5 := fun x hx => (rowsB_in hia x.row (by rw [← hT]; exact List.mem_map_of_mem hx)).len
  have lu : ∀ x, x ∈ U → x.v.length ≤ 5 := fun x hx => (rowsB_in hib x.row (by rw [← hU]; exact List.mem_map_of_mem hx)).len
  obtain ⟨h1, h2⟩ := mgE_from T U e he
  have g1 : SlOk w e.wa (i64s e.was) ∧ e.was.length ≤ 5 := by
    rcases h1 with h | ⟨x, hx, e1, e2⟩
    · rw [h]; exact ⟨.inl rfl, by simp⟩
    · rw [e1, e2]; exact ⟨Tryd.sl_of hw hm1 hx, lt x hx⟩
  have g2 : SlOk w e.ia (i64s e.is) ∧ e.is.length ≤ 5 := by
    rcases h2 with h | ⟨x, hx, e1, e2⟩
    · rw [h]; exact ⟨.inl rfl, by simp⟩
    · rw [e1, e2]; exact ⟨Tryd.sl_of hw hm2 hx, lu x hx⟩
  exact ⟨g1.1, g2.1, by have := g1.2; omega, by have := g2.2; omega⟩
theorem mgE_len : ∀ (T U : List YE), (mgE T U).length ≤ T.length + U.length := by
  intro T U
  fun_induction mgE T U with
  | case1 => simp
  | case2 x T ih => simp only [List.length_cons, List.length_nil] at *; omega
  | case3 y U ih => simp only [List.length_cons, List.length_nil] at *; omega
  | case4 x T y U h1 ih => simp only [List.length_cons] at *; omega
  | case5 x T y U h1 h2 ih => simp only [List.length_cons] at *; omega
  | case6 x T y U h1 h2 ih =>
    rw [List.length_append]
    simp only [List.length_cons] at *
    split <;> simp <;> omega

def bk0 : Bk := ⟨[], [], [], [], 0⟩
def bk1 : Bk := ⟨[], [], [], [[3, 10]], 0⟩
theorem bk0_in : BkIn bk0 := ⟨fun x hx => by simp [bk0] at hx, fun x hx => by simp [bk0] at hx, fun x hx => by simp [bk0] at hx, fun x hx => by simp [bk0] at hx, by simp [bk0], by simp [bk0], by simp [bk0], by simp [bk0], by simp [bk0, inK]⟩
theorem bk1_in : BkIn bk1 := ⟨fun x hx => by simp [bk1] at hx, fun x hx => by simp [bk1] at hx, fun x hx => by simp [bk1] at hx, fun x hx => by
  simp only [bk1, List.mem_singleton] at hx; subst hx; exact ⟨rfl, fun y hy => by simp at hy; rcases hy with rfl | rfl <;> simp [inK]⟩, by simp [bk1], by simp [bk1], by simp [bk1], by simp [bk1], by simp [bk1, inK]⟩
theorem bk01 {T U : List YE} (hT : T.map YE.row = rowsB bk0) (hU : U.map YE.row = rowsB bk1) : (diffK T U (sort3 (keysT T U))).map chP = [((4, 3, 0), [], [10])] := by
  rw [diffK_eq (YOk.of hT (rowsB_ok bk0_in (by decide))) (YOk.of hU (rowsB_ok bk1_in (by decide)))]
  obtain ⟨x, rfl⟩ : ∃ x, T = [x] := by
    have h := congrArg List.length hT
    rcases T with _ | ⟨x, _ | ⟨y, T⟩⟩
    · simp [rowsB, bk0] at h
    · exact ⟨x, rfl⟩
    · simp [rowsB, bk0] at h
  obtain ⟨y, z, rfl⟩ : ∃ y z, U = [y, z] := by
    have h := congrArg List.length hU
    rcases U with _ | ⟨x, _ | ⟨y, _ | ⟨z, U⟩⟩⟩
    · simp [rowsB, bk1] at h
    · simp [rowsB, bk1] at h
    · exact ⟨x, y, rfl⟩
    · simp [rowsB, bk1] at h
  simp [rowsB, bk0, bk1, YE.row, r1, k0] at hT hU
  obtain ⟨hx, hxv⟩ := hT
  obtain ⟨⟨hy, hyv⟩, hz, hzv⟩ := hU
  rw [mgE, if_neg (by rw [hx, hy]; decide), if_pos (by rw [hx, hy]; decide), mgE, if_neg (by rw [hx, hz]; decide), if_neg (by rw [hx, hz]; decide), if_pos (by rw [hxv, hzv]), mgE]
  simp [chP, chI, hy, hyv]

def e01 (g : Nat) : ChE := ⟨(4, 3, 0), [], none, 0, [10], some ⟨g, 0, none⟩, 1⟩
theorem Tryd.alive14_w (w : World) : Fun Tryd.prog 5 [] w (.bool true) := by
  refine Tri.enter (bx := []) (hp := []) Tryd.func5 rfl (by kernel_rfl) rfl (Own.nil w) ?_
  refine At.run 100 true [] [] rfl (by (repeat' apply And.intro) <;> first | exact True.intro | omega | (simp only [inK]; omega) | (simp; done) | (simp; omega) | exact decide_eq_true (by omega) | exact decide_eq_false (by omega) | rfl | (simp [Value.oneCell']; done) | exact i64s_one _ | exact AggOk.mk (by kernel_rfl) (by kernel_rfl)) ?_
  refine At.step [] rfl rfl rfl rfl rfl trivial (OpOk.buildSlice rfl rfl rfl rfl rfl rfl rfl (fun bs hbs => ?_))
  refine At.run 100 true [] [] rfl (by (repeat' apply And.intro) <;> first | exact True.intro | omega | (simp only [inK]; omega) | (simp; done) | (simp; omega) | exact decide_eq_true (by omega) | exact decide_eq_false (by omega) | rfl | (simp [Value.oneCell']; done) | exact i64s_one _ | exact AggOk.mk (by kernel_rfl) (by kernel_rfl)) ?_
  refine At.step [] rfl rfl rfl rfl rfl trivial (OpOk.call (Q := Tryd.DiffR bk0 bk1) rfl (fun w' hw' => Tryd.Diff_w bk0 bk1 ⟨none, none, none, none, 0, 0, 0, 0⟩ ⟨none, none, none, some ⟨bs, 0, none⟩, 0, 0, 0, 1⟩ w' bk0_in bk1_in ⟨.inl rfl, .inl rfl, .inl rfl, .inl rfl⟩ ⟨.inl rfl, .inl rfl, .inl rfl, SlOk.blk (hw'.bx (bs, 50, i64s [3, 10]) (List.mem_cons_self ..))⟩) ?_)
  rintro v bx' hp' ⟨rfl, hR⟩
  rw [if_pos ⟨by decide, by decide⟩] at hR
  obtain ⟨T, U, g1, c1, hT, hU, rfl, rfl⟩ := hR
  have hD := bk01 hT hU
  generalize hDd : diffK T U (sort3 (keysT T U)) = D at *
  have hDl : D.length = 1 := by have := congrArg List.length hD; simpa using this
  refine At.run 100 true [true] [] rfl (by (repeat' apply And.intro) <;> first | exact True.intro | omega | (simp only [inK]; omega) | (simp; done) | (simp; omega) | exact decide_eq_true (by omega) | exact decide_eq_false (by omega) | rfl | (simp [Value.oneCell']; done) | exact i64s_one _ | exact AggOk.mk (by kernel_rfl) (by kernel_rfl)) ?_
  refine At.step [true] rfl rfl rfl rfl rfl rfl (OpOk.call rfl (fun w' hw' => Tryd.Plain_w D (svA g1) c1 w' (by omega) (SlOk.row (hw'.hp _ (List.mem_cons_self ..)))) ?_)
  rintro v bx' hp' ⟨rfl, g2, c2, rfl, rfl⟩
  refine At.run 100 true [true] [] rfl (by (repeat' apply And.intro) <;> first | exact True.intro | omega | (simp only [inK]; omega) | (simp; done) | (simp; omega) | exact decide_eq_true (by omega) | exact decide_eq_false (by omega) | rfl | (simp [Value.oneCell']; done) | exact i64s_one _ | exact AggOk.mk (by kernel_rfl) (by kernel_rfl)) ?_
  refine At.step [true] rfl rfl rfl rfl rfl rfl (OpOk.buildSlice rfl rfl rfl rfl rfl rfl rfl (fun b1 hb1 => ?_))
  refine At.run 100 true [true] [] rfl (by (repeat' apply And.intro) <;> first | exact True.intro | omega | (simp only [inK]; omega) | (simp; done) | (simp; omega) | exact decide_eq_true (by omega) | exact decide_eq_false (by omega) | rfl | (simp [Value.oneCell']; done) | exact i64s_one _ | exact AggOk.mk (by kernel_rfl) (by kernel_rfl)) ?_
  refine At.step [true] rfl rfl rfl rfl rfl rfl (OpOk.buildSlice rfl rfl rfl rfl rfl rfl rfl (fun b2 hb2 => ?_))
  have hS : CallOb Tryd.prog ⟨w, kys [] []⟩ [(b2, 46, chC (e01 b1)), (b1, 2, i64s [10]), (bs, 50, i64s [3, 10])] [Seg.row g2 46 5 D.length c2 (D.flatMap chC), Seg.row g1 67 5 D.length c1 (D.flatMap chC), Seg.pack (T.flatMap Tryd.yeB) [], Seg.pack (U.flatMap Tryd.yeB) []] 16 [sv g2 D.length c2, .slice (some ⟨b2, 0, none⟩) 1 1] (.bool true) := fun w' hw' => by
    have := Tryd.rSame14_w D [e01 b1] (svA g2) (some ⟨b2, 0, none⟩) c2 1 w' (by omega) (by simp) (SlOk.row (hw'.hp _ (List.mem_cons_self ..))) (SlOk.blk (hw'.bx (b2, 46, chC (e01 b1)) (List.mem_cons_self ..)))
      (by rw [← hDd]; exact Tryd.diffK_chl hw' (by simp) (by simp) hT hU bk0_in bk1_in _)
      (fun e he => by rw [List.mem_singleton] at he; subst he; exact ⟨.inl rfl, SlOk.blk (hw'.bx (b1, 2, i64s [10]) (by simp)), by simp [e01], by simp [e01]⟩)
    rw [hD, show [e01 b1].map chP = [((4, 3, 0), [], [10])] from rfl, decide_eq_true rfl] at this
    exact this
  refine At.run 100 true [true, true] [hC (.bool true)] rfl (by (repeat' apply And.intro) <;> first | exact hS | exact True.intro | omega | rfl | (simp only [inK]; omega) | exact decide_eq_true (by omega) | exact decide_eq_false (by omega) | (simp; done) | (simp; omega) | (simp [Value.oneCell']; done) | exact i64s_one _ | exact AggOk.mk (by kernel_rfl) (by kernel_rfl)) ?_
  exact At.retK [] [] [] rfl rfl Tryd.func5 rfl trivial ⟨rfl, rfl, rfl⟩

end Go.Proofs

/-
  Walks of layer 14: a book patched.
-/
namespace Go.Proofs
open Go Go.Eng
set_option maxRecDepth 100000
set_option maxHeartbeats 4000000
attribute [local irreducible] Tri

theorem rowsF_row {T : List PE} {f : FunT} (h : TabR (T.map PE.row) f) : rowsF f (T.map (·.k)) = T.map PE.row := by
  unfold rowsF
  rw [List.map_map]
  refine List.map_congr_left fun x hx => ?_
  have := ((h.iff x.k x.v).1 (List.mem_map.2 ⟨x, hx, rfl⟩)).1
  show (x.k, f x.k) = (x.k, x.v)
  rw [this]
theorem keys_row (T : List PE) : (T.map PE.row).map (·.1) = T.map (·.k) := by rw [List.map_map]; rfl
theorem laid_isBk {T : List PE} {f : FunT} (h : TabR (T.map PE.row) f) (hl : T.length ≤ 1048576) (hc : f (5, 0, 0) ≠ []) : IsBk f (bkOf (rowsF f (sort3 (T.map (·.k))))) := by
  have hnd : (T.map (·.k)).Nodup := by rw [← keys_row]; exact h.nd
  refine isBk_of h (RS := rowsF f (sort3 (T.map (·.k)))) ?_ ?_ (by rw [List.length_map]; exact hl) hc
  · rw [← rowsF_row h]
    exact (List.mergeSort_perm _ _).map _
  · unfold rowsF
    rw [List.pairwise_map]
    exact sort3_ris hnd
/-- Changes whose numbers are of 64 bits. -/
def ChI (L : List ChE) : Prop := ∀ e, e ∈ L → In3 e.k ∧ ∀ x, x ∈ e.is → inK .i64 x
theorem mayC_wf {e : ChP} (h : mayC e = true) (hk : In3 e.1) (hv : ∀ x, x ∈ e.2.2 → inK .i64 x) (hne : e.2.2 ≠ []) : RowWf (e.1, e.2.2) := by
  simp only [mayC, Bool.and_eq_true, decide_eq_true_eq] at h
  obtain ⟨⟨h1, h2, h3, h4, h5⟩, h6, h7⟩ := h
  have hlen : e.2.2.length = widN e.1.1 := by
    unfold valuesB at h7
    rw [if_neg hne, Bool.and_eq_true, decide_eq_true_eq] at h7
    exact h7.1
  exact ⟨h1, h2, hk.2.1, hk.2.2, hv, hlen, h4, h5⟩
theorem mayC_del {e : ChP} (h : mayC e = true) (hne : e.2.2 = []) : e.1.1 ≠ 5 := by
  simp only [mayC, Bool.and_eq_true, decide_eq_true_eq] at h
  have h7 := h.2.2
  unfold valuesB at h7
  rw [if_pos hne, decide_eq_true_eq] at h7
  exact h7

theorem chkP_cons (f : FunT) (e : ChP) (l : List ChP) : chkP f (e :: l) = if f e.1 = e.2.1 then chkP (upd f e.1 e.2.2) l else none := rfl
def errB (n : Int) : Value := .tuple #[.agg ⟨bkV ⟨[], [], [], [], 0⟩ ⟨none, none, none, none, 0, 0, 0, 0⟩⟩, .int .i64 n]
/-- What a patch answers. -/
def Tryd.PatchR (a : Bk) (l : List ChP) (v : Value) (bx : Bx) (hp : List Seg) : Prop := bx = [] ∧ (
    (mayB a = false ∧ v = errB 1 ∧ hp = []) ∨
    (mayB a = true ∧ rightB l = false ∧ v = errB 3 ∧ hp = []) ∨
    (mayB a = true ∧ rightB l = true ∧ chkP (valB a) l = none ∧ v = errB 7 ∧ hp = []) ∨
    (∃ f b, mayB a = true ∧ rightB l = true ∧ chkP (valB a) l = some f ∧ IsBk f b ∧ ((mayB b = false ∧ v = errB 1 ∧ hp = []) ∨ (mayB b = true ∧ ∃ q : BkQ, v = .tuple #[.agg ⟨bkV b q.A⟩, .int .i64 0] ∧ hp = Tryd.bkHp b q))))

theorem Tryd.Patch_w (a : Bk) (A : BkA) (L : List ChE) (la : Option Addr) (lc : Nat) (w : World) (hi : BkIn a) (ho : BkOk w a A) (hl : SlOk w la (L.flatMap chC)) (hLs : ChL w L) (hI : ChI L) (hsz : (rowsB a).length + L.length ≤ 1048576) (hW : Tryd.Wid w) :
    Tri Tryd.prog 9 [.agg ⟨bkV a A⟩, .slice la L.length lc] w [] (Tryd.PatchR a (L.map chP)) := by
  refine Tri.enter (bx := []) (hp := []) Tryd.func9 rfl (by kernel_rfl) rfl (Own.nil w) ?_
  have hm0 : ∀ k, k ∉ (⟨w, kys [] []⟩ : Base).mods := by simp [kys]
  have hMa : ∀ {bx : Bx} {hp : List Seg}, CallOb Tryd.prog ⟨w, kys [] []⟩ bx hp 21 [.agg ⟨bkV a A⟩] (.bool (mayB a)) := fun {_ _} w' hw' => Tryd.May_w a A w' hi (ho.ext hw'.ext (by simp [kys]))
  have hRt : ∀ {bx : Bx} {hp : List Seg}, CallOb Tryd.prog ⟨w, kys [] []⟩ bx hp 26 [.slice la L.length lc] (.bool (rightB (L.map chP))) := fun {_ _} w' hw' => Tryd.right_w L la lc w' (by omega) (hl.ext hw'.ext (by simp [kys])) (hLs.ext hw'.ext (by simp [kys])) (Tryd.Wid.ext hW hw'.ext (by simp [kys]))
  refine At.run 100 true [] [] rfl trivial ?_
  refine At.step [] rfl rfl rfl rfl rfl trivial (OpOk.box rfl rfl rfl fun bq hbq => ?_)
  refine At.step [] rfl rfl rfl rfl rfl trivial (OpOk.alloc (cs := [.slice none 0 0, .slice none 0 0, .slice none 0 0, .slice none 0 0, .int .i64 0]) rfl (by kernel_rfl) fun b4 hb4 => ?_)
  cases ha : mayB a with
  | false =>
    rw [ha] at hMa
    refine At.run 100 true [true] [hB 1, hC (.bool false), hB 0] rfl (by (repeat' apply And.intro) <;> first | exact hMa | exact True.intro | omega | rfl | (simp only [inK]; omega) | exact decide_eq_true (by omega) | exact decide_eq_false (by omega) | (simp; done) | (simp; omega) | (simp [Value.oneCell']; done) | exact i64s_one _ | exact AggOk.mk (by kernel_rfl) (by kernel_rfl)) ?_
    exact At.retK [] [] [hB 0] rfl rfl Tryd.func9 rfl ⟨rfl, trivial⟩ ⟨rfl, .inl ⟨ha, rfl, rfl⟩⟩
  | true =>
  rw [ha] at hMa
  cases hr : rightB (L.map chP) with
  | false =>
    rw [hr] at hRt
    refine At.run 100 true [false, true] [hB 1, hC (.bool true), hC (.bool false), hB 0] rfl (by (repeat' apply And.intro) <;> first | exact hMa | exact hRt | exact True.intro | omega | rfl | (simp only [inK]; omega) | exact decide_eq_true (by omega) | exact decide_eq_false (by omega) | (simp; done) | (simp; omega) | (simp [Value.oneCell']; done) | exact i64s_one _ | exact AggOk.mk (by kernel_rfl) (by kernel_rfl)) ?_
    exact At.retK [] [] [hB 0] rfl rfl Tryd.func9 rfl ⟨rfl, trivial⟩ ⟨rfl, .inr (.inl ⟨ha, hr, rfl, rfl⟩)⟩
  | true =>
  rw [hr] at hRt
  have hrp := rightB_iff.1 hr
  have hla : listsB a = true := by simp only [mayB, Bool.and_eq_true] at ha; exact ha.1
  refine At.run 100 true [false, false] [hB 1, hC (.bool true), hC (.bool true), hB 1] rfl (by (repeat' apply And.intro) <;> first | exact hMa | exact hRt | exact True.intro | omega | rfl | (simp only [inK]; omega) | exact decide_eq_true (by omega) | exact decide_eq_false (by omega) | (simp; done) | (simp; omega) | (simp [Value.oneCell']; done) | exact i64s_one _ | exact AggOk.mk (by kernel_rfl) (by kernel_rfl)) ?_
  refine At.step [] rfl rfl rfl rfl rfl trivial (OpOk.call rfl (fun w' hw' => Tryd.table_w a A w' hi (ho.ext hw'.ext (by simp [kys])) hla) ?_)
  rintro v bx' hp' ⟨m, T, rfl, rfl, rfl, hT⟩
  refine At.run 100 true [] [] rfl (by (repeat' apply And.intro) <;> first | exact True.intro | omega | (simp only [inK]; omega) | (simp; done) | (simp; omega) | exact decide_eq_true (by omega) | exact decide_eq_false (by omega) | rfl | (simp [Value.oneCell']; done) | exact i64s_one _ | exact AggOk.mk (by kernel_rfl) (by kernel_rfl)) ?_
  refine At.reshape (fun w' hw' => Tryd.split_tab hw') ?_
  refine At.order (br := [(b4, 27, [.slice none 0 0, .slice none 0 0, .slice none 0 0, .slice none 0 0, .int .i64 0]), (bq, 27, bkV a A)]) (hr := [Seg.mapQ m K3 ((T.map PE.of).map PE.ent), Seg.pack (T.flatMap Tryd.yeB) []]) [] [1] rfl (by rw [PE.of_ent]; rfl) ?_
  have hTl : T.length = (rowsB a).length := by have := congrArg List.length hT; simpa using this
  have hT0 : TabR ((T.map PE.of).map PE.row) (valB a) := by rw [PE.of_row, hT]; exact tabB hi hla
  refine At.loop (n := L.length) (env0 := [(1, .slice la L.length lc), (2, .pointer (some ⟨bq, 0, none⟩)), (4, .pointer (some ⟨b4, 0, none⟩)), (6, .map (some m)), (20, .slice la L.length lc), (21, .int .i64 L.length), (22, .int .i64 0)]) (fun n env bx hp => ∃ (i : Nat) (PT : List PE) (f : FunT), n = L.length - i ∧ i ≤ L.length ∧ TabR (PT.map PE.row) f ∧ chkP (valB a) (L.map chP) = chkP f ((L.map chP).drop i) ∧ PT.length ≤ T.length + i ∧ f (5, 0, 0) ≠ [] ∧ (∀ x, x ∈ PT → (x ∈ T.map PE.of ∨ ∃ e, e ∈ L ∧ x = ⟨e.k, e.is, e.ia, e.ic⟩)) ∧
    env = [(1, .slice la L.length lc), (2, .pointer (some ⟨bq, 0, none⟩)), (4, .pointer (some ⟨b4, 0, none⟩)), (6, .map (some m)), (20, .slice la L.length lc), (21, .int .i64 L.length), (22, .int .i64 i)] ∧ bx = [(b4, 27, [.slice none 0 0, .slice none 0 0, .slice none 0 0, .slice none 0 0, .int .i64 0]), (bq, 27, bkV a A)] ∧ hp = [Seg.mapQ m K3 (PT.map PE.ent), Seg.pack (T.flatMap Tryd.yeB) []]) rfl
    ⟨0, T.map PE.of, valB a, by simp, by omega, hT0, rfl, by simp, by rw [valB_c hi hla]; simp, fun x hx => .inl hx, rfl, rfl, rfl⟩ ⟨rfl, rfl, rfl, rfl, rfl, rfl, rfl, trivial⟩ ?_
  rintro n env bx hp ⟨i, PT, f, rfl, hi2, hTab, hchk, hPl, hf5, hsrc, rfl, rfl, rfl⟩ ih
  have hSl : ∀ {bx : Bx} {s : Seg} {w' : World}, WOk ⟨w, kys [] []⟩ bx [s, Seg.pack (T.flatMap Tryd.yeB) []] w' → ∀ x, x ∈ PT → SlOk w' x.a (i64s x.v) := fun {_ _ w'} hw' x hx => by
    rcases hsrc x hx with h | ⟨e, he, rfl⟩
    · obtain ⟨y, hy, rfl⟩ := List.mem_map.1 h
      exact Tryd.sl_of hw' (by simp) hy
    · exact (hLs e he).2.1.ext hw'.ext (by simp [kys])
  by_cases hlt : i < L.length
  · obtain ⟨e, hx⟩ : ∃ e, L[i]? = some e := ⟨_, List.getElem?_eq_getElem hlt⟩
    have hmem := List.mem_of_getElem? hx
    have hxP : (L.map chP)[i]? = some (chP e) := by rw [List.getElem?_map, hx]; rfl
    have hmay : mayC (chP e) = true := hrp.may _ (List.mem_of_getElem? hxP)
    obtain ⟨hkin, hvin⟩ := hI e hmem
    obtain ⟨x1, x2, x3, x4⟩ := hLs e hmem
    obtain ⟨g, o, rfl, hc⟩ := hl.get (chC_ne hx)
    have rX : ∀ {bx : Bx} {hp : List Seg}, RdW ⟨w, kys [] []⟩ bx hp g (o + (i : Int).toNat * 5) (chC e) := fun {_ _} => RdW.chE hc (hm0 _) hx (by simp)
    have hK : ∀ {bx : Bx} {hp : List Seg}, CallOb Tryd.prog ⟨w, kys [] []⟩ bx hp 27 [.agg ⟨chC e⟩] (key3 e.k) := fun {_ _} w' _ => Tryd.key_w e w'
    rw [drop_at hxP, chkP_cons] at hchk
    obtain ⟨av, cv, hLk, hsl⟩ : ∃ av cv, (∀ {bx : Bx}, LookOb Tryd.prog ⟨w, kys [] []⟩ bx [Seg.mapQ m K3 (PT.map PE.ent), Seg.pack (T.flatMap Tryd.yeB) []] 58 (.map (some m)) (key3 e.k) false (.slice av (f e.k).length cv)) ∧ (∀ {bx : Bx} {s : Seg} {w' : World}, WOk ⟨w, kys [] []⟩ bx [s, Seg.pack (T.flatMap Tryd.yeB) []] w' → SlOk w' av (i64s (f e.k))) := by
      by_cases hne : f e.k = []
      · refine ⟨none, 0, fun {_} => ?_, fun {_ _ w'} _ => .inl (by rw [hne]; rfl)⟩
        rw [hne]
        refine LookOb.missQ false Tryd.tableT Tryd.keyK (fun w => Tryd.zeroI64 w) (fun w' hw' => hw'.hp (Seg.mapQ m K3 (PT.map PE.ent)) (by simp)) ⟨e.k, rfl, hkin⟩ (fun p hp e2 => ?_)
        obtain ⟨z, hz, rfl⟩ := List.mem_map.1 hp
        exact hTab.miss hne z.row (List.mem_map_of_mem hz) (key3_inj e2)
      · obtain ⟨j, hj⟩ := hTab.find hne
        rw [List.getElem?_map] at hj
        obtain ⟨z, hz, hze⟩ := Option.map_eq_some_iff.1 hj
        have h1 : z.k = e.k := congrArg Prod.fst hze
        have h2 : z.v = f e.k := congrArg Prod.snd hze
        refine ⟨z.a, z.c, fun {_} => ?_, fun {_ _ w'} hw' => by rw [← h2]; exact hSl hw' z (List.mem_of_getElem? hz)⟩
        exact LookOb.hitQ false Tryd.tableT Tryd.keyK (fun w' hw' => hw'.hp (Seg.mapQ m K3 (PT.map PE.ent)) (by simp)) ⟨e.k, rfl, hkin⟩ (i := j) (by rw [List.getElem?_map, hz]; simp [PE.ent, h1, h2])
    have hflen : (f e.k).length ≤ 5 := by
      by_cases hne : f e.k = []
      · rw [hne]; simp
      · have := (hTab.wfF hne).len
        simp only [widN] at this
        split at this
        · omega
        · split at this <;> omega
    have hEq : ∀ {bx : Bx}, CallOb Tryd.prog ⟨w, kys [] []⟩ bx [Seg.mapQ m K3 (PT.map PE.ent), Seg.pack (T.flatMap Tryd.yeB) []] 25 [.slice av (f e.k).length cv, .slice e.wa e.was.length e.wc] (.bool (decide (f e.k = e.was))) := fun {_} w' hw' =>
      Tryd.equal_w _ _ _ _ _ _ w' (by omega) (by omega) (hsl hw') (x1.ext hw'.ext (by simp [kys]))
    refine At.run 100 true [true] [hR (chC e)] rfl (by (repeat' apply And.intro) <;> first | exact rX | exact True.intro | omega | rfl | (simp only [inK]; omega) | exact decide_eq_true (by omega) | exact decide_eq_false (by omega) | (simp; done) | (simp; omega) | (simp [Value.oneCell']; done) | exact i64s_one _ | exact AggOk.mk (by kernel_rfl) (by kernel_rfl)) ?_
    refine At.step [] rfl rfl rfl rfl rfl trivial (OpOk.alloc (cs := [.int .i64 0, .int .i64 0, .int .i64 0, .slice none 0 0, .slice none 0 0]) rfl (by kernel_rfl) fun b8 hb8 => ?_)
    refine At.run 100 true [] [hB 0] rfl (by (repeat' apply And.intro) <;> first | exact chC_one _ | exact True.intro | omega | rfl | (simp only [inK]; omega) | exact decide_eq_true (by omega) | exact decide_eq_false (by omega) | (simp; done) | (simp; omega) | (simp [Value.oneCell']; done) | exact i64s_one _ | exact AggOk.mk (by kernel_rfl) (by kernel_rfl)) ?_
    refine At.quiet true [] [hB 0, hC (key3 e.k), hL (.slice av (f e.k).length cv), hB 0, hC (.bool (decide (f e.k = e.was)))] ⟨by kernel_rfl, by kernel_rfl, rfl, rfl, rfl⟩ rfl rfl rfl (by (repeat' apply And.intro) <;> first | exact hK | exact hLk | exact hEq | exact True.intro | omega | rfl | (simp only [inK]; omega) | exact decide_eq_true (by omega) | exact decide_eq_false (by omega) | (simp; done) | (simp; omega) | (simp [Value.oneCell']; done) | exact i64s_one _ | exact AggOk.mk (by kernel_rfl) (by kernel_rfl)) ?_
    by_cases hfe : f e.k = e.was
    · rw [if_pos (show f (chP e).1 = (chP e).2.1 from hfe)] at hchk
      have hdrop : (L.map chP).drop (i + 1) = (L.map chP).drop (i + 1) := rfl
      by_cases his : e.is = []
      · have hne : f e.k ≠ [] := by
          intro h
          simp only [mayC, Bool.and_eq_true, decide_eq_true_eq] at hmay
          exact hmay.1.2.2.1 (by show e.was = e.is; rw [← hfe, h, his])
        have hk5 : e.k.1 ≠ 5 := mayC_del hmay his
        obtain ⟨j, hj⟩ := hTab.find hne
        have hj0 := hj
        rw [List.getElem?_map] at hj
        obtain ⟨z, hz, hze⟩ := Option.map_eq_some_iff.1 hj
        have h1 : z.k = e.k := congrArg Prod.fst hze
        have hT' := hTab.erase hj0
        rw [← eraseIdx_map'] at hT'
        have hje : (PT.map PE.ent)[j]? = some (key3 e.k, .slice z.a z.v.length z.c) := by rw [List.getElem?_map, hz]; simp [PE.ent, h1]
        refine At.run 100 true [false, true] [hB 0, hB 0, hC (key3 e.k)] rfl (by (repeat' apply And.intro) <;> first | exact hK | (simp [hfe]; done) | (simp [his]; done) | exact True.intro | omega | rfl | (simp only [inK]; omega) | exact decide_eq_true (by omega) | exact decide_eq_false (by omega) | (simp; done) | (simp; omega) | (simp [Value.oneCell']; done) | exact i64s_one _ | exact AggOk.mk (by kernel_rfl) (by kernel_rfl)) ?_
        refine At.step0 [] rfl rfl rfl rfl trivial (OpOk.mapDelQ 0 rfl Tryd.tableT Tryd.keyK ⟨e.k, rfl, hkin⟩ rfl hje ?_)
        simp only [setL]
        rw [← eraseIdx_map']
        refine At.run 100 true [] [] rfl (by (repeat' apply And.intro) <;> first | exact True.intro | omega | (simp only [inK]; omega) | (simp; done) | (simp; omega) | exact decide_eq_true (by omega) | exact decide_eq_false (by omega) | rfl | (simp [Value.oneCell']; done) | exact i64s_one _ | exact AggOk.mk (by kernel_rfl) (by kernel_rfl)) ?_
        refine At.keep [false, true, true] [true, true] rfl ?_
        exact At.weak (ih _ _ _ _ (by omega) ⟨i + 1, PT.eraseIdx j, upd f e.k [], rfl, by omega, hT', by rw [hchk]; simp only [chP, his], by have := List.length_eraseIdx_le PT j; omega, by unfold upd; rw [if_neg (fun h => hk5 (by rw [← h]))]; exact hf5, fun x hx => hsrc x ((List.eraseIdx_sublist ..).mem hx), rfl, rfl, rfl⟩) ⟨rfl, rfl, rfl, rfl, rfl, rfl, some_int_eq (by omega), trivial⟩
      · have hwf : RowWf (e.k, e.is) := mayC_wf hmay hkin hvin his
        have hf5' : upd f e.k e.is (5, 0, 0) ≠ [] := by
          unfold upd
          split
          · exact his
          · exact hf5
        have hisl : ¬ ((e.is.length : Int) = 0) := by have := List.length_pos_iff.2 his; omega
        by_cases hne : f e.k = []
        · have hms := hTab.miss hne
          have hT' := hTab.push hms hwf
          have hmsE : ∀ p, p ∈ PT.map PE.ent → p.1 ≠ key3 e.k := by
            intro p hp e2
            obtain ⟨z, hz, rfl⟩ := List.mem_map.1 hp
            exact hms z.row (List.mem_map_of_mem hz) (key3_inj e2)
          refine At.run 100 true [false, false] [hB 0] rfl (by (repeat' apply And.intro) <;> first | (simp [hfe]; done) | exact decide_eq_false hisl | exact True.intro | omega | rfl | (simp only [inK]; omega) | exact decide_eq_true (by omega) | exact decide_eq_false (by omega) | (simp; done) | (simp; omega) | (simp [Value.oneCell']; done) | exact i64s_one _ | exact AggOk.mk (by kernel_rfl) (by kernel_rfl)) ?_
          refine At.draw 6 rfl rfl rfl rfl ?_
          refine AtD.pures (ob := True) true (by kernel_rfl) [0] (fuel := 5) (by kernel_rfl) rfl (by (repeat' apply And.intro) <;> first | exact True.intro | omega | (simp only [inK]; omega) | (simp; done) | (simp; omega) | exact decide_eq_true (by omega) | exact decide_eq_false (by omega) | rfl | (simp [Value.oneCell']; done) | exact i64s_one _ | exact AggOk.mk (by kernel_rfl) (by kernel_rfl)) ?_
          refine AtD.lex 1 4 1 true [] [hB 0, hC (key3 e.k), hB 0] ⟨by kernel_rfl, by kernel_rfl, by kernel_rfl, rfl, by kernel_rfl, by kernel_rfl⟩ rfl rfl rfl (by (repeat' apply And.intro) <;> first | exact hK | exact True.intro | omega | rfl | (simp only [inK]; omega) | exact decide_eq_true (by omega) | exact decide_eq_false (by omega) | (simp; done) | (simp; omega) | (simp [Value.oneCell']; done) | exact i64s_one _ | exact AggOk.mk (by kernel_rfl) (by kernel_rfl)) (fun h => by cases h) ?_
          refine AtD.fork1 5 (by kernel_rfl) (StepD.by0 [] rfl rfl rfl trivial (OpOk.mapPushQ 0 rfl rfl rfl rfl Tryd.tableT Tryd.keyK ⟨e.k, rfl, hkin⟩ rfl hmsE ?_))
          refine AtD.done (by kernel_rfl) ?_
          simp only [setL]
          refine At.run 100 true [] [] rfl (by (repeat' apply And.intro) <;> first | exact True.intro | omega | (simp only [inK]; omega) | (simp; done) | (simp; omega) | exact decide_eq_true (by omega) | exact decide_eq_false (by omega) | rfl | (simp [Value.oneCell']; done) | exact i64s_one _ | exact AggOk.mk (by kernel_rfl) (by kernel_rfl)) ?_
          refine At.keep [false, true, true] [true, true] rfl ?_
          have ih := ih _ _ _ _ (by omega) ⟨i + 1, PT ++ [⟨e.k, e.is, e.ia, e.ic⟩], upd f e.k e.is, rfl, by omega, by rw [List.map_append]; exact hT', hchk, by rw [List.length_append, List.length_singleton]; omega, hf5', fun x hx => by
            rcases List.mem_append.1 hx with hx | hx
            · exact hsrc x hx
            · rw [List.mem_singleton] at hx; exact .inr ⟨e, hmem, hx⟩, rfl, rfl, rfl⟩
          rw [List.map_append] at ih
          exact At.weak ih ⟨rfl, rfl, rfl, rfl, rfl, rfl, some_int_eq (by omega), trivial⟩
        · obtain ⟨j, hj⟩ := hTab.find hne
          have hj0 := hj
          rw [List.getElem?_map] at hj
          obtain ⟨z, hz, hze⟩ := Option.map_eq_some_iff.1 hj
          have h1 : z.k = e.k := congrArg Prod.fst hze
          have hT' := hTab.set hj0 hwf
          have hje : (PT.map PE.ent)[j]? = some (key3 e.k, .slice z.a z.v.length z.c) := by rw [List.getElem?_map, hz]; simp [PE.ent, h1]
          refine At.run 100 true [false, false] [hB 0] rfl (by (repeat' apply And.intro) <;> first | (simp [hfe]; done) | exact decide_eq_false hisl | exact True.intro | omega | rfl | (simp only [inK]; omega) | exact decide_eq_true (by omega) | exact decide_eq_false (by omega) | (simp; done) | (simp; omega) | (simp [Value.oneCell']; done) | exact i64s_one _ | exact AggOk.mk (by kernel_rfl) (by kernel_rfl)) ?_
          refine At.draw 6 rfl rfl rfl rfl ?_
          refine AtD.pures (ob := True) true (by kernel_rfl) [0] (fuel := 5) (by kernel_rfl) rfl (by (repeat' apply And.intro) <;> first | exact True.intro | omega | (simp only [inK]; omega) | (simp; done) | (simp; omega) | exact decide_eq_true (by omega) | exact decide_eq_false (by omega) | rfl | (simp [Value.oneCell']; done) | exact i64s_one _ | exact AggOk.mk (by kernel_rfl) (by kernel_rfl)) ?_
          refine AtD.lex 1 4 1 true [] [hB 0, hC (key3 e.k), hB 0] ⟨by kernel_rfl, by kernel_rfl, by kernel_rfl, rfl, by kernel_rfl, by kernel_rfl⟩ rfl rfl rfl (by (repeat' apply And.intro) <;> first | exact hK | exact True.intro | omega | rfl | (simp only [inK]; omega) | exact decide_eq_true (by omega) | exact decide_eq_false (by omega) | (simp; done) | (simp; omega) | (simp [Value.oneCell']; done) | exact i64s_one _ | exact AggOk.mk (by kernel_rfl) (by kernel_rfl)) (fun h => by cases h) ?_
          refine AtD.fork1 5 (by kernel_rfl) (StepD.by0 [] rfl rfl rfl trivial (OpOk.mapPutQ 0 rfl rfl rfl rfl Tryd.tableT Tryd.keyK ⟨e.k, rfl, hkin⟩ rfl hje ?_))
          refine AtD.done (by kernel_rfl) ?_
          simp only [setL]
          refine At.run 100 true [] [] rfl (by (repeat' apply And.intro) <;> first | exact True.intro | omega | (simp only [inK]; omega) | (simp; done) | (simp; omega) | exact decide_eq_true (by omega) | exact decide_eq_false (by omega) | rfl | (simp [Value.oneCell']; done) | exact i64s_one _ | exact AggOk.mk (by kernel_rfl) (by kernel_rfl)) ?_
          refine At.keep [false, true, true] [true, true] rfl ?_
          have ih := ih _ _ _ _ (by omega) ⟨i + 1, PT.set j ⟨e.k, e.is, e.ia, e.ic⟩, upd f e.k e.is, rfl, by omega, by rw [List.map_set]; exact hT', hchk, by rw [List.length_set]; omega, hf5', fun x hx => by
            rcases List.mem_or_eq_of_mem_set hx with hx | hx
            · exact hsrc x hx
            · exact .inr ⟨e, hmem, hx⟩, rfl, rfl, rfl⟩
          rw [List.map_set] at ih
          exact At.weak ih ⟨rfl, rfl, rfl, rfl, rfl, rfl, some_int_eq (by omega), trivial⟩
    · rw [if_neg (show ¬ f (chP e).1 = (chP e).2.1 from hfe)] at hchk
      refine At.run 100 true [true] [hB 1] rfl (by (repeat' apply And.intro) <;> first | (simp [hfe]; done) | exact True.intro | omega | rfl | (simp only [inK]; omega) | exact decide_eq_true (by omega) | exact decide_eq_false (by omega) | (simp; done) | (simp; omega) | (simp [Value.oneCell']; done) | exact i64s_one _ | exact AggOk.mk (by kernel_rfl) (by kernel_rfl)) ?_
      exact At.retK [] [] [hB 1] rfl rfl Tryd.func9 rfl ⟨rfl, trivial⟩ ⟨rfl, .inr (.inr (.inl ⟨ha, hr, hchk, rfl, rfl⟩))⟩
  · rw [List.drop_of_length_le (by rw [List.length_map]; omega)] at hchk
    have hchk : chkP (valB a) (L.map chP) = some f := hchk
    clear ih
    have hpos : 0 < PT.length := by
      obtain ⟨j, hj⟩ := hTab.find hf5
      have := (List.getElem?_eq_some_iff.1 hj).1
      rw [List.length_map] at this; omega
    have hPl' : PT.length ≤ 1048576 := by omega
    have hbk := laid_isBk hTab hPl' hf5
    refine At.run 100 true [false] [] rfl (by (repeat' apply And.intro) <;> first | exact True.intro | omega | (simp only [inK]; omega) | (simp; done) | (simp; omega) | exact decide_eq_true (by omega) | exact decide_eq_false (by omega) | rfl | (simp [Value.oneCell']; done) | exact i64s_one _ | exact AggOk.mk (by kernel_rfl) (by kernel_rfl)) ?_
    refine At.step [] rfl rfl rfl rfl rfl trivial (OpOk.call (Q := fun v bx hp => bx = [] ∧ ∃ (q : BkQ), v = .agg ⟨bkV (bkOf (rowsF f (sort3 (PT.map (·.k))))) q.A⟩ ∧ hp = Tryd.bkHp (bkOf (rowsF f (sort3 (PT.map (·.k))))) q) rfl (fun w' hw' => by
      obtain ⟨es, ck, h1, h2, h3, h4⟩ : MapQ w' m K3 (PT.map PE.ent) := hw'.hp (Seg.mapQ m K3 (PT.map PE.ent)) (by simp)
      exact Tryd.laid_w m ck es PT f w' h1 h2 h4 h3 hTab (hSl hw') hPl' hpos) ?_)
    rintro v bx' hp' ⟨rfl, q, rfl, rfl⟩
    generalize bkOf (rowsF f (sort3 (PT.map (·.k)))) = b at *
    refine At.run 100 true [] [] rfl (by (repeat' apply And.intro) <;> first | exact True.intro | omega | (simp only [inK]; omega) | (simp; done) | (simp; omega) | exact decide_eq_true (by omega) | exact decide_eq_false (by omega) | rfl | (simp [Value.oneCell']; done) | exact i64s_one _ | exact AggOk.mk (by kernel_rfl) (by kernel_rfl)) ?_
    refine At.step [] rfl rfl rfl rfl rfl trivial (OpOk.alloc (cs := [.slice none 0 0, .slice none 0 0, .slice none 0 0, .slice none 0 0, .int .i64 0]) rfl (by kernel_rfl) fun b9 hb9 => ?_)
    have hMb : ∀ {bx : Bx}, CallOb Tryd.prog ⟨w, kys [] []⟩ bx (Tryd.bkHp b q ++ [Seg.mapQ m K3 (PT.map PE.ent), Seg.pack (T.flatMap Tryd.yeB) []]) 21 [.agg ⟨bkV b q.A⟩] (.bool (mayB b)) := fun {_} w' hw' => Tryd.May_w b q.A w' hbk.inn (Tryd.bkHp_ok fun s hs => hw'.hp s (List.mem_append_left _ hs))
    cases hb : mayB b with
    | false =>
      rw [hb] at hMb
      refine At.run 100 true [true] [hB 0, hB 0, hC (.bool false), hB 1] rfl (by (repeat' apply And.intro) <;> first | exact hMb | exact bkV_cells _ _ | exact True.intro | omega | rfl | (simp only [inK]; omega) | exact decide_eq_true (by omega) | exact decide_eq_false (by omega) | (simp; done) | (simp; omega) | (simp [Value.oneCell']; done) | exact i64s_one _ | exact AggOk.mk (by kernel_rfl) (by kernel_rfl)) ?_
      exact At.retK [] [] [hB 1] rfl rfl Tryd.func9 rfl ⟨rfl, trivial⟩ ⟨rfl, .inr (.inr (.inr ⟨f, b, ha, hr, hchk, hbk, .inl ⟨hb, rfl, rfl⟩⟩))⟩
    | true =>
      rw [hb] at hMb
      refine At.run 100 true [false] [hB 0, hB 0, hC (.bool true), hB 0, hB 1] rfl (by (repeat' apply And.intro) <;> first | exact hMb | exact bkV_cells _ _ | exact True.intro | omega | rfl | (simp only [inK]; omega) | exact decide_eq_true (by omega) | exact decide_eq_false (by omega) | (simp; done) | (simp; omega) | (simp [Value.oneCell']; done) | exact i64s_one _ | exact AggOk.mk (by kernel_rfl) (by kernel_rfl)) ?_
      exact At.retK [] [true, true, true, true] [hB 1] rfl rfl Tryd.func9 rfl ⟨rfl, trivial⟩ ⟨rfl, .inr (.inr (.inr ⟨f, b, ha, hr, hchk, hbk, .inr ⟨hb, q, rfl, rfl⟩⟩))⟩
end Go.Proofs

/-
  Walks of layer 14's statements: a book and its diff.
-/
namespace Go.Proofs
open Go Go.Eng
set_option maxRecDepth 100000
set_option maxHeartbeats 4000000
attribute [local irreducible] Tri

theorem isDiff_of {T U : List YE} {a b : Bk} (hT : T.map YE.row = rowsB a) (hU : U.map YE.row = rowsB b) (hia : BkIn a) (hib : BkIn b) (hla : listsB a = true) (hlb : listsB b = true) : IsDiff (valB a) (valB b) ((diffK T U (sort3 (keysT T U))).map chP) := by
  have hyT := YOk.of hT (rowsB_ok hia hla)
  have hyU := YOk.of hU (rowsB_ok hib hlb)
  rw [diffK_eq hyT hyU]
  have := mgE_isDiff hyT hyU
  rw [getT_val, getT_val, hT, hU] at this
  exact this
theorem widN_le (l : Int) : widN l ≤ 5 := by unfold widN; split; · omega
                                             split <;> omega
theorem isDiff_in {a b : Bk} {L : List ChE} (hia : BkIn a) (hib : BkIn b) (hla : listsB a = true) (hlb : listsB b = true) (h : IsDiff (valB a) (valB b) (L.map chP)) : ChI L ∧ ChS L := by
  have len : ∀ {c : Bk}, BkIn c → listsB c = true → ∀ k, (valB c k).length ≤ 5 := by
    intro c hi hl k
    by_cases e : valB c k = []
    · rw [e]; simp
    · have := ((tabB hi hl).wfF e).len
      have h5 := widN_le k.1
      simp only at this; omega
  constructor
  · intro e he
    obtain ⟨h1, h2, h3⟩ := (h.mem (chP e)).1 (List.mem_map_of_mem he)
    have h1 : e.was = valB a e.k := h1
    have h2 : e.is = valB b e.k := h2
    have h3 : e.was ≠ e.is := h3
    refine ⟨?_, fun x hx => ?_⟩
    · by_cases e0 : valB a e.k = []
      · have hne : valB b e.k ≠ [] := fun e1 => h3 (by rw [h1, h2, e0, e1])
        exact ((tabB hib hlb).wfF hne).in3
      · exact ((tabB hia hla).wfF e0).in3
    · have hne : valB b e.k ≠ [] := fun e1 => by rw [h2, e1] at hx; cases hx
      rw [h2] at hx
      exact ((tabB hib hlb).wfF hne).v x hx
  · intro e he
    obtain ⟨h1, h2, h3⟩ := (h.mem (chP e)).1 (List.mem_map_of_mem he)
    have h1 : e.was = valB a e.k := h1
    have h2 : e.is = valB b e.k := h2
    have := len hia hla e.k
    have := len hib hlb e.k
    rw [h1, h2]
    omega
theorem rowsB_small {b : Bk} (hg : greatB b = false) : (rowsB b).length ≤ 351 := by
  obtain ⟨h1, h2, h3, h4⟩ := great_lens hg
  simp only [rowsB, List.length_append, List.length_map, List.length_singleton]
  omega
theorem Tryd.patchR_diff {a b : Bk} {l : List ChP} {v : Value} {bx : Bx} {hp : List Seg} (hia : BkIn a) (hib : BkIn b) (ha : mayB a = true) (hb : mayB b = true) (h : IsDiff (valB a) (valB b) l) (hR : Tryd.PatchR a l v bx hp) :
    bx = [] ∧ ∃ q : BkQ, v = .tuple #[.agg ⟨bkV b q.A⟩, .int .i64 0] ∧ hp = Tryd.bkHp b q := by
  have hlb : listsB b = true := by simp only [mayB, Bool.and_eq_true] at hb; exact hb.1
  have hr := rightB_true (diff_right hia hib ha hb h)
  have hc := h.chk
  obtain ⟨rfl, h1 | h1 | h1 | ⟨f, b', h1, h2, h3, h4, h5⟩⟩ := hR
  · rw [ha] at h1; cases h1.1
  · rw [hr] at h1; cases h1.2.1
  · rw [hc] at h1; cases h1.2.2.1
  · rw [hc] at h3
    cases h3
    obtain rfl := h4.eq hib hlb
    rcases h5 with h5 | ⟨-, q, h6, h7⟩
    · rw [hb] at h5; cases h5.1
    · exact ⟨rfl, q, h6, h7⟩

theorem Tryd.back14_w (a b : Bk) (A B : BkA) (w : World) (hfa : BkFit a) (hfb : BkFit b) (hoa : BkOk w a A) (hob : BkOk w b B) (hW : Tryd.Wid w) : Fun Tryd.prog 3 [.agg ⟨bkV a A⟩, .agg ⟨bkV b B⟩] w (.bool true) := by
  refine Tri.enter (bx := []) (hp := []) Tryd.func3 rfl (by kernel_rfl) rfl (Own.nil w) ?_
  have hA : ∀ {bx : Bx} {hp : List Seg}, CallOb Tryd.prog ⟨w, kys [] []⟩ bx hp 5 [] (.bool true) := fun {_ _} w' _ => Tryd.alive14_w w'
  have hG : ∀ {bx : Bx} {hp : List Seg}, CallOb Tryd.prog ⟨w, kys [] []⟩ bx hp 6 [.agg ⟨bkV a A⟩] (.bool (greatB a)) := fun {_ _} w' _ => Tryd.great2_w a A w' hfa.l1 hfa.l2 hfa.l3 hfa.l4
  have hH : ∀ {bx : Bx} {hp : List Seg}, CallOb Tryd.prog ⟨w, kys [] []⟩ bx hp 6 [.agg ⟨bkV b B⟩] (.bool (greatB b)) := fun {_ _} w' _ => Tryd.great2_w b B w' hfb.l1 hfb.l2 hfb.l3 hfb.l4
  refine At.run 100 true [] [] rfl trivial ?_
  refine At.step [] rfl rfl rfl rfl rfl trivial (OpOk.box rfl rfl rfl fun bq hbq => ?_)
  refine At.step [] rfl rfl rfl rfl rfl trivial (OpOk.box rfl rfl rfl fun b3 hb3 => ?_)
  cases ga : greatB a with
  | true =>
    rw [ga] at hG
    refine At.run 100 true [false, true, true, true, true] [hC (.bool true), hB 1, hC (.bool true)] rfl (by (repeat' apply And.intro) <;> first | exact hA | exact hG | exact True.intro | omega | rfl | (simp only [inK]; omega) | exact decide_eq_true (by omega) | exact decide_eq_false (by omega) | (simp; done) | (simp; omega) | (simp [Value.oneCell']; done) | exact i64s_one _ | exact AggOk.mk (by kernel_rfl) (by kernel_rfl)) ?_
    exact At.retK [] [] [] rfl rfl Tryd.func3 rfl trivial ⟨rfl, rfl, rfl⟩
  | false =>
  rw [ga] at hG
  cases gb : greatB b with
  | true =>
    rw [gb] at hH
    refine At.run 100 true [false, false, true, true, true] [hC (.bool true), hB 1, hC (.bool false), hB 0, hC (.bool true)] rfl (by (repeat' apply And.intro) <;> first | exact hA | exact hG | exact hH | exact True.intro | omega | rfl | (simp only [inK]; omega) | exact decide_eq_true (by omega) | exact decide_eq_false (by omega) | (simp; done) | (simp; omega) | (simp [Value.oneCell']; done) | exact i64s_one _ | exact AggOk.mk (by kernel_rfl) (by kernel_rfl)) ?_
    exact At.retK [] [] [] rfl rfl Tryd.func3 rfl trivial ⟨rfl, rfl, rfl⟩
  | false =>
  rw [gb] at hH
  have hia := hfa.in ga
  have hib := hfb.in gb
  have hMa : ∀ {bx : Bx} {hp : List Seg}, CallOb Tryd.prog ⟨w, kys [] []⟩ bx hp 7 [.agg ⟨bkV a A⟩] (.bool (mayB a)) := fun {_ _} w' hw' => Tryd.rMay_w a A w' hia (hoa.ext hw'.ext (by simp [kys]))
  have hMb : ∀ {bx : Bx} {hp : List Seg}, CallOb Tryd.prog ⟨w, kys [] []⟩ bx hp 7 [.agg ⟨bkV b B⟩] (.bool (mayB b)) := fun {_ _} w' hw' => Tryd.rMay_w b B w' hib (hob.ext hw'.ext (by simp [kys]))
  cases ha : mayB a with
  | false =>
    rw [ha] at hMa
    refine At.run 100 true [false, false, false, true, true] [hC (.bool true), hB 1, hC (.bool false), hB 0, hC (.bool false), hB 1, hC (.bool false)] rfl (by (repeat' apply And.intro) <;> first | exact hA | exact hG | exact hH | exact hMa | exact True.intro | omega | rfl | (simp only [inK]; omega) | exact decide_eq_true (by omega) | exact decide_eq_false (by omega) | (simp; done) | (simp; omega) | (simp [Value.oneCell']; done) | exact i64s_one _ | exact AggOk.mk (by kernel_rfl) (by kernel_rfl)) ?_
    exact At.retK [] [] [] rfl rfl Tryd.func3 rfl trivial ⟨rfl, rfl, rfl⟩
  | true =>
  rw [ha] at hMa
  cases hb : mayB b with
  | false =>
    rw [hb] at hMb
    refine At.run 100 true [false, false, false, false, true] [hC (.bool true), hB 1, hC (.bool false), hB 0, hC (.bool false), hB 1, hC (.bool true), hB 0, hC (.bool false)] rfl (by (repeat' apply And.intro) <;> first | exact hA | exact hG | exact hH | exact hMa | exact hMb | exact True.intro | omega | rfl | (simp only [inK]; omega) | exact decide_eq_true (by omega) | exact decide_eq_false (by omega) | (simp; done) | (simp; omega) | (simp [Value.oneCell']; done) | exact i64s_one _ | exact AggOk.mk (by kernel_rfl) (by kernel_rfl)) ?_
    exact At.retK [] [] [] rfl rfl Tryd.func3 rfl trivial ⟨rfl, rfl, rfl⟩
  | true =>
  rw [hb] at hMb
  have hla : listsB a = true := by simp only [mayB, Bool.and_eq_true] at ha; exact ha.1
  have hlb : listsB b = true := by simp only [mayB, Bool.and_eq_true] at hb; exact hb.1
  have hsa := rowsB_small ga
  have hsb := rowsB_small gb
  refine At.run 100 true [false, false, false, false, false] [hC (.bool true), hB 1, hC (.bool false), hB 0, hC (.bool false), hB 1, hC (.bool true), hB 0, hC (.bool true), hB 1, hB 0] rfl (by (repeat' apply And.intro) <;> first | exact hA | exact hG | exact hH | exact hMa | exact hMb | exact True.intro | omega | rfl | (simp only [inK]; omega) | exact decide_eq_true (by omega) | exact decide_eq_false (by omega) | (simp; done) | (simp; omega) | (simp [Value.oneCell']; done) | exact i64s_one _ | exact AggOk.mk (by kernel_rfl) (by kernel_rfl)) ?_
  refine At.step [] rfl rfl rfl rfl rfl trivial (OpOk.call (Q := Tryd.DiffR a b) rfl (fun w' hw' => Tryd.Diff_w a b A B w' hia hib (hoa.ext hw'.ext (by simp [kys])) (hob.ext hw'.ext (by simp [kys]))) ?_)
  rintro v bx' hp' ⟨rfl, hRes⟩
  rw [if_pos ⟨ha, hb⟩] at hRes
  obtain ⟨T, U, g1, c1, hT, hU, rfl, rfl⟩ := hRes
  have hD := isDiff_of hT hU hia hib hla hlb
  have hDl : (diffK T U (sort3 (keysT T U))).length ≤ 702 := by
    have h1 := List.length_filter_le (fun k => !decide (getT T k = getT U k)) (sort3 (keysT T U))
    have h2 : (sort3 (keysT T U)).length = (keysT T U).length := List.length_mergeSort _
    have h3 := List.length_filter_le (fun x : YE => !hasT T x.k) U
    have h4 : T.length = (rowsB a).length := by have := congrArg List.length hT; simpa using this
    have h5 : U.length = (rowsB b).length := by have := congrArg List.length hU; simpa using this
    simp only [diffK, keysT, List.length_map, List.length_append] at *
    omega
  have hchl : ∀ {bx : Bx} {hp : List Seg} {w' : World}, WOk ⟨w, kys [] []⟩ bx hp w' → Seg.pack (T.flatMap Tryd.yeB) [] ∈ hp → Seg.pack (U.flatMap Tryd.yeB) [] ∈ hp → ChL w' (diffK T U (sort3 (keysT T U))) := fun {_ _ _} hw' h1 h2 => Tryd.diffK_chl hw' h1 h2 hT hU hia hib _
  generalize diffK T U (sort3 (keysT T U)) = D at *
  obtain ⟨hDI, hDS⟩ := isDiff_in hia hib hla hlb hD
  refine At.run 100 true [] [hB 1] rfl (by (repeat' apply And.intro) <;> first | exact True.intro | omega | (simp only [inK]; omega) | (simp; done) | (simp; omega) | exact decide_eq_true (by omega) | exact decide_eq_false (by omega) | rfl | (simp [Value.oneCell']; done) | exact i64s_one _ | exact AggOk.mk (by kernel_rfl) (by kernel_rfl)) ?_
  refine At.step [] rfl rfl rfl rfl rfl trivial (OpOk.call (Q := Tryd.PatchR a (D.map chP)) rfl (fun w' hw' => Tryd.Patch_w a A D (svA g1) c1 w' hia (hoa.ext hw'.ext (by simp [kys])) (SlOk.row (hw'.hp (Seg.row g1 67 5 D.length c1 (D.flatMap chC)) (by simp))) (hchl hw' (by simp) (by simp)) hDI (by omega) (Tryd.Wid.ext hW hw'.ext (by simp [kys]))) ?_)
  rintro v bx' hp' hPR
  obtain ⟨rfl, q1, rfl, rfl⟩ := Tryd.patchR_diff hia hib ha hb hD hPR
  clear hPR
  refine At.run 100 true [] [] rfl (by (repeat' apply And.intro) <;> first | exact True.intro | omega | (simp only [inK]; omega) | (simp; done) | (simp; omega) | exact decide_eq_true (by omega) | exact decide_eq_false (by omega) | rfl | (simp [Value.oneCell']; done) | exact i64s_one _ | exact AggOk.mk (by kernel_rfl) (by kernel_rfl)) ?_
  refine At.step [] rfl rfl rfl rfl rfl trivial (OpOk.alloc (cs := [.slice none 0 0, .slice none 0 0, .slice none 0 0, .slice none 0 0, .int .i64 0]) rfl (by kernel_rfl) fun b7 hb7 => ?_)
  refine At.run 100 true [] [hB 0] rfl (by (repeat' apply And.intro) <;> first | exact bkV_cells _ _ | exact True.intro | omega | rfl | (simp only [inK]; omega) | exact decide_eq_true (by omega) | exact decide_eq_false (by omega) | (simp; done) | (simp; omega) | (simp [Value.oneCell']; done) | exact i64s_one _ | exact AggOk.mk (by kernel_rfl) (by kernel_rfl)) ?_
  have hTu : ∀ {bx : Bx} {hp : List Seg} {w' : World}, WOk ⟨w, kys [] []⟩ bx hp w' → Seg.row g1 67 5 D.length c1 (D.flatMap chC) ∈ hp → Seg.pack (T.flatMap Tryd.yeB) [] ∈ hp → Seg.pack (U.flatMap Tryd.yeB) [] ∈ hp → Tri Tryd.prog 10 [sv g1 D.length c1] w' [] (fun v bx hp => bx = [] ∧ ∃ (M : List ChE) (g : Option Nat) (c : Nat) (ex : List Seg), M.map chP = (D.map chP).map turnP ∧ ChA ex M ∧ v = sv g M.length c ∧ hp = [Seg.row g 67 5 M.length c (M.flatMap chC), Seg.pack [] ex]) := fun {_ _ w'} hw' h0 h1 h2 => Tryd.Turn_w D (svA g1) c1 w' (by omega) (SlOk.row (hw'.hp _ h0)) (hchl hw' h1 h2) hDS
  have hPa : ∀ {bx : Bx} {hp : List Seg} {w' : World}, WOk ⟨w, kys [] []⟩ bx hp w' → ∀ (M : List ChE) (g : Option Nat) (c : Nat) (ex : List Seg), M.map chP = (D.map chP).map turnP → ChA ex M → Seg.row g 67 5 M.length c (M.flatMap chC) ∈ hp → Seg.pack [] ex ∈ hp → Tri Tryd.prog 9 [.agg ⟨bkV b B⟩, sv g M.length c] w' [] (fun v bx hp => bx = [] ∧ ∃ q : BkQ, v = .tuple #[.agg ⟨bkV a q.A⟩, .int .i64 0] ∧ hp = Tryd.bkHp a q) := fun {_ _ w'} hw' M g c ex hM hA h0 h1 => by
    have hMd : IsDiff (valB b) (valB a) (M.map chP) := by rw [hM]; exact hD.turn
    have hMl : M.length = D.length := by have := congrArg List.length hM; simpa using this
    obtain ⟨hMI, -⟩ := isDiff_in hib hia hlb hla hMd
    refine (Tryd.Patch_w b B M (svA g) c w' hib (hob.ext hw'.ext (by simp [kys])) (SlOk.row (hw'.hp _ h0)) (hA w' (hw'.hp _ h1).2) hMI (by omega) (Tryd.Wid.ext hW hw'.ext (by simp [kys]))).mono fun v bx hp hR => ?_
    exact Tryd.patchR_diff hib hia hb ha hMd hR
  refine At.draw 10 rfl rfl rfl rfl ?_
  refine AtD.pures (ob := True) true (by kernel_rfl) [1] (fuel := 9) (by kernel_rfl) rfl (by (repeat' apply And.intro) <;> first | exact True.intro | omega | (simp only [inK]; omega) | (simp; done) | (simp; omega) | exact decide_eq_true (by omega) | exact decide_eq_false (by omega) | rfl | (simp [Value.oneCell']; done) | exact i64s_one _ | exact AggOk.mk (by kernel_rfl) (by kernel_rfl)) ?_
  refine AtD.cutS (ι := (x : List ChE × Option Nat × Nat × List Seg × BkQ × Nat) ×' (x.1.map chP = (D.map chP).map turnP ∧ ChA x.2.2.2.1 x.1)) 2 #[true, true, true, true, true, true, true, true, false, false]
    (fun x => [(48, .agg ⟨bkV a x.1.2.2.2.2.1.A⟩), (49, .int .i64 0), (9, .pointer (some ⟨x.1.2.2.2.2.2, 0, none⟩)), (2, .pointer (some ⟨bq, 0, none⟩)), (3, .pointer (some ⟨b3, 0, none⟩)), (5, sv g1 D.length c1), (6, .int .i64 0), (7, .pointer (some ⟨b7, 0, none⟩)), (8, .int .i64 0)])
    (fun x => [(x.1.2.2.2.2.2, 27, [.slice none 0 0, .slice none 0 0, .slice none 0 0, .slice none 0 0, .int .i64 0]), (b7, 27, bkV b q1.A), (b3, 27, bkV b B), (bq, 27, bkV a A)])
    (fun x => Tryd.bkHp a x.1.2.2.2.2.1 ++ ([Seg.row x.1.2.1 67 5 x.1.1.length x.1.2.2.1 (x.1.1.flatMap chC), Seg.pack [] x.1.2.2.2.1] ++ (Tryd.bkHp b q1 ++ [Seg.row g1 67 5 D.length c1 (D.flatMap chC), Seg.pack (T.flatMap Tryd.yeB) [], Seg.pack (U.flatMap Tryd.yeB) []]))) ?_ (fun hd => ?_)
  · rintro ⟨⟨M, gM, cM, ex, q2, b9⟩, hMA⟩
    obtain ⟨hM, hAA⟩ : M.map chP = (D.map chP).map turnP ∧ ChA ex M := hMA
    dsimp only
    refine AtD.fork1 8 (by kernel_rfl) (StepD.by0 [] rfl rfl rfl trivial (OpOk.one true [] [hB 0] rfl (by (repeat' apply And.intro) <;> first | exact bkV_cells _ _ | exact True.intro | omega | rfl | (simp only [inK]; omega) | exact decide_eq_true (by omega) | exact decide_eq_false (by omega) | (simp; done) | (simp; omega) | (simp [Value.oneCell']; done) | exact i64s_one _ | exact AggOk.mk (by kernel_rfl) (by kernel_rfl)) ?_))
    refine AtD.pures (ob := True) true (by kernel_rfl) [9] (fuel := 0) (by kernel_rfl) rfl (by (repeat' apply And.intro) <;> first | exact True.intro | omega | (simp only [inK]; omega) | (simp; done) | (simp; omega) | exact decide_eq_true (by omega) | exact decide_eq_false (by omega) | rfl | (simp [Value.oneCell']; done) | exact i64s_one _ | exact AggOk.mk (by kernel_rfl) (by kernel_rfl)) ?_
    refine AtD.done (by kernel_rfl) ?_
    refine At.run 100 true [] [hB 2, hB 3] rfl (by (repeat' apply And.intro) <;> first | exact True.intro | omega | (simp only [inK]; omega) | (simp; done) | (simp; omega) | exact decide_eq_true (by omega) | exact decide_eq_false (by omega) | rfl | (simp [Value.oneCell']; done) | exact i64s_one _ | exact AggOk.mk (by kernel_rfl) (by kernel_rfl)) ?_
    refine At.step [] rfl rfl rfl rfl rfl trivial (OpOk.call (Q := Tryd.DiffR b a) rfl (fun w' hw' => Tryd.Diff_w b a B A w' hib hia (hob.ext hw'.ext (by simp [kys])) (hoa.ext hw'.ext (by simp [kys]))) ?_)
    rintro v bx' hp' ⟨rfl, hRes⟩
    rw [if_pos ⟨hb, ha⟩] at hRes
    obtain ⟨U', T', g3, c3, hU', hT', rfl, rfl⟩ := hRes
    have hE := isDiff_of hU' hT' hib hia hlb hla
    have hEl : (diffK U' T' (sort3 (keysT U' T'))).length ≤ 702 := by
      have h1 := List.length_filter_le (fun k => !decide (getT U' k = getT T' k)) (sort3 (keysT U' T'))
      have h2 : (sort3 (keysT U' T')).length = (keysT U' T').length := List.length_mergeSort _
      have h3 := List.length_filter_le (fun x : YE => !hasT U' x.k) T'
      have h4 : T'.length = (rowsB a).length := by have := congrArg List.length hT'; simpa using this
      have h5 : U'.length = (rowsB b).length := by have := congrArg List.length hU'; simpa using this
      simp only [diffK, keysT, List.length_map, List.length_append] at *
      omega
    have hchl2 : ∀ {bx : Bx} {hp : List Seg} {w' : World}, WOk ⟨w, kys [] []⟩ bx hp w' → Seg.pack (U'.flatMap Tryd.yeB) [] ∈ hp → Seg.pack (T'.flatMap Tryd.yeB) [] ∈ hp → ChL w' (diffK U' T' (sort3 (keysT U' T'))) := fun {_ _ _} hw' h1 h2 => Tryd.diffK_chl hw' h1 h2 hU' hT' hib hia _
    generalize diffK U' T' (sort3 (keysT U' T')) = E at *
    have hsame : ∀ c : Bk, sameB c c = true := fun c => by simp [sameB]
    have hS1 : ∀ {bx : Bx} {hp : List Seg}, CallOb Tryd.prog ⟨w, kys [] []⟩ bx ([Seg.row g3 67 5 E.length c3 (E.flatMap chC), Seg.pack (U'.flatMap Tryd.yeB) [], Seg.pack (T'.flatMap Tryd.yeB) []] ++ (Tryd.bkHp a q2 ++ ([Seg.row gM 67 5 M.length cM (M.flatMap chC), Seg.pack [] ex] ++ (Tryd.bkHp b q1 ++ hp)))) 11 [.agg ⟨bkV b q1.A⟩, .agg ⟨bkV b B⟩] (.bool true) := fun {_ _} w' hw' => by
      have := Tryd.rSame_w b b q1.A B w' hib hib (Tryd.bkHp_ok fun s hs => hw'.hp s (List.mem_append_right _ (List.mem_append_right _ (List.mem_append_right _ (List.mem_append_left _ hs))))) (hob.ext hw'.ext (by simp [kys]))
      rw [hsame] at this; exact this
    have hS2 : ∀ {bx : Bx} {hp : List Seg}, CallOb Tryd.prog ⟨w, kys [] []⟩ bx ([Seg.row g3 67 5 E.length c3 (E.flatMap chC), Seg.pack (U'.flatMap Tryd.yeB) [], Seg.pack (T'.flatMap Tryd.yeB) []] ++ (Tryd.bkHp a q2 ++ hp)) 11 [.agg ⟨bkV a q2.A⟩, .agg ⟨bkV a A⟩] (.bool true) := fun {_ _} w' hw' => by
      have := Tryd.rSame_w a a q2.A A w' hia hia (Tryd.bkHp_ok fun s hs => hw'.hp s (List.mem_append_right _ (List.mem_append_left _ hs))) (hoa.ext hw'.ext (by simp [kys]))
      rw [hsame] at this; exact this
    refine At.run 100 true [true, true, true, true, true, true] [hB 1, hB 2, hC (.bool true), hB 0, hB 3, hC (.bool true)] rfl (by (repeat' apply And.intro) <;> first | exact hS1 | exact hS2 | exact True.intro | omega | rfl | (simp only [inK]; omega) | exact decide_eq_true (by omega) | exact decide_eq_false (by omega) | (simp; done) | (simp; omega) | (simp [Value.oneCell']; done) | exact i64s_one _ | exact AggOk.mk (by kernel_rfl) (by kernel_rfl)) ?_
    refine At.step [true] rfl rfl rfl rfl rfl rfl (OpOk.call rfl (fun w' hw' => hTu hw' (by simp) (by simp) (by simp)) ?_)
    rintro v bx' hp' ⟨rfl, M2, gN, cN, ex2, hM2, hA2, rfl, rfl⟩
    have hMl2 : M2.length = D.length := by have := congrArg List.length hM2; simpa using this
    have hS3 : CallOb Tryd.prog ⟨w, kys [] []⟩ [(b9, 27, bkV a q2.A), (b7, 27, bkV b q1.A), (b3, 27, bkV b B), (bq, 27, bkV a A)] ([Seg.row gN 67 5 M2.length cN (M2.flatMap chC), Seg.pack [] ex2] ++ ([Seg.row g3 67 5 E.length c3 (E.flatMap chC), Seg.pack (U'.flatMap Tryd.yeB) [], Seg.pack (T'.flatMap Tryd.yeB) []] ++ (Tryd.bkHp a q2 ++ ([Seg.row gM 67 5 M.length cM (M.flatMap chC), Seg.pack [] ex] ++ (Tryd.bkHp b q1 ++ [Seg.row g1 67 5 D.length c1 (D.flatMap chC), Seg.pack (T.flatMap Tryd.yeB) [], Seg.pack (U.flatMap Tryd.yeB) []])))))
        12 [sv g3 E.length c3, sv gN M2.length cN] (.bool true) := fun w' hw' => by
      have := Tryd.same14_w E M2 (svA g3) (svA gN) c3 cN w' (by omega) (by omega) (SlOk.row (hw'.hp (Seg.row g3 67 5 E.length c3 (E.flatMap chC)) (by simp))) (SlOk.row (hw'.hp (Seg.row gN 67 5 M2.length cN (M2.flatMap chC)) (by simp))) (hchl2 hw' (by simp) (by simp)) (hA2 w' (hw'.hp (Seg.pack [] ex2) (by simp)).2)
      rw [decide_eq_true (hE.eq (by rw [hM2]; exact hD.turn))] at this
      exact this
    refine At.run 100 true [true] [hC (.bool true)] rfl (by (repeat' apply And.intro) <;> first | exact hS3 | exact True.intro | omega | rfl | (simp only [inK]; omega) | exact decide_eq_true (by omega) | exact decide_eq_false (by omega) | (simp; done) | (simp; omega) | (simp [Value.oneCell']; done) | exact i64s_one _ | exact AggOk.mk (by kernel_rfl) (by kernel_rfl)) ?_
    exact At.retK [] [] [] rfl rfl Tryd.func3 rfl trivial ⟨rfl, rfl, rfl⟩
  refine AtD.cutS (ι := (x : List ChE × Option Nat × Nat × List Seg × Nat) ×' (x.1.map chP = (D.map chP).map turnP ∧ ChA x.2.2.2.1 x.1)) 6 #[true, true, true, false, false, false, false, true, false, false]
    (fun x => [(44, .agg ⟨bkV b B⟩), (46, sv x.1.2.1 x.1.1.length x.1.2.2.1), (9, .pointer (some ⟨x.1.2.2.2.2, 0, none⟩)), (2, .pointer (some ⟨bq, 0, none⟩)), (3, .pointer (some ⟨b3, 0, none⟩)), (5, sv g1 D.length c1), (6, .int .i64 0), (7, .pointer (some ⟨b7, 0, none⟩)), (8, .int .i64 0)])
    (fun x => [(x.1.2.2.2.2, 27, [.slice none 0 0, .slice none 0 0, .slice none 0 0, .slice none 0 0, .int .i64 0]), (b7, 27, bkV b q1.A), (b3, 27, bkV b B), (bq, 27, bkV a A)])
    (fun x => [Seg.row x.1.2.1 67 5 x.1.1.length x.1.2.2.1 (x.1.1.flatMap chC), Seg.pack [] x.1.2.2.2.1] ++ (Tryd.bkHp b q1 ++ [Seg.row g1 67 5 D.length c1 (D.flatMap chC), Seg.pack (T.flatMap Tryd.yeB) [], Seg.pack (U.flatMap Tryd.yeB) []])) ?_ (fun hh => ?_)
  · rintro ⟨⟨M, gM, cM, ex, b9⟩, hMA⟩
    obtain ⟨hM, hAA⟩ : M.map chP = (D.map chP).map turnP ∧ ChA ex M := hMA
    dsimp only
    refine AtD.fork1 3 (by kernel_rfl) (StepD.by [] rfl rfl rfl rfl trivial (OpOk.call rfl (fun w' hw' => hPa hw' M gM cM ex hM hAA (by simp) (by simp)) ?_))
    rintro v bx' hp' ⟨rfl, q2, rfl, rfl⟩
    refine AtD.pures (ob := True) true (by kernel_rfl) [4, 5, 6] (fuel := 2) (by kernel_rfl) rfl (by (repeat' apply And.intro) <;> first | exact True.intro | omega | (simp only [inK]; omega) | (simp; done) | (simp; omega) | exact decide_eq_true (by omega) | exact decide_eq_false (by omega) | rfl | (simp [Value.oneCell']; done) | exact i64s_one _ | exact AggOk.mk (by kernel_rfl) (by kernel_rfl)) ?_
    exact AtD.weak (hd ⟨⟨M, gM, cM, ex, q2, b9⟩, hM, hAA⟩) ⟨rfl, rfl, rfl, rfl, rfl, rfl, rfl, rfl, rfl, trivial⟩
  refine AtD.cutS (ι := (x : List ChE × Option Nat × Nat × List Seg) ×' (x.1.map chP = (D.map chP).map turnP ∧ ChA x.2.2.2 x.1)) 7 #[true, true, true, false, false, false, false, false, false, false]
    (fun x => [(44, .agg ⟨bkV b B⟩), (46, sv x.1.2.1 x.1.1.length x.1.2.2.1), (2, .pointer (some ⟨bq, 0, none⟩)), (3, .pointer (some ⟨b3, 0, none⟩)), (5, sv g1 D.length c1), (6, .int .i64 0), (7, .pointer (some ⟨b7, 0, none⟩)), (8, .int .i64 0)])
    (fun _ => [(b7, 27, bkV b q1.A), (b3, 27, bkV b B), (bq, 27, bkV a A)])
    (fun x => [Seg.row x.1.2.1 67 5 x.1.1.length x.1.2.2.1 (x.1.1.flatMap chC), Seg.pack [] x.1.2.2.2] ++ (Tryd.bkHp b q1 ++ [Seg.row g1 67 5 D.length c1 (D.flatMap chC), Seg.pack (T.flatMap Tryd.yeB) [], Seg.pack (U.flatMap Tryd.yeB) []])) ?_ (fun he => ?_)
  · rintro ⟨⟨M, gM, cM, ex⟩, hMA⟩
    obtain ⟨hM, hAA⟩ : M.map chP = (D.map chP).map turnP ∧ ChA ex M := hMA
    dsimp only
    refine AtD.fork2 3 7 (by kernel_rfl) ?_ ?_
    · refine StepD.by [] rfl rfl rfl rfl trivial (OpOk.call rfl (fun w' hw' => hPa hw' M gM cM ex hM hAA (by simp) (by simp)) ?_)
      rintro v bx' hp' ⟨rfl, q2, rfl, rfl⟩
      refine AtD.pures (ob := True) true (by kernel_rfl) [4, 5, 6] (fuel := 3) (by kernel_rfl) rfl (by (repeat' apply And.intro) <;> first | exact True.intro | omega | (simp only [inK]; omega) | (simp; done) | (simp; omega) | exact decide_eq_true (by omega) | exact decide_eq_false (by omega) | rfl | (simp [Value.oneCell']; done) | exact i64s_one _ | exact AggOk.mk (by kernel_rfl) (by kernel_rfl)) ?_
      refine AtD.fork1 7 (by kernel_rfl) (StepD.by [] rfl rfl rfl rfl trivial (OpOk.alloc (cs := [.slice none 0 0, .slice none 0 0, .slice none 0 0, .slice none 0 0, .int .i64 0]) rfl (by kernel_rfl) fun b9 hb9 => ?_))
      exact AtD.weak (hd ⟨⟨M, gM, cM, ex, q2, b9⟩, hM, hAA⟩) ⟨rfl, rfl, rfl, rfl, rfl, rfl, rfl, rfl, rfl, trivial⟩
    · refine StepD.by [] rfl rfl rfl rfl trivial (OpOk.alloc (cs := [.slice none 0 0, .slice none 0 0, .slice none 0 0, .slice none 0 0, .int .i64 0]) rfl (by kernel_rfl) fun b9 hb9 => ?_)
      exact AtD.weak (hh ⟨⟨M, gM, cM, ex, b9⟩, hM, hAA⟩) ⟨rfl, rfl, rfl, rfl, rfl, rfl, rfl, rfl, rfl, trivial⟩
  refine AtD.fork3 0 2 7 (by kernel_rfl) ?_ ?_ ?_
  · refine StepD.by [] rfl rfl rfl rfl trivial (OpOk.one true [] [hB 1] rfl (by (repeat' apply And.intro) <;> first | exact True.intro | omega | (simp only [inK]; omega) | (simp; done) | (simp; omega) | exact decide_eq_true (by omega) | exact decide_eq_false (by omega) | rfl | (simp [Value.oneCell']; done) | exact i64s_one _ | exact AggOk.mk (by kernel_rfl) (by kernel_rfl)) ?_)
    refine AtD.fork2 2 7 (by kernel_rfl) ?_ ?_
    · refine StepD.by [] rfl rfl rfl rfl trivial (OpOk.call rfl (fun w' hw' => hTu hw' (by simp) (by simp) (by simp)) ?_)
      rintro v bx' hp' ⟨rfl, M, gM, cM, ex, hM, hAA, rfl, rfl⟩
      exact AtD.weak (he ⟨⟨M, gM, cM, ex⟩, hM, hAA⟩) ⟨rfl, rfl, rfl, rfl, rfl, rfl, rfl, rfl, trivial⟩
    · refine StepD.by [] rfl rfl rfl rfl trivial (OpOk.alloc (cs := [.slice none 0 0, .slice none 0 0, .slice none 0 0, .slice none 0 0, .int .i64 0]) rfl (by kernel_rfl) fun b9 hb9 => ?_)
      refine AtD.fork1 2 (by kernel_rfl) (StepD.by [] rfl rfl rfl rfl trivial (OpOk.call rfl (fun w' hw' => hTu hw' (by simp) (by simp) (by simp)) ?_))
      rintro v bx' hp' ⟨rfl, M, gM, cM, ex, hM, hAA, rfl, rfl⟩
      exact AtD.weak (hh ⟨⟨M, gM, cM, ex, b9⟩, hM, hAA⟩) ⟨rfl, rfl, rfl, rfl, rfl, rfl, rfl, rfl, rfl, trivial⟩
  · refine StepD.by [] rfl rfl rfl rfl trivial (OpOk.call rfl (fun w' hw' => hTu hw' (by simp) (by simp) (by simp)) ?_)
    rintro v bx' hp' ⟨rfl, M, gM, cM, ex, hM, hAA, rfl, rfl⟩
    refine AtD.fork2 0 7 (by kernel_rfl) ?_ ?_
    · refine StepD.by [] rfl rfl rfl rfl trivial (OpOk.one true [] [hB 1] rfl (by (repeat' apply And.intro) <;> first | exact True.intro | omega | (simp only [inK]; omega) | (simp; done) | (simp; omega) | exact decide_eq_true (by omega) | exact decide_eq_false (by omega) | rfl | (simp [Value.oneCell']; done) | exact i64s_one _ | exact AggOk.mk (by kernel_rfl) (by kernel_rfl)) ?_)
      exact AtD.weak (he ⟨⟨M, gM, cM, ex⟩, hM, hAA⟩) ⟨rfl, rfl, rfl, rfl, rfl, rfl, rfl, rfl, trivial⟩
    · refine StepD.by [] rfl rfl rfl rfl trivial (OpOk.alloc (cs := [.slice none 0 0, .slice none 0 0, .slice none 0 0, .slice none 0 0, .int .i64 0]) rfl (by kernel_rfl) fun b9 hb9 => ?_)
      refine AtD.fork1 0 (by kernel_rfl) (StepD.by [] rfl rfl rfl rfl trivial (OpOk.one true [] [hB 2] rfl (by (repeat' apply And.intro) <;> first | exact True.intro | omega | (simp only [inK]; omega) | (simp; done) | (simp; omega) | exact decide_eq_true (by omega) | exact decide_eq_false (by omega) | rfl | (simp [Value.oneCell']; done) | exact i64s_one _ | exact AggOk.mk (by kernel_rfl) (by kernel_rfl)) ?_))
      exact AtD.weak (hh ⟨⟨M, gM, cM, ex, b9⟩, hM, hAA⟩) ⟨rfl, rfl, rfl, rfl, rfl, rfl, rfl, rfl, rfl, trivial⟩
  · refine StepD.by [] rfl rfl rfl rfl trivial (OpOk.alloc (cs := [.slice none 0 0, .slice none 0 0, .slice none 0 0, .slice none 0 0, .int .i64 0]) rfl (by kernel_rfl) fun b9 hb9 => ?_)
    refine AtD.fork2 0 2 (by kernel_rfl) ?_ ?_
    · refine StepD.by [] rfl rfl rfl rfl trivial (OpOk.one true [] [hB 2] rfl (by (repeat' apply And.intro) <;> first | exact True.intro | omega | (simp only [inK]; omega) | (simp; done) | (simp; omega) | exact decide_eq_true (by omega) | exact decide_eq_false (by omega) | rfl | (simp [Value.oneCell']; done) | exact i64s_one _ | exact AggOk.mk (by kernel_rfl) (by kernel_rfl)) ?_)
      refine AtD.fork1 2 (by kernel_rfl) (StepD.by [] rfl rfl rfl rfl trivial (OpOk.call rfl (fun w' hw' => hTu hw' (by simp) (by simp) (by simp)) ?_))
      rintro v bx' hp' ⟨rfl, M, gM, cM, ex, hM, hAA, rfl, rfl⟩
      exact AtD.weak (hh ⟨⟨M, gM, cM, ex, b9⟩, hM, hAA⟩) ⟨rfl, rfl, rfl, rfl, rfl, rfl, rfl, rfl, rfl, trivial⟩
    · refine StepD.by [] rfl rfl rfl rfl trivial (OpOk.call rfl (fun w' hw' => hTu hw' (by simp) (by simp) (by simp)) ?_)
      rintro v bx' hp' ⟨rfl, M, gM, cM, ex, hM, hAA, rfl, rfl⟩
      refine AtD.fork1 0 (by kernel_rfl) (StepD.by [] rfl rfl rfl rfl trivial (OpOk.one true [] [hB 2] rfl (by (repeat' apply And.intro) <;> first | exact True.intro | omega | (simp only [inK]; omega) | (simp; done) | (simp; omega) | exact decide_eq_true (by omega) | exact decide_eq_false (by omega) | rfl | (simp [Value.oneCell']; done) | exact i64s_one _ | exact AggOk.mk (by kernel_rfl) (by kernel_rfl)) ?_))
      exact AtD.weak (hh ⟨⟨M, gM, cM, ex, b9⟩, hM, hAA⟩) ⟨rfl, rfl, rfl, rfl, rfl, rfl, rfl, rfl, rfl, trivial⟩
end Go.Proofs

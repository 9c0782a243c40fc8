/-
  Engine, part 22: ranges over maps and strings; bytes copied.
-/
import Derived.Test.YtfpoclhenokhhaaE21
namespace Go.Eng
open Go Go.MapKept

/-- The stamps of the entries that have been handed out, by their places. -/
def seenOf (es : Array MapEntry) (T : List Nat) : Array Nat := ⟨T.map fun i => ((es[i]?).map (·.born)).getD 0⟩
theorem seenOf_snoc (es : Array MapEntry) (T : List Nat) {i : Nat} {e : MapEntry} (he : es[i]? = some e) : seenOf es (T ++ [i]) = (seenOf es T).push e.born := by
  apply Array.toList_inj.1
  simp [seenOf, he]
theorem seenOf_mem {es : Array MapEntry} {clock : Nat} (hs : Stamped es clock) {T : List Nat} (hT : ∀ i, i ∈ T → i < es.size) {i : Nat} {e : MapEntry} (he : es[i]? = some e) : (seenOf es T).contains e.born = true ↔ i ∈ T := by
  rw [Array.contains_iff_mem]
  constructor
  · intro h
    have h : e.born ∈ T.map fun i => ((es[i]?).map (·.born)).getD 0 := by simpa [seenOf] using h
    obtain ⟨k, hk, hb⟩ := List.mem_map.1 h
    have hkl := hT k hk
    rw [Array.getElem?_eq_getElem hkl] at hb
    have a1 : (es.toList.map (·.born))[k]? = some e.born := by rw [List.getElem?_map, Array.getElem?_toList, Array.getElem?_eq_getElem hkl]; simpa using hb
    have a2 : (es.toList.map (·.born))[i]? = some e.born := by rw [List.getElem?_map, Array.getElem?_toList, he]; rfl
    have := (List.getElem?_inj (List.getElem?_eq_some_iff.1 a1).1 hs.2.1).1 (a1.trans a2.symm)
    subst this; exact hk
  · intro h
    have : e.born ∈ T.map fun i => ((es[i]?).map (·.born)).getD 0 := List.mem_map.2 ⟨i, h, by rw [he]; rfl⟩
    simpa [seenOf] using this

def Seg.iter (r bm : Nat) (es : Array MapEntry) (clock : Nat) (T : List Nat) : Seg := Seg.obj r (.mapIter (some bm) clock (seenOf es T) clock)

theorem run_next_at {P : Program} {w : World} {r bm clock : Nat} {es : Array MapEntry} {T : List Nat} {ty : TypeId} (hr : w.heap[r]? = some (.mapIter (some bm) clock (seenOf es T) clock)) (hb : w.heap[bm]? = some (.map es clock)) (hs : Stamped es clock) (hT : ∀ i, i ∈ T → i < es.size) :
    ((∀ i, i < es.size → i ∈ T) ∧ (Instr.next (.pointer (some ⟨r, 0, none⟩)) false ty).run P w = .ok (.tuple #[.bool false]) w) ∨
    ∃ i e w', i ∉ T ∧ es[i]? = some e ∧ (Instr.next (.pointer (some ⟨r, 0, none⟩)) false ty).run P w = .ok (.tuple #[.bool true, e.key, e.val]) w' ∧
      w'.heap = w.heap.setIfInBounds r (.mapIter (some bm) clock (seenOf es (T ++ [i])) clock) ∧ w'.os = w.os ∧ w'.tape = w.tape ∧ w'.output = w.output := by
  have hold : ∀ x ∈ es.toList, x.born < clock := hs.1
  have hm : ∀ x ∈ (Array.filter (fun e => !(seenOf es T).contains e.born) es).toList, ∃ i, i ∉ T ∧ es[i]? = some x := by
    intro x hx
    simp only [Array.toList_filter, List.mem_filter, Bool.not_eq_true'] at hx
    obtain ⟨i, hi⟩ := List.mem_iff_getElem?.1 hx.1
    have hi' : es[i]? = some x := by simpa using hi
    refine ⟨i, fun h => ?_, hi'⟩
    have := (seenOf_mem hs hT hi').2 h
    rw [this] at hx; simp at hx
  have hempty : (Array.filter (fun e => !(seenOf es T).contains e.born) es).size = 0 → ∀ i, i < es.size → i ∈ T := by
    intro h0 i hi
    have he := Array.getElem?_eq_getElem hi
    rw [← seenOf_mem hs hT he]
    cases hc : (seenOf es T).contains es[i].born with
    | true => rfl
    | false =>
      have hmem : es[i] ∈ (Array.filter (fun e => !(seenOf es T).contains e.born) es).toList := by
        simp only [Array.toList_filter, List.mem_filter, Bool.not_eq_true']
        exact ⟨by simp, hc⟩
      rw [Array.eq_empty_of_size_eq_zero h0] at hmem
      simp at hmem
  have hgr : (getObj r).run P w = .ok (.mapIter (some bm) clock (seenOf es T) clock) w := by simp [getObj, Sem.run, hr]
  simp only [Instr.next, Sem.run_bind, hgr, Result.andThen, MapKept.run_getObj_map hb, next_test_false (seenOf es T) es clock clock hold (Nat.le_refl _), Bool.false_eq_true, if_false]
  have hmem : ∀ x ∈ (Array.filter (fun e => !(seenOf es T).contains e.born) es).toList, x.born < clock := fun x hx => hold x (by simp at hx ⊢; exact hx.1)
  generalize Array.filter (fun e => !(seenOf es T).contains e.born) es = L at hmem hm hempty ⊢
  have e1 : L.filter (fun x => decide (x.born < clock)) = L := Array.filter_eq_self.2 (fun x hx => by simpa using hmem x (by simpa using hx))
  have e2 : L.filter (fun x => decide (x.born ≥ clock)) = #[] := by
    rw [Array.filter_eq_empty_iff]
    intro x hx
    have := hmem x (by simpa using hx)
    simp
    omega
  simp only [e1, e2, Array.append_empty]
  by_cases h0 : L.size = 0
  · left
    have : L = #[] := Array.eq_empty_of_size_eq_zero h0
    subst this
    refine ⟨hempty h0, ?_⟩
    simp [choose, Sem.run, Question.forced]
  · right
    have hne : L.isEmpty = false := by simp [Array.isEmpty, h0]
    simp only [hne, Bool.false_eq_true, if_false, Array.empty_append, Array.size_map]
    have hch : ∃ (j : Nat) (w1 : World), j < L.size ∧ w1.heap = w.heap ∧ w1.os = w.os ∧ w1.tape = w.tape ∧ w1.output = w.output ∧ (choose (Question.mapNext L.size)).run P w = .ok j w1 := by
      by_cases hf : L.size ≤ 1
      · exact ⟨0, w, by omega, rfl, rfl, rfl, rfl, by simp [choose, Sem.run, Question.forced, hf]⟩
      · exact ⟨_, w.drew, Nat.mod_lt _ (by omega), rfl, rfl, rfl, rfl, by
          simp only [choose, Sem.run, Question.forced, decide_eq_true_eq, hf, if_false, Question.cut]
          rfl⟩
    obtain ⟨j, w1, hj, hh, ho1, ho2, ho3, hrun⟩ := hch
    obtain ⟨i, hi, hie⟩ := hm L[j] (by simp)
    have hset : ∀ o', (setObj r o').run P w1 = .ok () { w1 with heap := w1.heap.setIfInBounds r o' } := fun o' => by
      simp [setObj, Sem.run, hh, hr]
    refine ⟨i, L[j], { w1 with heap := w1.heap.setIfInBounds r (.mapIter (some bm) clock ((seenOf es T).push L[j].born) clock) }, hi, hie, ?_, by rw [seenOf_snoc es T hie, ← hh], ho1, ho2, ho3⟩
    simp only [hrun, Array.getElem?_map, Array.getElem?_eq_getElem hj, Option.map_some, Sem.run_bind, hset, Result.andThen]
    rfl

theorem OpOk.rangeMap {C : Ctx} {env : Env} {bx : Bx} {hp : List Seg} {S : Base} {o : Oper} {K : Value → Bx → List Seg → Prop} {t kt et : TypeId} {x : Operand} {bm clock : Nat} {es : Array MapEntry}
    (ho : o.op = .range t x) (hx : Env.ev env x = some (.map (some bm))) (ht : C.P.underlying t = some (.map kt et)) (hM : ∀ w, WOk S bx hp w → w.heap[bm]? = some (.map es clock))
    (hk : ∀ r, K (.pointer (some ⟨r, 0, none⟩)) bx (Seg.iter r bm es clock [] :: hp)) : OpOk C o env bx hp S K := by
  intro w hw ρ hρ
  refine .inl ⟨.pointer (some ⟨w.heap.size, 0, none⟩), w.alloc (.mapIter (some bm) clock #[] clock), bx, _, .inl ?_, hw.newSeg (s' := Seg.iter w.heap.size bm es clock []) ⟨rfl, rfl, rfl, by simp, fun k hk _ => RowKit.Below.heap_alloc w _ k hk⟩ (MapKept.heap_alloc w _).1 (by simp [Seg.iter, Seg.obj]) ?_, hk _⟩
  · unfold execOp
    simp only [ho, hρ _ _ hx]
    simp [run_range_map w t kt et bm es clock ht (hM w hw), Result.andThen]
  · intro k hk
    simp [Seg.iter, Seg.obj] at hk; subst hk
    exact ⟨Nat.le_refl _, by simp⟩

theorem OpOk.nextMap {C : Ctx} {env : Env} {bx : Bx} {hp : List Seg} {S : Base} {o : Oper} {K : Value → Bx → List Seg → Prop} {x : Operand} {r bm clock : Nat} {es : Array MapEntry} {T : List Nat} (j : Nat)
    (ho : o.op = .next x false) (hx : Env.ev env x = some (.pointer (some ⟨r, 0, none⟩))) (hj : nth hp j = some (Seg.iter r bm es clock T)) (hM : ∀ w, WOk S bx hp w → w.heap[bm]? = some (.map es clock)) (hs : Stamped es clock) (hT : ∀ i, i ∈ T → i < es.size)
    (hdone : (∀ i, i < es.size → i ∈ T) → K (.tuple #[.bool false]) bx hp) (hnext : ∀ i e, i ∉ T → es[i]? = some e → K (.tuple #[.bool true, e.key, e.val]) bx (setL hp j (Seg.iter r bm es clock (T ++ [i])))) : OpOk C o env bx hp S K := by
  intro w hw ρ hρ
  have hr : w.heap[r]? = some (.mapIter (some bm) clock (seenOf es T) clock) := hw.hp _ (nth_mem hj)
  have hlt := (Array.getElem?_eq_some_iff.1 hr).1
  rcases run_next_at (P := C.P) (ty := o.type) hr (hM w hw) hs hT with ⟨h1, h2⟩ | ⟨i, e, w', h1, h2, h3, h4, h5, h6, h7⟩
  · refine .inl ⟨_, w, bx, hp, .inl ?_, hw, hdone h1⟩
    unfold execOp
    simp only [ho, hρ _ _ hx, Sem.run_bind, h2, Result.andThen_ok, Sem.run_pure]
  · refine .inl ⟨_, w', bx, _, .inl ?_, hw.setSeg hj (s' := Seg.iter r bm es clock (T ++ [i])) (w' := w') ⟨h5, h6, h7, by rw [h4]; simp, fun k _ hk => ?_⟩ ?_ (by simp [Seg.iter, Seg.obj]) (fun q hq => ⟨.inl hq, ?_⟩), hnext i e h1 h2⟩
    · unfold execOp
      simp only [ho, hρ _ _ hx, Sem.run_bind, h3, Result.andThen_ok, Sem.run_pure]
    · rw [h4]
      have hne : k ≠ r := by simpa [Seg.iter, Seg.obj] using hk
      simp [Ne.symm hne]
    · show w'.heap[r]? = _
      rw [h4]; simp [hlt]
    · simp [Seg.iter, Seg.obj] at hq; subst hq; rw [h4]; simpa using hlt

theorem OpOk.entryMap {C : Ctx} {env : Env} {bx : Bx} {hp : List Seg} {S : Base} {o : Oper} {K : Value → Bx → List Seg → Prop} {x : Operand} {r bm clock i : Nat} {es : Array MapEntry} {T : List Nat} {e : MapEntry} (j : Nat)
    (ho : o.op = .entry x) (hx : Env.ev env x = some (.pointer (some ⟨r, 0, none⟩))) (hj : nth hp j = some (Seg.iter r bm es clock (T ++ [i]))) (hM : ∀ w, WOk S bx hp w → w.heap[bm]? = some (.map es clock)) (hs : Stamped es clock) (he : es[i]? = some e)
    (hk : K (.tuple #[e.key, e.val]) bx hp) : OpOk C o env bx hp S K := by
  intro w hw ρ hρ
  have hr : w.heap[r]? = some (.mapIter (some bm) clock (seenOf es (T ++ [i])) clock) := hw.hp _ (nth_mem hj)
  have hgr : (getObj r).run C.P w = .ok (.mapIter (some bm) clock (seenOf es (T ++ [i])) clock) w := by simp [getObj, Sem.run, hr]
  have hf : es.find? (·.born == e.born) = some e := by
    rw [← Array.find?_toList]
    exact find_born e es.toList hs.2.1 (List.mem_of_getElem? (by simpa using he))
  refine .inl ⟨_, w, bx, hp, .inl ?_, hw, hk⟩
  unfold execOp
  simp only [ho, hρ _ _ hx, Instr.entry, Sem.run_bind, hgr, Result.andThen, seenOf_snoc es T he, Array.back?_push, MapKept.run_getObj_map (hM w hw), bne_self_eq_false, Bool.false_eq_true, if_false, hf]
  rfl

/-- A known map, its entries written out. -/
theorem At.mapOpen {C : Ctx} {x : Loc} {df : List Deferred} {env : Env} {bx : Bx} {hp : List Seg} {S : Base} {b : Nat} {d : TypeDesc} {L : List (Value × Value)} (j : Nat) (hj : nth hp j = some (Seg.map b d L))
    (hk : ∀ es clock, Stamped es clock → (∀ x ∈ es.toList, IsKey d x.key) → es.toList.map (fun e => (e.key, e.val)) = L → At C x df env bx (setL hp j (Seg.obj b (.map es clock))) S) : At C x df env bx hp S := by
  intro w hw
  obtain ⟨es, clock, h1, h2, h3, h4⟩ : MapIs w b d L := hw.hp _ (nth_mem hj)
  refine hk es clock h2 h3 h4 w (hw.setSeg hj (s' := Seg.obj b (.map es clock)) (Ext.refl _ _) h1 (by simp [Seg.obj]) (fun q hq => ⟨.inl (by simpa [Seg.obj, Seg.map] using hq), ?_⟩))
  simp [Seg.obj] at hq; subst hq; exact (Array.getElem?_eq_some_iff.1 h1).1
theorem At.mapShut {C : Ctx} {x : Loc} {df : List Deferred} {env : Env} {bx : Bx} {hp : List Seg} {S : Base} {b clock : Nat} {d : TypeDesc} {es : Array MapEntry} (j : Nat) (hj : nth hp j = some (Seg.obj b (.map es clock))) (hs : Stamped es clock) (hks : ∀ x ∈ es.toList, IsKey d x.key)
    (hk : At C x df env bx (setL hp j (Seg.map b d (es.toList.map (fun e => (e.key, e.val))))) S) : At C x df env bx hp S := by
  intro w hw
  have h1 : w.heap[b]? = some (.map es clock) := hw.hp _ (nth_mem hj)
  refine hk w (hw.setSeg hj (s' := Seg.map b d _) (Ext.refl _ _) ⟨es, clock, h1, hs, hks, rfl⟩ (by simp [Seg.map]) (fun q hq => ⟨.inl (by simpa [Seg.obj, Seg.map] using hq), ?_⟩))
  simp [Seg.map] at hq; subst hq; exact (Array.getElem?_eq_some_iff.1 h1).1

/-! Strings, rune by rune. -/
theorem OpOk.rangeStr {C : Ctx} {env : Env} {bx : Bx} {hp : List Seg} {S : Base} {o : Oper} {K : Value → Bx → List Seg → Prop} {t : TypeId} {x : Operand} {s : ByteArray}
    (ho : o.op = .range t x) (hx : Env.ev env x = some (.string s)) (ht : C.P.underlying t = some .string) (hk : ∀ r, K (.pointer (some ⟨r, 0, none⟩)) bx (Seg.obj r (.stringIter s 0) :: hp)) : OpOk C o env bx hp S K := by
  intro w hw ρ hρ
  refine .inl ⟨.pointer (some ⟨w.heap.size, 0, none⟩), w.alloc (.stringIter s 0), bx, _, .inl ?_, hw.newSeg (s' := Seg.obj w.heap.size (.stringIter s 0)) ⟨rfl, rfl, rfl, by simp, fun k hk _ => RowKit.Below.heap_alloc w _ k hk⟩ (MapKept.heap_alloc w _).1 (by simp [Seg.obj]) ?_, hk _⟩
  · unfold execOp
    simp only [ho, hρ _ _ hx]
    simp [Instr.range, run_underlying ht, Result.andThen]
  · intro k hk
    simp [Seg.obj] at hk; subst hk
    exact ⟨Nat.le_refl _, by simp⟩
theorem OpOk.nextStr {C : Ctx} {env : Env} {bx : Bx} {hp : List Seg} {S : Base} {o : Oper} {K : Value → Bx → List Seg → Prop} {x : Operand} {r pos : Nat} {s : ByteArray} (j : Nat)
    (ho : o.op = .next x true) (hx : Env.ev env x = some (.pointer (some ⟨r, 0, none⟩))) (hj : nth hp j = some (Seg.obj r (.stringIter s pos)))
    (hdone : s.size ≤ pos → K (.tuple #[.bool false]) bx hp) (hnext : pos < s.size → ∀ c width, Utf8.decode s pos = (c, width) → K (.tuple #[.bool true, .int .i64 pos, .int .i32 c]) bx (setL hp j (Seg.obj r (.stringIter s (pos + width))))) : OpOk C o env bx hp S K := by
  intro w hw ρ hρ
  have hr : w.heap[r]? = some (.stringIter s pos) := hw.hp _ (nth_mem hj)
  have hlt := (Array.getElem?_eq_some_iff.1 hr).1
  have hgr : (getObj r).run C.P w = .ok (.stringIter s pos) w := by simp [getObj, Sem.run, hr]
  by_cases hp : pos < s.size
  · obtain ⟨c, width, hd⟩ : ∃ c width, Utf8.decode s pos = (c, width) := ⟨_, _, rfl⟩
    have hset : (setObj r (.stringIter s (pos + width))).run C.P w = .ok () { w with heap := w.heap.setIfInBounds r (.stringIter s (pos + width)) } := by simp [setObj, Sem.run, hr]
    refine .inl ⟨_, { w with heap := w.heap.setIfInBounds r (.stringIter s (pos + width)) }, bx, _, .inl ?_, hw.setSeg hj (s' := Seg.obj r (.stringIter s (pos + width))) ⟨rfl, rfl, rfl, by simp, fun k _ hk => ?_⟩ ?_ (by simp [Seg.obj]) (fun q hq => ⟨.inl hq, ?_⟩), hnext hp c width hd⟩
    · unfold execOp
      simp only [ho, hρ _ _ hx, Instr.next, Sem.run_bind, hgr, Result.andThen, hp, if_true, hd, hset]
      rfl
    · have hne : k ≠ r := by simpa [Seg.obj] using hk
      simp [Ne.symm hne]
    · show (w.heap.setIfInBounds r _)[r]? = _
      simp [hlt]
    · simp [Seg.obj] at hq; subst hq; simpa using hlt
  · refine .inl ⟨_, w, bx, _, .inl ?_, hw, hdone (by omega)⟩
    unfold execOp
    simp only [ho, hρ _ _ hx, Instr.next, Sem.run_bind, hgr, Result.andThen, hp, if_false]
    rfl

/-! Cells copied. -/
def SrcOk (P : Program) (w : World) (src : Value) (u : List Value) : Prop := (Builtin.lenOf src).run P w = .ok u.length w ∧ ∀ k, k ≤ u.length → (Builtin.firstCells 1 k src).run P w = .ok ⟨u.take k⟩ w
theorem SrcOk.str {P : Program} {w : World} (s : ByteArray) : SrcOk P w (.string s) (u8s (bl s)) := by
  refine ⟨by simp [Builtin.lenOf, u8s_len, size_bl], fun k _ => ?_⟩
  simp only [Builtin.firstCells, Sem.run_pure]
  congr 1
  apply Array.ext'
  simp [u8s, bl, List.map_take]
theorem SrcOk.sl {P : Program} {w : World} {a : Option Addr} {u : List Value} (cap : Nat) (h : SlOk w a u) : SrcOk P w (.slice a u.length cap) u := by
  refine ⟨by simp [Builtin.lenOf], fun k hk => ?_⟩
  cases u with
  | nil =>
    have hk0 : k = 0 := by simpa using hk
    subst hk0
    cases a with
    | none => simp [Builtin.firstCells]
    | some a => simp [Builtin.firstCells, loadCells, loadCellsFrom]
  | cons v u =>
    obtain ⟨b, o, rfl, h2⟩ := h.get (by simp)
    have := run_firstCells_some (P := P) w 1 k ⟨b, o, none⟩ (v :: u).length cap ((v :: u).take k) (by simp at hk ⊢; omega) (fun j x hx => by
      rw [Addr.add_lit]
      rw [List.getElem?_take] at hx
      split at hx
      · exact h2 j x hx
      · cases hx)
    simpa using this

theorem OpOk.copyInto {C : Ctx} {env : Env} {bx : Bx} {hp : List Seg} {S : Base} {o : Oper} {K : Value → Bx → List Seg → Prop} {dT sT e t : TypeId} {g off dl dc n cap by_ c m : Nat} {src : Value} {u xs : List Value} (j : Nat)
    (ho : bltOf env o.op = some (.copy, [dT, sT], [.slice (some ⟨g, off, none⟩) dl dc, src])) (ht : elT C.P dT = some e) (hi : infoL C.P e = some (1, by_, c)) (hj : nth hp j = some (Seg.row (some g) t 1 n cap xs))
    (hsrc : ∀ w, WOk S bx hp w → SrcOk C.P w src u) (hone : ∀ v, v ∈ u → v.oneCell' = true) (hm : min u.length dl = m) (hl : off + m ≤ xs.length)
    (hk : K (.int .i64 m) bx (setL hp j (Seg.row (some g) t 1 n cap (putL xs off (u.take m))))) : OpOk C o env bx hp S K := by
  intro w hw ρ hρ
  obtain ⟨cs, ty, hex⟩ := bltOf_ok (P := C.P) (w := w) ho hρ
  obtain ⟨i, z, hi1, -, hs1, -, -⟩ := infoL_ok hi
  have hrow : rowOk w (some g) t 1 n cap xs := hw.hp _ (nth_mem hj)
  obtain ⟨cur, fr, h3, h4, h5, h6⟩ := hrow.blk g rfl
  have hle : xs.length ≤ cur.size := by rw [← h5, List.length_take]; simp; omega
  have hlm : (u.take m).length = m := by rw [List.length_take]; omega
  have hst := run_storeCells_fr (P := C.P) g off t fr (u.take m) 0 cur w h3 h6 (by rw [hlm]; omega) (fun v hv => hone v (List.mem_of_mem_take hv))
  simp only [Nat.add_zero] at hst
  obtain ⟨s1, s2⟩ := hsrc w hw
  have s3 := s2 m (by omega)
  refine .inl ⟨.int .i64 m, _, bx, _, .inl ?_, hw.setSeg hj (s' := Seg.row (some g) t 1 n cap (putL xs off (u.take m))) (by simpa [Seg.row] using ext_setRow w g _) (hrow.set (by rw [hlm]; exact hl) h3 h4 h5 h6) (by simp [Seg.row]) (fun k hk => ⟨.inl hk, ?_⟩), hk⟩
  · rw [hex]
    simp only [builtin, Builtin.copy_, List.getElem?_toArray, List.getElem?_cons_zero, List.getElem?_cons_succ, Sem.run_bind, run_underlying (elT_ok ht), Result.andThen, s1, Nat.min_def, sizeOf, typeInfo]
    simp only [Sem.run_bind, run_program, Result.andThen, hi1, Sem.run_pure, hs1]
    have hm2 : (if u.length ≤ dl then u.length else dl) = m := by rw [← hm, Nat.min_def]
    rw [hm2, s3]
    simp only [hst]
    rfl
  · simp [Seg.row] at hk
    subst hk
    simp
    exact (Array.getElem?_eq_some_iff.1 h3).1
end Go.Eng

/-
  Engine, part 21: maps.
-/
import Derived.Test.YtfpoclhenokhhaaE18
import Derived.MapKept
import Derived.Laws.IdiomRangeMap
namespace Go.Eng
open Go Go.MapKept

/-- A block that holds just this. -/
def Seg.obj (r : Nat) (o : Obj) : Seg where
  keys := [r]
  ok w := w.heap[r]? = some o
  loc w w' h r := by rw [h _ (by simp)]; exact r

/-- A map, by its entries, in the order that they lie in. -/
def MapIs (w : World) (b : Nat) (d : TypeDesc) (L : List (Value × Value)) : Prop :=
  ∃ (es : Array MapEntry) (clock : Nat), w.heap[b]? = some (.map es clock) ∧ Stamped es clock ∧ (∀ x ∈ es.toList, IsKey d x.key) ∧ es.toList.map (fun e => (e.key, e.val)) = L
def Seg.map (b : Nat) (d : TypeDesc) (L : List (Value × Value)) : Seg where
  keys := [b]
  ok w := MapIs w b d L
  loc w w' h := by
    rintro ⟨es, clock, h1, h2, h3, h4⟩
    exact ⟨es, clock, by rw [h _ (by simp)]; exact h1, h2, h3, h4⟩
theorem MapIs.lt {w : World} {b : Nat} {d : TypeDesc} {L : List (Value × Value)} (h : MapIs w b d L) : b < w.heap.size := by
  obtain ⟨es, clock, h1, -⟩ := h
  exact (Array.getElem?_eq_some_iff.1 h1).1
theorem MapIs.ext {m : List Nat} {w w' : World} {b : Nat} {d : TypeDesc} {L : List (Value × Value)} (h : MapIs w b d L) (he : Ext m w w') (hm : b ∉ m) : MapIs w' b d L := by
  have hlt := h.lt
  obtain ⟨es, clock, h1, h2, h3, h4⟩ := h
  exact ⟨es, clock, by rw [he.block _ hlt hm]; exact h1, h2, h3, h4⟩
theorem MapIs.nodup {w : World} {b : Nat} {d : TypeDesc} {L : List (Value × Value)} (h : MapIs w b d L) : (L.map (·.1)).Nodup := by
  obtain ⟨es, clock, -, h2, -, h4⟩ := h
  rw [← h4, List.map_map]; exact h2.2.2
theorem MapIs.isKey {w : World} {b : Nat} {d : TypeDesc} {L : List (Value × Value)} (h : MapIs w b d L) : ∀ p, p ∈ L → IsKey d p.1 := by
  obtain ⟨es, clock, -, -, h3, h4⟩ := h
  intro p hp
  rw [← h4] at hp
  obtain ⟨e, he, rfl⟩ := List.mem_map.1 hp
  exact h3 e he

theorem eraseIdx_map' {α β : Type} (f : α → β) : ∀ (l : List α) (i : Nat), (l.eraseIdx i).map f = (l.map f).eraseIdx i
  | [], _ => rfl
  | _ :: _, 0 => rfl
  | x :: l, i + 1 => by simp [List.eraseIdx, eraseIdx_map' f l i]
theorem find_miss {d : TypeDesc} {k : Value} {es : Array MapEntry} (hk : IsKey d k) (hks : ∀ x ∈ es.toList, IsKey d x.key) (hm : ∀ p, p ∈ es.toList.map (fun e => (e.key, e.val)) → p.1 ≠ k) : Instr.findNow d k es.toList 0 = some none ∧ ∀ x ∈ es.toList, x.key ≠ k := by
  have h0 : ∀ x ∈ es.toList, x.key ≠ k := fun x hx => hm _ (List.mem_map.2 ⟨x, hx, rfl⟩)
  rcases findNow_spec hk es.toList 0 hks with h | ⟨j, e, -, h2, h3⟩
  · exact h
  · exact absurd h3 (h0 e (List.mem_of_getElem? h2))
theorem find_hit {d : TypeDesc} {k v : Value} {i : Nat} {es : Array MapEntry} (hk : IsKey d k) (hks : ∀ x ∈ es.toList, IsKey d x.key) (hn : (es.toList.map (·.key)).Nodup) (hi : (es.toList.map (fun e => (e.key, e.val)))[i]? = some (k, v)) :
    Instr.findNow d k es.toList 0 = some (some (i, v)) ∧ ∃ e, es[i]? = some e ∧ e.key = k ∧ e.val = v := by
  rw [List.getElem?_map] at hi
  obtain ⟨e, he, hp⟩ := Option.map_eq_some_iff.1 hi
  simp only [Prod.mk.injEq] at hp
  obtain ⟨hp1, hp2⟩ := hp
  rcases findNow_spec hk es.toList 0 hks with ⟨-, h⟩ | ⟨j, e', h1, h2, h3⟩
  · exact absurd hp1 (h e (List.mem_of_getElem? he))
  · have hij : j = i := by
      have a1 : (es.toList.map (·.key))[j]? = some k := by rw [List.getElem?_map, h2]; simp [h3]
      have a2 : (es.toList.map (·.key))[i]? = some k := by rw [List.getElem?_map, he]; simp [hp1]
      exact (List.getElem?_inj (List.getElem?_eq_some_iff.1 a1).1 hn).1 (a1.trans a2.symm)
    subst hij
    rw [h2] at he
    cases he
    rw [Nat.zero_add] at h1
    exact ⟨by rw [h1, hp2], _, by simpa using h2, h3, hp2⟩

section
variable {P : Program} {w : World} {t kt et : TypeId} {d : TypeDesc} {b : Nat} {L : List (Value × Value)} {k v z : Value}

theorem run_look_hit (ht : P.underlying t = some (.map kt et)) (hd : P.underlying kt = some d) (hM : MapIs w b d L) (hk : IsKey d k) {i : Nat} (hi : L[i]? = some (k, v)) (ok : Bool) :
    (Instr.lookup t (.map (some b)) k ok).run P w = .ok (if ok then .tuple #[v, .bool true] else v) w := by
  obtain ⟨es, clock, h1, h2, h3, rfl⟩ := hM
  obtain ⟨hf, -⟩ := find_hit hk h3 h2.2.2 hi
  cases ok <;> simp [Instr.lookup, run_underlying ht, MapKept.run_getObj_map h1, run_checkKey hd hk, run_findKey hd hf, Result.andThen]
theorem run_look_miss (ht : P.underlying t = some (.map kt et)) (hd : P.underlying kt = some d) (hz : (zeroValue et).run P w = .ok z w) (hM : MapIs w b d L) (hk : IsKey d k) (hi : ∀ p, p ∈ L → p.1 ≠ k) (ok : Bool) :
    (Instr.lookup t (.map (some b)) k ok).run P w = .ok (if ok then .tuple #[z, .bool false] else z) w := by
  obtain ⟨es, clock, h1, h2, h3, rfl⟩ := hM
  obtain ⟨hf, -⟩ := find_miss hk h3 hi
  cases ok <;> simp [Instr.lookup, run_underlying ht, MapKept.run_getObj_map h1, run_checkKey hd hk, run_findKey hd hf, hz, Result.andThen]
theorem run_zero {i : TypeInfo} (hi : P.info? et = some i) (hz : i.zero = some z) : (zeroValue et).run P w = .ok z w := by
  simp [zeroValue, typeInfo, hi, hz, Result.andThen]

theorem run_upd_hit {r : Value} (ht : P.underlying t = some (.map kt et)) (hd : P.underlying kt = some d) (hM : MapIs w b d L) (hk : IsKey d k) {i : Nat} (hi : L[i]? = some (k, v)) :
    ∃ w', (Instr.mapUpdate t (.map (some b)) k r).run P w = .ok () w' ∧ MapIs w' b d (L.set i (k, r)) ∧ Ext [b] w w' ∧ w'.heap.size = w.heap.size := by
  obtain ⟨es, clock, h1, h2, h3, rfl⟩ := hM
  obtain ⟨hf, e, he, hek, -⟩ := find_hit hk h3 h2.2.2 hi
  have hlt := (Array.getElem?_eq_some_iff.1 h1).1
  refine ⟨{ w with heap := w.heap.setIfInBounds b (.map (es.modify i fun e => { e with key := k, val := r }) clock) }, ?_, ⟨_, _, (heap_set h1).1, stamped_modify h2 _ _ (fun _ _ => rfl) ?_, isKey_modify h3 _ _ ?_, ?_⟩, ⟨rfl, rfl, rfl, by simp, fun r' _ hne => (heap_set h1).2 r' (by simpa using hne)⟩, by simp⟩
  · simp [Instr.mapUpdate, run_underlying ht, MapKept.run_getObj_map h1, run_checkKey hd hk, run_findKey hd hf, he, hek, run_keyThatStays hk, MapKept.run_setObj_map _ h1, Result.andThen]
  · intro e' _ he'
    rw [he] at he'; cases he'; exact hek.symm
  · intro e' he'
    rw [he] at he'; cases he'; exact hek.symm
  · apply List.ext_getElem?
    intro j
    simp only [List.getElem?_map, Array.getElem?_toList, Array.getElem?_modify, List.getElem?_set, List.length_map, Array.length_toList]
    by_cases hij : i = j
    · subst hij
      have hil := (Array.getElem?_eq_some_iff.1 he).1
      simp [he, hil]
    · simp [hij]
theorem run_upd_miss {r : Value} (ht : P.underlying t = some (.map kt et)) (hd : P.underlying kt = some d) (hM : MapIs w b d L) (hk : IsKey d k) (hi : ∀ p, p ∈ L → p.1 ≠ k) :
    ∃ w', (Instr.mapUpdate t (.map (some b)) k r).run P w = .ok () w' ∧ MapIs w' b d (L ++ [(k, r)]) ∧ Ext [b] w w' ∧ w'.heap.size = w.heap.size := by
  obtain ⟨es, clock, h1, h2, h3, rfl⟩ := hM
  obtain ⟨hf, hne⟩ := find_miss hk h3 hi
  refine ⟨{ w with heap := w.heap.setIfInBounds b (.map (es.push { key := k, val := r, born := clock }) (clock + 1)) }, ?_, ⟨_, _, (heap_set h1).1, stamped_push h2 hne, ?_, by simp⟩, ⟨rfl, rfl, rfl, by simp, fun r' _ hne => (heap_set h1).2 r' (by simpa using hne)⟩, by simp⟩
  · simp [Instr.mapUpdate, run_underlying ht, MapKept.run_getObj_map h1, run_checkKey hd hk, run_findKey hd hf, MapKept.run_setObj_map _ h1, Result.andThen]
  · intro x hx
    simp only [Array.toList_push, List.mem_append, List.mem_singleton] at hx
    rcases hx with hx | rfl
    · exact h3 x hx
    · exact hk
theorem run_del_hit {ty : TypeId} (ht : P.underlying t = some (.map kt et)) (hd : P.underlying kt = some d) (hM : MapIs w b d L) (hk : IsKey d k) {i : Nat} (hi : L[i]? = some (k, v)) :
    ∃ w', (Builtin.delete_ #[t, kt] ty #[.map (some b), k]).run P w = .ok (.tuple #[]) w' ∧ MapIs w' b d (L.eraseIdx i) ∧ Ext [b] w w' ∧ w'.heap.size = w.heap.size := by
  obtain ⟨es, clock, h1, h2, h3, rfl⟩ := hM
  obtain ⟨hf, e, he, hek, -⟩ := find_hit hk h3 h2.2.2 hi
  have hil := (Array.getElem?_eq_some_iff.1 he).1
  have e1 : (es.eraseIdxIfInBounds i).toList = es.toList.eraseIdx i := by
    unfold Array.eraseIdxIfInBounds
    rw [dif_pos hil, Array.toList_eraseIdx]
  refine ⟨{ w with heap := w.heap.setIfInBounds b (.map (es.eraseIdxIfInBounds i) clock) }, ?_, ⟨_, _, (heap_set h1).1, stamped_erase h2 _, ?_, ?_⟩, ⟨rfl, rfl, rfl, by simp, fun r' _ hne => (heap_set h1).2 r' (by simpa using hne)⟩, by simp⟩
  · simp [Builtin.delete_, run_underlying ht, MapKept.run_getObj_map h1, run_checkKey hd hk, run_findKey hd hf, MapKept.run_setObj_map _ h1, Result.andThen]
  · intro x hx
    rw [e1] at hx
    exact h3 x ((List.eraseIdx_sublist _ _).subset hx)
  · rw [e1, eraseIdx_map']
theorem run_del_miss {ty : TypeId} (ht : P.underlying t = some (.map kt et)) (hd : P.underlying kt = some d) (hM : MapIs w b d L) (hk : IsKey d k) (hi : ∀ p, p ∈ L → p.1 ≠ k) :
    ∃ w', (Builtin.delete_ #[t, kt] ty #[.map (some b), k]).run P w = .ok (.tuple #[]) w' ∧ MapIs w' b d L ∧ Ext [b] w w' ∧ w'.heap.size = w.heap.size := by
  obtain ⟨es, clock, h1, h2, h3, rfl⟩ := hM
  obtain ⟨hf, hne⟩ := find_miss hk h3 hi
  refine ⟨{ w with heap := w.heap.setIfInBounds b (.map es clock) }, ?_, ⟨_, _, (heap_set h1).1, h2, h3, rfl⟩, ⟨rfl, rfl, rfl, by simp, fun r' _ hne => (heap_set h1).2 r' (by simpa using hne)⟩, by simp⟩
  simp [Builtin.delete_, run_underlying ht, MapKept.run_getObj_map h1, run_checkKey hd hk, run_findKey hd hf, MapKept.run_setObj_map _ h1, Result.andThen]
end

theorem LookOb.hit {P : Program} {S : Base} {bx : Bx} {hp : List Seg} {t kt et : TypeId} {d : TypeDesc} {b : Nat} {L : List (Value × Value)} {k v : Value} (ok : Bool) (ht : P.underlying t = some (.map kt et)) (hd : P.underlying kt = some d)
    (hM : ∀ w, WOk S bx hp w → MapIs w b d L) (hk : IsKey d k) {i : Nat} (hi : L[i]? = some (k, v)) : LookOb P S bx hp t (.map (some b)) k ok (if ok then .tuple #[v, .bool true] else v) :=
  fun w hw => run_look_hit ht hd (hM w hw) hk hi ok
theorem LookOb.miss {P : Program} {S : Base} {bx : Bx} {hp : List Seg} {t kt et : TypeId} {d : TypeDesc} {b : Nat} {L : List (Value × Value)} {k z : Value} (ok : Bool) (ht : P.underlying t = some (.map kt et)) (hd : P.underlying kt = some d)
    (hz : ∀ w, (zeroValue et).run P w = .ok z w) (hM : ∀ w, WOk S bx hp w → MapIs w b d L) (hk : IsKey d k) (hi : ∀ p, p ∈ L → p.1 ≠ k) : LookOb P S bx hp t (.map (some b)) k ok (if ok then .tuple #[z, .bool false] else z) :=
  fun w hw => run_look_miss ht hd (hz w) (hM w hw) hk hi ok

/-- A new map. -/
theorem OpOk.makeMap {C : Ctx} {env : Env} {bx : Bx} {hp : List Seg} {S : Base} {o : Oper} {K : Value → Bx → List Seg → Prop} {t : TypeId} (d : TypeDesc) (ho : o.op = .makeMap t none)
    (hk : ∀ r, K (.map (some r)) bx (Seg.map r d [] :: hp)) : OpOk C o env bx hp S K := by
  intro w hw ρ hρ
  refine .inl ⟨.map (some w.heap.size), w.alloc (.map #[] 0), bx, _, .inl ?_, hw.newSeg (s' := Seg.map w.heap.size d []) ⟨rfl, rfl, rfl, by simp, fun k hk _ => RowKit.Below.heap_alloc w _ k hk⟩ ⟨_, _, (MapKept.heap_alloc w _).1, stamped_empty 0, by simp, by simp⟩ (by simp [Seg.map]) ?_, hk _⟩
  · unfold execOp
    simp only [ho, Option.map_none]
    simp [Instr.makeMap, Result.andThen]
  · intro k hk
    simp [Seg.map] at hk; subst hk
    exact ⟨Nat.le_refl _, by simp⟩

theorem OpOk.mapPut {C : Ctx} {env : Env} {bx : Bx} {hp : List Seg} {S : Base} {o : Oper} {K : Value → Bx → List Seg → Prop} {t kt et : TypeId} {d : TypeDesc} {b : Nat} {L : List (Value × Value)} {k v r : Value} {m x y : Operand} (j : Nat)
    (ho : o.op = .mapUpdate t m x y) (hm : Env.ev env m = some (.map (some b))) (hx : Env.ev env x = some k) (hy : Env.ev env y = some r) (ht : C.P.underlying t = some (.map kt et)) (hd : C.P.underlying kt = some d) (hkk : IsKey d k)
    (hj : nth hp j = some (Seg.map b d L)) {i : Nat} (hi : L[i]? = some (k, v)) (hk : K undef bx (setL hp j (Seg.map b d (L.set i (k, r))))) : OpOk C o env bx hp S K := by
  intro w hw ρ hρ
  have hM : MapIs w b d L := hw.hp _ (nth_mem hj)
  obtain ⟨w', h1, h2, h3, h4⟩ := run_upd_hit (r := r) ht hd hM hkk hi
  refine .inl ⟨undef, w', bx, _, .inr ⟨?_, rfl⟩, hw.setSeg hj (s' := Seg.map b d (L.set i (k, r))) (by simpa [Seg.map] using h3) h2 (by simp [Seg.map]) (fun q hq => ⟨.inl hq, ?_⟩), hk⟩
  · unfold execOp
    simp only [ho, hρ _ _ hm, hρ _ _ hx, hρ _ _ hy, Sem.run_bind, h1, Result.andThen_ok, Sem.run_pure]
  · simp [Seg.map] at hq; subst hq; rw [h4]; exact hM.lt
theorem OpOk.mapPush {C : Ctx} {env : Env} {bx : Bx} {hp : List Seg} {S : Base} {o : Oper} {K : Value → Bx → List Seg → Prop} {t kt et : TypeId} {d : TypeDesc} {b : Nat} {L : List (Value × Value)} {k r : Value} {m x y : Operand} (j : Nat)
    (ho : o.op = .mapUpdate t m x y) (hm : Env.ev env m = some (.map (some b))) (hx : Env.ev env x = some k) (hy : Env.ev env y = some r) (ht : C.P.underlying t = some (.map kt et)) (hd : C.P.underlying kt = some d) (hkk : IsKey d k)
    (hj : nth hp j = some (Seg.map b d L)) (hi : ∀ p, p ∈ L → p.1 ≠ k) (hk : K undef bx (setL hp j (Seg.map b d (L ++ [(k, r)])))) : OpOk C o env bx hp S K := by
  intro w hw ρ hρ
  have hM : MapIs w b d L := hw.hp _ (nth_mem hj)
  obtain ⟨w', h1, h2, h3, h4⟩ := run_upd_miss (r := r) ht hd hM hkk hi
  refine .inl ⟨undef, w', bx, _, .inr ⟨?_, rfl⟩, hw.setSeg hj (s' := Seg.map b d (L ++ [(k, r)])) (by simpa [Seg.map] using h3) h2 (by simp [Seg.map]) (fun q hq => ⟨.inl hq, ?_⟩), hk⟩
  · unfold execOp
    simp only [ho, hρ _ _ hm, hρ _ _ hx, hρ _ _ hy, Sem.run_bind, h1, Result.andThen_ok, Sem.run_pure]
  · simp [Seg.map] at hq; subst hq; rw [h4]; exact hM.lt

/-- A call of a builtin function with its arguments. -/
def bltOf (env : Env) : Op → Option (Builtin × List TypeId × List Value)
  | .call c => match c.callee with
    | .builtin b => match evs env c.args.toList with
      | some as => some (b, c.argTypes.toList, as)
      | none => none
    | _ => none
  | _ => none
theorem bltOf_ok {P : Program} {env : Env} {o : Oper} {b : Builtin} {ts : List TypeId} {as : List Value} (h : bltOf env o.op = some (b, ts, as)) {ρ : Operand → Value} (hρ : Agree env ρ) {w : World} :
    ∃ cs ty, (execOp ρ o).run P w = (builtin b ⟨ts⟩ ty cs ⟨as⟩).run P w := by
  unfold bltOf at h
  split at h
  · rename_i c hop
    split at h
    · rename_i b' hc
      split at h
      · rename_i as' has
        simp only [Option.some.injEq, Prod.mk.injEq] at h
        obtain ⟨rfl, rfl, rfl⟩ := h
        have e : c.args.map ρ = ⟨as'⟩ := by apply Array.ext'; simpa using evs_ok hρ has
        exact ⟨_, _, by unfold execOp; rw [hop]; simp [resolve, hc, invoke, e]; rfl⟩
      · cases h
    · cases h
  · cases h

theorem OpOk.mapDel {C : Ctx} {env : Env} {bx : Bx} {hp : List Seg} {S : Base} {o : Oper} {K : Value → Bx → List Seg → Prop} {t kt et : TypeId} {d : TypeDesc} {b : Nat} {L : List (Value × Value)} {k v : Value} (j : Nat)
    (ho : bltOf env o.op = some (.delete, [t, kt], [.map (some b), k])) (ht : C.P.underlying t = some (.map kt et)) (hd : C.P.underlying kt = some d) (hkk : IsKey d k)
    (hj : nth hp j = some (Seg.map b d L)) {i : Nat} (hi : L[i]? = some (k, v)) (hk : K (.tuple #[]) bx (setL hp j (Seg.map b d (L.eraseIdx i)))) : OpOk C o env bx hp S K := by
  intro w hw ρ hρ
  have hM : MapIs w b d L := hw.hp _ (nth_mem hj)
  obtain ⟨cs, ty, hex⟩ := bltOf_ok (P := C.P) (w := w) ho hρ
  obtain ⟨w', h1, h2, h3, h4⟩ := run_del_hit (ty := ty) ht hd hM hkk hi
  refine .inl ⟨.tuple #[], w', bx, _, .inl ?_, hw.setSeg hj (s' := Seg.map b d (L.eraseIdx i)) (by simpa [Seg.map] using h3) h2 (by simp [Seg.map]) (fun q hq => ⟨.inl hq, ?_⟩), hk⟩
  · rw [hex]; simp only [builtin, Sem.run_bind, h1, Result.andThen_ok, Sem.run_pure]
  · simp [Seg.map] at hq; subst hq; rw [h4]; exact hM.lt

theorem OpOk.mapLen {C : Ctx} {env : Env} {bx : Bx} {hp : List Seg} {S : Base} {o : Oper} {K : Value → Bx → List Seg → Prop} {t kt et : TypeId} {d : TypeDesc} {b : Nat} {L : List (Value × Value)}
    (ho : bltOf env o.op = some (.len, [t], [.map (some b)])) (ht : C.P.underlying t = some (.map kt et)) (hM : ∀ w, WOk S bx hp w → MapIs w b d L) (hk : K (.int .i64 L.length) bx hp) : OpOk C o env bx hp S K := by
  intro w hw ρ hρ
  obtain ⟨cs, ty, hex⟩ := bltOf_ok (P := C.P) (w := w) ho hρ
  obtain ⟨es, clock, h1, -, -, h4⟩ := hM w hw
  refine .inl ⟨.int .i64 L.length, w, bx, hp, .inl ?_, hw, hk⟩
  rw [hex]
  have hl : L.length = es.size := by rw [← h4]; simp
  simp [builtin, Builtin.len_, run_underlying ht, MapKept.run_getObj_map h1, hl, goInt, Result.andThen]
end Go.Eng

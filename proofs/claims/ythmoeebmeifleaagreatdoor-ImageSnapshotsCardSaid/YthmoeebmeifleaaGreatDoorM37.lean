/-
  Engine, part 29: maps whose keys are of any kind that can be told at once.
-/
import Derived.Test.YthmoeebmeifleaaGreatDoorM12
import Derived.Maps.Keyed
/-
  Engine, part 29: maps whose keys are of any kind that can be told at once.
-/
namespace Go.Eng
open Go Go.MapKept

/-- What is asked of a type of keys, and of the keys. -/
structure KeyRun (P : Program) (kt : TypeId) (KP : Value → Prop) : Prop where
  check : ∀ (w : World) (em : Bool) {v : Value}, KP v → (Instr.checkKey em 10000 kt v).run P w = .ok () w
  find : ∀ (w : World) {x : Value}, KP x → ∀ es : List MapEntry, (∀ e ∈ es, KP e.key) →
    ((Instr.findKey kt x es).run P w = .ok none w ∧ ∀ e ∈ es, e.key ≠ x) ∨ ∃ j e, (Instr.findKey kt x es).run P w = .ok (some (j, e.val)) w ∧ es[j]? = some e ∧ e.key = x
  stays : ∀ (w : World) {v : Value}, KP v → (Instr.keyThatStays v v).run P w = .ok v w
theorem KeyRun.of {P : Program} {kt : TypeId} {KP : Value → Prop} (K : Maps.Keyed P kt) (h : ∀ v, KP v → ∃ l, keyOf P kt v = some l) : KeyRun P kt KP :=
  ⟨fun w em v hv => by obtain ⟨l, hl⟩ := h v hv; exact K.check w em hl, fun w x hx es hes => by obtain ⟨l, hl⟩ := h x hx; exact K.find w hl es (fun e he => h _ (hes e he)), fun w v hv => by obtain ⟨l, hl⟩ := h v hv; exact K.stays w hl⟩

/-- A map, by its entries, in the order that they lie in. -/
def MapQ (w : World) (b : Nat) (KP : Value → Prop) (L : List (Value × Value)) : Prop :=
  ∃ (es : Array MapEntry) (clock : Nat), w.heap[b]? = some (.map es clock) ∧ Stamped es clock ∧ (∀ x ∈ es.toList, KP x.key) ∧ es.toList.map (fun e => (e.key, e.val)) = L
def Seg.mapQ (b : Nat) (KP : Value → Prop) (L : List (Value × Value)) : Seg where
  keys := [b]
  ok w := MapQ w b KP L
  loc w w' h := by
    rintro ⟨es, clock, h1, h2, h3, h4⟩
    exact ⟨es, clock, by rw [h _ (by simp)]; exact h1, h2, h3, h4⟩
theorem MapQ.lt {w : World} {b : Nat} {KP : Value → Prop} {L : List (Value × Value)} (h : MapQ w b KP L) : b < w.heap.size := by
  obtain ⟨es, clock, h1, -⟩ := h
  exact (Array.getElem?_eq_some_iff.1 h1).1
theorem MapQ.ext {m : List Nat} {w w' : World} {b : Nat} {KP : Value → Prop} {L : List (Value × Value)} (h : MapQ w b KP L) (he : Ext m w w') (hm : b ∉ m) : MapQ w' b KP L := by
  have hlt := h.lt
  obtain ⟨es, clock, h1, h2, h3, h4⟩ := h
  exact ⟨es, clock, by rw [he.block _ hlt hm]; exact h1, h2, h3, h4⟩
theorem MapQ.nodup {w : World} {b : Nat} {KP : Value → Prop} {L : List (Value × Value)} (h : MapQ w b KP L) : (L.map (·.1)).Nodup := by
  obtain ⟨es, clock, -, h2, -, h4⟩ := h
  rw [← h4, List.map_map]; exact h2.2.2
theorem isKeyQ_modify {KP : Value → Prop} {es : Array MapEntry} (h : ∀ x ∈ es.toList, KP x.key) (i : Nat) (f : MapEntry → MapEntry) (hk : ∀ e, es[i]? = some e → (f e).key = e.key) : ∀ x ∈ (es.modify i f).toList, KP x.key := by
  intro x hx
  obtain ⟨j, hj⟩ := List.mem_iff_getElem?.1 hx
  rw [Array.getElem?_toList, Array.getElem?_modify] at hj
  split at hj
  · rename_i hij
    subst hij
    obtain ⟨e, he, rfl⟩ := Option.map_eq_some_iff.1 hj
    rw [hk e he]
    exact h e (by rw [← Array.getElem?_toList] at he; exact List.mem_of_getElem? he)
  · exact h x (by rw [← Array.getElem?_toList] at hj; exact List.mem_of_getElem? hj)
theorem find_missQ {P : Program} {kt : TypeId} {KP : Value → Prop} (K : KeyRun P kt KP) (w : World) {k : Value} {es : Array MapEntry} (hk : KP k) (hks : ∀ x ∈ es.toList, KP x.key) (hm : ∀ p, p ∈ es.toList.map (fun e => (e.key, e.val)) → p.1 ≠ k) : (Instr.findKey kt k es.toList).run P w = .ok none w ∧ ∀ x ∈ es.toList, x.key ≠ k := by
  have h0 : ∀ x ∈ es.toList, x.key ≠ k := fun x hx => hm _ (List.mem_map.2 ⟨x, hx, rfl⟩)
  rcases K.find w hk es.toList hks with h | ⟨j, e, -, h2, h3⟩
  · exact h
  · exact absurd h3 (h0 e (List.mem_of_getElem? h2))
theorem find_hitQ {P : Program} {kt : TypeId} {KP : Value → Prop} (K : KeyRun P kt KP) (w : World) {k v : Value} {i : Nat} {es : Array MapEntry} (hk : KP k) (hks : ∀ x ∈ es.toList, KP x.key) (hn : (es.toList.map (·.key)).Nodup) (hi : (es.toList.map (fun e => (e.key, e.val)))[i]? = some (k, v)) :
    (Instr.findKey kt k es.toList).run P w = .ok (some (i, v)) w ∧ ∃ e, es[i]? = some e ∧ e.key = k ∧ e.val = v := by
  rw [List.getElem?_map] at hi
  obtain ⟨e, he, hp⟩ := Option.map_eq_some_iff.1 hi
  simp only [Prod.mk.injEq] at hp
  obtain ⟨hp1, hp2⟩ := hp
  rcases K.find w hk es.toList hks with ⟨-, h⟩ | ⟨j, e', h1, h2, h3⟩
  · exact absurd hp1 (h e (List.mem_of_getElem? he))
  · have hij : j = i := by
      have a1 : (es.toList.map (·.key))[j]? = some k := by rw [List.getElem?_map, h2]; simp [h3]
      have a2 : (es.toList.map (·.key))[i]? = some k := by rw [List.getElem?_map, he]; simp [hp1]
      exact (List.getElem?_inj (List.getElem?_eq_some_iff.1 a1).1 hn).1 (a1.trans a2.symm)
    subst hij
    rw [h2] at he
    cases he
    exact ⟨by rw [h1, hp2], _, by simpa using h2, h3, hp2⟩

section
variable {P : Program} {w : World} {t kt et : TypeId} {KP : Value → Prop} {b : Nat} {L : List (Value × Value)} {k v z : Value}

theorem run_look_hitQ (ht : P.underlying t = some (.map kt et)) (hd : KeyRun P kt KP) (hM : MapQ w b KP L) (hk : KP k) {i : Nat} (hi : L[i]? = some (k, v)) (ok : Bool) :
    (Instr.lookup t (.map (some b)) k ok).run P w = .ok (if ok then .tuple #[v, .bool true] else v) w := by
  obtain ⟨es, clock, h1, h2, h3, rfl⟩ := hM
  obtain ⟨hf, -⟩ := find_hitQ hd w hk h3 h2.2.2 hi
  cases ok <;> simp [Instr.lookup, run_underlying ht, MapKept.run_getObj_map h1, hd.check w _ hk, hf, Result.andThen]
theorem run_look_missQ (ht : P.underlying t = some (.map kt et)) (hd : KeyRun P kt KP) (hz : (zeroValue et).run P w = .ok z w) (hM : MapQ w b KP L) (hk : KP k) (hi : ∀ p, p ∈ L → p.1 ≠ k) (ok : Bool) :
    (Instr.lookup t (.map (some b)) k ok).run P w = .ok (if ok then .tuple #[z, .bool false] else z) w := by
  obtain ⟨es, clock, h1, h2, h3, rfl⟩ := hM
  obtain ⟨hf, -⟩ := find_missQ hd w hk h3 hi
  cases ok <;> simp [Instr.lookup, run_underlying ht, MapKept.run_getObj_map h1, hd.check w _ hk, hf, hz, Result.andThen]
theorem run_upd_hitQ {r : Value} (ht : P.underlying t = some (.map kt et)) (hd : KeyRun P kt KP) (hM : MapQ w b KP L) (hk : KP k) {i : Nat} (hi : L[i]? = some (k, v)) :
    ∃ w', (Instr.mapUpdate t (.map (some b)) k r).run P w = .ok () w' ∧ MapQ w' b KP (L.set i (k, r)) ∧ Ext [b] w w' ∧ w'.heap.size = w.heap.size := by
  obtain ⟨es, clock, h1, h2, h3, rfl⟩ := hM
  obtain ⟨hf, e, he, hek, -⟩ := find_hitQ hd w hk h3 h2.2.2 hi
  have hlt := (Array.getElem?_eq_some_iff.1 h1).1
  refine ⟨{ w with heap := w.heap.setIfInBounds b (.map (es.modify i fun e => { e with key := k, val := r }) clock) }, ?_, ⟨_, _, (heap_set h1).1, stamped_modify h2 _ _ (fun _ _ => rfl) ?_, isKeyQ_modify h3 _ _ ?_, ?_⟩, ⟨rfl, rfl, rfl, (by first | exact Nat.le_refl _ | exact Nat.le_succ _ | exact Nat.le_add_right _ _), by simp, fun r' _ hne => (heap_set h1).2 r' (by simpa using hne)⟩, by simp⟩
  · simp [Instr.mapUpdate, run_underlying ht, MapKept.run_getObj_map h1, hd.check w _ hk, hf, he, hek, hd.stays w hk, MapKept.run_setObj_map _ h1, Result.andThen]
  · intro e' _ he'
    rw [he] at he'; cases he'; exact hek.symm
  · intro e' he'
    rw [he] at he'; cases he'; exact hek.symm
  · apply List.ext_getElem?
    intro j
    simp only [List.getElem?_map, Array.getElem?_toList, Array.getElem?_modify, List.getElem?_set, List.length_map, Array.length_toList]
    by_cases hij : i = j
    · subst hij
      have hil := (Array.getElem?_eq_some_iff.1 he).1
      simp [hil]
    · simp [hij]
theorem run_upd_missQ {r : Value} (ht : P.underlying t = some (.map kt et)) (hd : KeyRun P kt KP) (hM : MapQ w b KP L) (hk : KP k) (hi : ∀ p, p ∈ L → p.1 ≠ k) :
    ∃ w', (Instr.mapUpdate t (.map (some b)) k r).run P w = .ok () w' ∧ MapQ w' b KP (L ++ [(k, r)]) ∧ Ext [b] w w' ∧ w'.heap.size = w.heap.size := by
  obtain ⟨es, clock, h1, h2, h3, rfl⟩ := hM
  obtain ⟨hf, hne⟩ := find_missQ hd w hk h3 hi
  refine ⟨{ w with heap := w.heap.setIfInBounds b (.map (es.push { key := k, val := r, born := clock }) (clock + 1)) }, ?_, ⟨_, _, (heap_set h1).1, stamped_push h2 hne, ?_, by simp⟩, ⟨rfl, rfl, rfl, (by first | exact Nat.le_refl _ | exact Nat.le_succ _ | exact Nat.le_add_right _ _), by simp, fun r' _ hne => (heap_set h1).2 r' (by simpa using hne)⟩, by simp⟩
  · simp [Instr.mapUpdate, run_underlying ht, MapKept.run_getObj_map h1, hd.check w _ hk, hf, MapKept.run_setObj_map _ h1, Result.andThen]
  · intro x hx
    simp only [Array.toList_push, List.mem_append, List.mem_singleton] at hx
    rcases hx with hx | rfl
    · exact h3 x hx
    · exact hk
theorem run_del_hitQ {ty : TypeId} (ht : P.underlying t = some (.map kt et)) (hd : KeyRun P kt KP) (hM : MapQ w b KP L) (hk : KP k) {i : Nat} (hi : L[i]? = some (k, v)) :
    ∃ w', (Builtin.delete_ #[t, kt] ty #[.map (some b), k]).run P w = .ok (.tuple #[]) w' ∧ MapQ w' b KP (L.eraseIdx i) ∧ Ext [b] w w' ∧ w'.heap.size = w.heap.size := by
  obtain ⟨es, clock, h1, h2, h3, rfl⟩ := hM
  obtain ⟨hf, e, he, hek, -⟩ := find_hitQ hd w hk h3 h2.2.2 hi
  have hil := (Array.getElem?_eq_some_iff.1 he).1
  have e1 : (es.eraseIdxIfInBounds i).toList = es.toList.eraseIdx i := by
    unfold Array.eraseIdxIfInBounds
    rw [dif_pos hil, Array.toList_eraseIdx]
  refine ⟨{ w with heap := w.heap.setIfInBounds b (.map (es.eraseIdxIfInBounds i) clock) }, ?_, ⟨_, _, (heap_set h1).1, stamped_erase h2 _, ?_, ?_⟩, ⟨rfl, rfl, rfl, (by first | exact Nat.le_refl _ | exact Nat.le_succ _ | exact Nat.le_add_right _ _), by simp, fun r' _ hne => (heap_set h1).2 r' (by simpa using hne)⟩, by simp⟩
  · simp [Builtin.delete_, run_underlying ht, MapKept.run_getObj_map h1, hd.check w _ hk, hf, MapKept.run_setObj_map _ h1, Result.andThen]
  · intro x hx
    rw [e1] at hx
    exact h3 x ((List.eraseIdx_sublist _ _).subset hx)
  · rw [e1, eraseIdx_map']
theorem run_del_missQ {ty : TypeId} (ht : P.underlying t = some (.map kt et)) (hd : KeyRun P kt KP) (hM : MapQ w b KP L) (hk : KP k) (hi : ∀ p, p ∈ L → p.1 ≠ k) :
    ∃ w', (Builtin.delete_ #[t, kt] ty #[.map (some b), k]).run P w = .ok (.tuple #[]) w' ∧ MapQ w' b KP L ∧ Ext [b] w w' ∧ w'.heap.size = w.heap.size := by
  obtain ⟨es, clock, h1, h2, h3, rfl⟩ := hM
  obtain ⟨hf, hne⟩ := find_missQ hd w hk h3 hi
  refine ⟨{ w with heap := w.heap.setIfInBounds b (.map es clock) }, ?_, ⟨_, _, (heap_set h1).1, h2, h3, rfl⟩, ⟨rfl, rfl, rfl, (by first | exact Nat.le_refl _ | exact Nat.le_succ _ | exact Nat.le_add_right _ _), by simp, fun r' _ hne => (heap_set h1).2 r' (by simpa using hne)⟩, by simp⟩
  simp [Builtin.delete_, run_underlying ht, MapKept.run_getObj_map h1, hd.check w _ hk, hf, MapKept.run_setObj_map _ h1, Result.andThen]
end

theorem LookOb.hitQ {P : Program} {S : Base} {bx : Bx} {hp : List Seg} {t kt et : TypeId} {KP : Value → Prop} {b : Nat} {L : List (Value × Value)} {k v : Value} (ok : Bool) (ht : P.underlying t = some (.map kt et)) (hd : KeyRun P kt KP)
    (hM : ∀ w, WOk S bx hp w → MapQ w b KP L) (hk : KP k) {i : Nat} (hi : L[i]? = some (k, v)) : LookOb P S bx hp t (.map (some b)) k ok (if ok then .tuple #[v, .bool true] else v) :=
  fun w hw => run_look_hitQ ht hd (hM w hw) hk hi ok
theorem LookOb.missQ {P : Program} {S : Base} {bx : Bx} {hp : List Seg} {t kt et : TypeId} {KP : Value → Prop} {b : Nat} {L : List (Value × Value)} {k z : Value} (ok : Bool) (ht : P.underlying t = some (.map kt et)) (hd : KeyRun P kt KP)
    (hz : ∀ w, (zeroValue et).run P w = .ok z w) (hM : ∀ w, WOk S bx hp w → MapQ w b KP L) (hk : KP k) (hi : ∀ p, p ∈ L → p.1 ≠ k) : LookOb P S bx hp t (.map (some b)) k ok (if ok then .tuple #[z, .bool false] else z) :=
  fun w hw => run_look_missQ ht hd (hz w) (hM w hw) hk hi ok

/-- A new map. -/
theorem OpOk.makeMapQ {C : Ctx} {env : Env} {bx : Bx} {hp : List Seg} {S : Base} {o : Oper} {K : Value → Bx → List Seg → Prop} {t : TypeId} (KP : Value → Prop) (ho : o.op = .makeMap t none)
    (hk : ∀ r, K (.map (some r)) bx (Seg.mapQ r KP [] :: hp)) : OpOk C o env bx hp S K := by
  intro w hw ρ hρ
  refine .inl ⟨.map (some w.heap.size), w.alloc (.map #[] 0), bx, _, .inl ?_, hw.newSeg (s' := Seg.mapQ w.heap.size KP []) ⟨rfl, rfl, rfl, (by first | exact Nat.le_refl _ | exact Nat.le_succ _ | exact Nat.le_add_right _ _), by simp, fun k hk _ => RowKit.Below.heap_alloc w _ k hk⟩ ⟨_, _, (MapKept.heap_alloc w _).1, stamped_empty 0, by simp, by simp⟩ (by simp [Seg.mapQ]) ?_, hk _⟩
  · unfold execOp
    simp only [ho, Option.map_none]
    simp [Instr.makeMap, Result.andThen]
  · intro k hk
    simp [Seg.mapQ] at hk; subst hk
    exact ⟨Nat.le_refl _, by simp⟩

theorem OpOk.mapPutQ {C : Ctx} {env : Env} {bx : Bx} {hp : List Seg} {S : Base} {o : Oper} {K : Value → Bx → List Seg → Prop} {t kt et : TypeId} {KP : Value → Prop} {b : Nat} {L : List (Value × Value)} {k v r : Value} {m x y : Operand} (j : Nat)
    (ho : o.op = .mapUpdate t m x y) (hm : Env.ev env m = some (.map (some b))) (hx : Env.ev env x = some k) (hy : Env.ev env y = some r) (ht : C.P.underlying t = some (.map kt et)) (hd : KeyRun C.P kt KP) (hkk : KP k)
    (hj : nth hp j = some (Seg.mapQ b KP L)) {i : Nat} (hi : L[i]? = some (k, v)) (hk : K undef bx (setL hp j (Seg.mapQ b KP (L.set i (k, r))))) : OpOk C o env bx hp S K := by
  intro w hw ρ hρ
  have hM : MapQ w b KP L := hw.hp _ (nth_mem hj)
  obtain ⟨w', h1, h2, h3, h4⟩ := run_upd_hitQ (r := r) ht hd hM hkk hi
  refine .inl ⟨undef, w', bx, _, .inr ⟨?_, rfl⟩, hw.setSeg hj (s' := Seg.mapQ b KP (L.set i (k, r))) (by simpa [Seg.mapQ] using h3) h2 (by simp [Seg.mapQ]) (fun q hq => ⟨.inl hq, ?_⟩), hk⟩
  · unfold execOp
    simp only [ho, hρ _ _ hm, hρ _ _ hx, hρ _ _ hy, Sem.run_bind, h1, Result.andThen_ok, Sem.run_pure]
  · simp [Seg.mapQ] at hq; subst hq; rw [h4]; exact hM.lt
theorem OpOk.mapPushQ {C : Ctx} {env : Env} {bx : Bx} {hp : List Seg} {S : Base} {o : Oper} {K : Value → Bx → List Seg → Prop} {t kt et : TypeId} {KP : Value → Prop} {b : Nat} {L : List (Value × Value)} {k r : Value} {m x y : Operand} (j : Nat)
    (ho : o.op = .mapUpdate t m x y) (hm : Env.ev env m = some (.map (some b))) (hx : Env.ev env x = some k) (hy : Env.ev env y = some r) (ht : C.P.underlying t = some (.map kt et)) (hd : KeyRun C.P kt KP) (hkk : KP k)
    (hj : nth hp j = some (Seg.mapQ b KP L)) (hi : ∀ p, p ∈ L → p.1 ≠ k) (hk : K undef bx (setL hp j (Seg.mapQ b KP (L ++ [(k, r)])))) : OpOk C o env bx hp S K := by
  intro w hw ρ hρ
  have hM : MapQ w b KP L := hw.hp _ (nth_mem hj)
  obtain ⟨w', h1, h2, h3, h4⟩ := run_upd_missQ (r := r) ht hd hM hkk hi
  refine .inl ⟨undef, w', bx, _, .inr ⟨?_, rfl⟩, hw.setSeg hj (s' := Seg.mapQ b KP (L ++ [(k, r)])) (by simpa [Seg.mapQ] using h3) h2 (by simp [Seg.mapQ]) (fun q hq => ⟨.inl hq, ?_⟩), hk⟩
  · unfold execOp
    simp only [ho, hρ _ _ hm, hρ _ _ hx, hρ _ _ hy, Sem.run_bind, h1, Result.andThen_ok, Sem.run_pure]
  · simp [Seg.mapQ] at hq; subst hq; rw [h4]; exact hM.lt

theorem OpOk.mapDelQ {C : Ctx} {env : Env} {bx : Bx} {hp : List Seg} {S : Base} {o : Oper} {K : Value → Bx → List Seg → Prop} {t kt et : TypeId} {KP : Value → Prop} {b : Nat} {L : List (Value × Value)} {k v : Value} (j : Nat)
    (ho : bltOf env o.op = some (.delete, [t, kt], [.map (some b), k])) (ht : C.P.underlying t = some (.map kt et)) (hd : KeyRun C.P kt KP) (hkk : KP k)
    (hj : nth hp j = some (Seg.mapQ b KP L)) {i : Nat} (hi : L[i]? = some (k, v)) (hk : K (.tuple #[]) bx (setL hp j (Seg.mapQ b KP (L.eraseIdx i)))) : OpOk C o env bx hp S K := by
  intro w hw ρ hρ
  have hM : MapQ w b KP L := hw.hp _ (nth_mem hj)
  obtain ⟨cs, ty, hex⟩ := bltOf_ok (P := C.P) (w := w) ho hρ
  obtain ⟨w', h1, h2, h3, h4⟩ := run_del_hitQ (ty := ty) ht hd hM hkk hi
  refine .inl ⟨.tuple #[], w', bx, _, .inl ?_, hw.setSeg hj (s' := Seg.mapQ b KP (L.eraseIdx i)) (by simpa [Seg.mapQ] using h3) h2 (by simp [Seg.mapQ]) (fun q hq => ⟨.inl hq, ?_⟩), hk⟩
  · rw [hex]; simp only [builtin, Sem.run_bind, h1, Result.andThen_ok, Sem.run_pure]
  · simp [Seg.mapQ] at hq; subst hq; rw [h4]; exact hM.lt

theorem OpOk.mapLenQ {C : Ctx} {env : Env} {bx : Bx} {hp : List Seg} {S : Base} {o : Oper} {K : Value → Bx → List Seg → Prop} {t kt et : TypeId} {KP : Value → Prop} {b : Nat} {L : List (Value × Value)}
    (ho : bltOf env o.op = some (.len, [t], [.map (some b)])) (ht : C.P.underlying t = some (.map kt et)) (hM : ∀ w, WOk S bx hp w → MapQ w b KP L) (hk : K (.int .i64 L.length) bx hp) : OpOk C o env bx hp S K := by
  intro w hw ρ hρ
  obtain ⟨cs, ty, hex⟩ := bltOf_ok (P := C.P) (w := w) ho hρ
  obtain ⟨es, clock, h1, -, -, h4⟩ := hM w hw
  refine .inl ⟨.int .i64 L.length, w, bx, hp, .inl ?_, hw, hk⟩
  rw [hex]
  have hl : L.length = es.size := by rw [← h4]; simp
  simp [builtin, Builtin.len_, run_underlying ht, MapKept.run_getObj_map h1, hl, goInt, Result.andThen]

theorem At.mapOpenQ {C : Ctx} {x : Loc} {df : List Deferred} {env : Env} {bx : Bx} {hp : List Seg} {S : Base} {b : Nat} {KP : Value → Prop} {L : List (Value × Value)} (j : Nat) (hj : nth hp j = some (Seg.mapQ b KP L))
    (hk : ∀ es clock, Stamped es clock → (∀ x ∈ es.toList, KP x.key) → es.toList.map (fun e => (e.key, e.val)) = L → At C x df env bx (setL hp j (Seg.obj b (.map es clock))) S) : At C x df env bx hp S := by
  intro w hw
  obtain ⟨es, clock, h1, h2, h3, h4⟩ : MapQ w b KP L := hw.hp _ (nth_mem hj)
  refine hk es clock h2 h3 h4 w (hw.setSeg hj (s' := Seg.obj b (.map es clock)) (Ext.refl _ _) h1 (by simp [Seg.obj]) (fun q hq => ⟨.inl (by simpa [Seg.obj, Seg.mapQ] using hq), ?_⟩))
  simp [Seg.obj] at hq; subst hq; exact (Array.getElem?_eq_some_iff.1 h1).1
theorem At.mapShutQ {C : Ctx} {x : Loc} {df : List Deferred} {env : Env} {bx : Bx} {hp : List Seg} {S : Base} {b clock : Nat} {KP : Value → Prop} {es : Array MapEntry} (j : Nat) (hj : nth hp j = some (Seg.obj b (.map es clock))) (hs : Stamped es clock) (hks : ∀ x ∈ es.toList, KP x.key)
    (hk : At C x df env bx (setL hp j (Seg.mapQ b KP (es.toList.map (fun e => (e.key, e.val))))) S) : At C x df env bx hp S := by
  intro w hw
  have h1 : w.heap[b]? = some (.map es clock) := hw.hp _ (nth_mem hj)
  refine hk w (hw.setSeg hj (s' := Seg.mapQ b KP _) (Ext.refl _ _) ⟨es, clock, h1, hs, hks, rfl⟩ (by simp [Seg.mapQ]) (fun q hq => ⟨.inl (by simpa [Seg.obj, Seg.mapQ] using hq), ?_⟩))
  simp [Seg.mapQ] at hq; subst hq; exact (Array.getElem?_eq_some_iff.1 h1).1

/-- A type of keys that are rows of three numbers. -/
def key3 (k : Int × Int × Int) : Value := .agg #[.int .i64 k.1, .int .i64 k.2.1, .int .i64 k.2.2]
def In3 (k : Int × Int × Int) : Prop := inK .i64 k.1 ∧ inK .i64 k.2.1 ∧ inK .i64 k.2.2
def K3 (v : Value) : Prop := ∃ k, v = key3 k ∧ In3 k
theorem key3_inj {a b : Int × Int × Int} (h : key3 a = key3 b) : a = b := by
  obtain ⟨a1, a2, a3⟩ := a
  obtain ⟨b1, b2, b3⟩ := b
  simpa [key3] using h
end Go.Eng

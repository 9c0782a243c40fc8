/-
  Engine, part 21: maps.
-/
import Derived.Test.YtacpcbobkeedbaaGreatDoorM11
import Derived.MapKept
import Derived.Laws.IdiomRangeMap
/-
  Engine, part 21: maps.
-/
namespace Go.Eng
open Go Go.MapKept

/-- A block that holds just this. -/
def Seg.obj (r : Nat) (o : Obj) : Seg where
  keys := [r]
  ok w := w.heap[r]? = some o
  loc w w' h r := by rw [h _ (by simp)]; exact r

/-- A map, by its entries, in the order that they lie in. -/
def MapIs (w : World) (b : Nat) (d : TypeDesc) (L : List (Value × Value)) : Prop :=
  ∃ (es : Array MapEntry) (clock : Nat), w.heap[b]? = some (.map es clock) ∧ Stamped es clock ∧ (∀ x ∈ es.toList, IsKey d x.key) ∧ es.toList.map (fun e => (e.key, e.val)) = L
def Seg.map (b : Nat) (d : TypeDesc) (L : List (Value × Value)) : Seg where
  keys := [b]
  ok w := MapIs w b d L
  loc w w' h := by
    rintro ⟨es, clock, h1, h2, h3, h4⟩
    exact ⟨es, clock, by rw [h _ (by simp)]; exact h1, h2, h3, h4⟩
theorem MapIs.lt {w : World} {b : Nat} {d : TypeDesc} {L : List (Value × Value)} (h : MapIs w b d L) : b < w.heap.size := by
  obtain ⟨es, clock, h1, -⟩ := h
  exact (Array.getElem?_eq_some_iff.1 h1).1
theorem MapIs.ext {m : List Nat} {w w' : World} {b : Nat} {d : TypeDesc} {L : List (Value × Value)} (h : MapIs w b d L) (he : Ext m w w') (hm : b ∉ m) : MapIs w' b d L := by
  have hlt := h.lt
  obtain ⟨es, clock, h1, h2, h3, h4⟩ := h
  exact ⟨es, clock, by rw [he.block _ hlt hm]; exact h1, h2, h3, h4⟩
theorem MapIs.nodup {w : World} {b : Nat} {d : TypeDesc} {L : List (Value × Value)} (h : MapIs w b d L) : (L.map (·.1)).Nodup := by
  obtain ⟨es, clock, -, h2, -, h4⟩ := h
  rw [← h4, List.map_map]; exact h2.2.2
theorem find_miss {d : TypeDesc} {k : Value} {es : Array MapEntry} (hk : IsKey d k) (hks : ∀ x ∈ es.toList, IsKey d x.key) (hm : ∀ p, p ∈ es.toList.map (fun e => (e.key, e.val)) → p.1 ≠ k) : Instr.findNow d k es.toList 0 = some none ∧ ∀ x ∈ es.toList, x.key ≠ k := by
  have h0 : ∀ x ∈ es.toList, x.key ≠ k := fun x hx => hm _ (List.mem_map.2 ⟨x, hx, rfl⟩)
  rcases findNow_spec hk es.toList 0 hks with h | ⟨j, e, -, h2, h3⟩
  · exact h
  · exact absurd h3 (h0 e (List.mem_of_getElem? h2))
theorem find_hit {d : TypeDesc} {k v : Value} {i : Nat} {es : Array MapEntry} (hk : IsKey d k) (hks : ∀ x ∈ es.toList, IsKey d x.key) (hn : (es.toList.map (·.key)).Nodup) (hi : (es.toList.map (fun e => (e.key, e.val)))[i]? = some (k, v)) :
    Instr.findNow d k es.toList 0 = some (some (i, v)) ∧ ∃ e, es[i]? = some e ∧ e.key = k ∧ e.val = v := by
  rw [List.getElem?_map] at hi
  obtain ⟨e, he, hp⟩ := Option.map_eq_some_iff.1 hi
  simp only [Prod.mk.injEq] at hp
  obtain ⟨hp1, hp2⟩ := hp
  rcases findNow_spec hk es.toList 0 hks with ⟨-, h⟩ | ⟨j, e', h1, h2, h3⟩
  · exact absurd hp1 (h e (List.mem_of_getElem? he))
  · have hij : j = i := by
      have a1 : (es.toList.map (·.key))[j]? = some k := by rw [List.getElem?_map, h2]; simp [h3]
      have a2 : (es.toList.map (·.key))[i]? = some k := by rw [List.getElem?_map, he]; simp [hp1]
      exact (List.getElem?_inj (List.getElem?_eq_some_iff.1 a1).1 hn).1 (a1.trans a2.symm)
    subst hij
    rw [h2] at he
    cases he
    rw [Nat.zero_add] at h1
    exact ⟨by rw [h1, hp2], _, by simpa using h2, h3, hp2⟩

section
variable {P : Program} {w : World} {t kt et : TypeId} {d : TypeDesc} {b : Nat} {L : List (Value × Value)} {k v z : Value}

theorem run_look_hit (ht : P.underlying t = some (.map kt et)) (hd : P.underlying kt = some d) (hM : MapIs w b d L) (hk : IsKey d k) {i : Nat} (hi : L[i]? = some (k, v)) (ok : Bool) :
    (Instr.lookup t (.map (some b)) k ok).run P w = .ok (if ok then .tuple #[v, .bool true] else v) w := by
  obtain ⟨es, clock, h1, h2, h3, rfl⟩ := hM
  obtain ⟨hf, -⟩ := find_hit hk h3 h2.2.2 hi
  cases ok <;> simp [Instr.lookup, run_underlying ht, MapKept.run_getObj_map h1, run_checkKey hd hk, run_findKey hd hf, Result.andThen]
theorem run_look_miss (ht : P.underlying t = some (.map kt et)) (hd : P.underlying kt = some d) (hz : (zeroValue et).run P w = .ok z w) (hM : MapIs w b d L) (hk : IsKey d k) (hi : ∀ p, p ∈ L → p.1 ≠ k) (ok : Bool) :
    (Instr.lookup t (.map (some b)) k ok).run P w = .ok (if ok then .tuple #[z, .bool false] else z) w := by
  obtain ⟨es, clock, h1, h2, h3, rfl⟩ := hM
  obtain ⟨hf, -⟩ := find_miss hk h3 hi
  cases ok <;> simp [Instr.lookup, run_underlying ht, MapKept.run_getObj_map h1, run_checkKey hd hk, run_findKey hd hf, hz, Result.andThen]
end

theorem LookOb.hit {P : Program} {S : Base} {bx : Bx} {hp : List Seg} {t kt et : TypeId} {d : TypeDesc} {b : Nat} {L : List (Value × Value)} {k v : Value} (ok : Bool) (ht : P.underlying t = some (.map kt et)) (hd : P.underlying kt = some d)
    (hM : ∀ w, WOk S bx hp w → MapIs w b d L) (hk : IsKey d k) {i : Nat} (hi : L[i]? = some (k, v)) : LookOb P S bx hp t (.map (some b)) k ok (if ok then .tuple #[v, .bool true] else v) :=
  fun w hw => run_look_hit ht hd (hM w hw) hk hi ok
theorem LookOb.miss {P : Program} {S : Base} {bx : Bx} {hp : List Seg} {t kt et : TypeId} {d : TypeDesc} {b : Nat} {L : List (Value × Value)} {k z : Value} (ok : Bool) (ht : P.underlying t = some (.map kt et)) (hd : P.underlying kt = some d)
    (hz : ∀ w, (zeroValue et).run P w = .ok z w) (hM : ∀ w, WOk S bx hp w → MapIs w b d L) (hk : IsKey d k) (hi : ∀ p, p ∈ L → p.1 ≠ k) : LookOb P S bx hp t (.map (some b)) k ok (if ok then .tuple #[z, .bool false] else z) :=
  fun w hw => run_look_miss ht hd (hz w) (hM w hw) hk hi ok

/-- A call of a builtin function with its arguments. -/
def bltOf (env : Env) : Op → Option (Builtin × List TypeId × List Value)
  | .call c => match c.callee with
    | .builtin b => match evs env c.args.toList with
      | some as => some (b, c.argTypes.toList, as)
      | none => none
    | _ => none
  | _ => none
theorem bltOf_ok {P : Program} {env : Env} {o : Oper} {b : Builtin} {ts : List TypeId} {as : List Value} (h : bltOf env o.op = some (b, ts, as)) {ρ : Operand → Value} (hρ : Agree env ρ) {w : World} :
    ∃ cs ty, (execOp ρ o).run P w = (builtin b ⟨ts⟩ ty cs ⟨as⟩).run P w := by
  unfold bltOf at h
  split at h
  · rename_i c hop
    split at h
    · rename_i b' hc
      split at h
      · rename_i as' has
        simp only [Option.some.injEq, Prod.mk.injEq] at h
        obtain ⟨rfl, rfl, rfl⟩ := h
        have e : c.args.map ρ = ⟨as'⟩ := by apply Array.ext'; simpa using evs_ok hρ has
        exact ⟨_, _, by unfold execOp; rw [hop]; simp [resolve, hc, invoke, e]; rfl⟩
      · cases h
    · cases h
  · cases h

end Go.Eng

/-
  Engine, part 22: ranges over maps and strings; bytes copied.
-/
namespace Go.Eng
open Go Go.MapKept

/-! Strings, rune by rune. -/
theorem OpOk.rangeStr {C : Ctx} {env : Env} {bx : Bx} {hp : List Seg} {S : Base} {o : Oper} {K : Value → Bx → List Seg → Prop} {t : TypeId} {x : Operand} {s : ByteArray}
    (ho : o.op = .range t x) (hx : Env.ev env x = some (.string s)) (ht : C.P.underlying t = some .string) (hk : ∀ r, K (.pointer (some ⟨r, 0, none⟩)) bx (Seg.obj r (.stringIter s 0) :: hp)) : OpOk C o env bx hp S K := by
  intro w hw ρ hρ
  refine .inl ⟨.pointer (some ⟨w.heap.size, 0, none⟩), w.alloc (.stringIter s 0), bx, _, .inl ?_, hw.newSeg (s' := Seg.obj w.heap.size (.stringIter s 0)) ⟨rfl, rfl, rfl, (by first | exact Nat.le_refl _ | exact Nat.le_succ _ | exact Nat.le_add_right _ _), by simp, fun k hk _ => RowKit.Below.heap_alloc w _ k hk⟩ (MapKept.heap_alloc w _).1 (by simp [Seg.obj]) ?_, hk _⟩
  · unfold execOp
    simp only [ho, hρ _ _ hx]
    simp [Instr.range, run_underlying ht, Result.andThen]
  · intro k hk
    simp [Seg.obj] at hk; subst hk
    exact ⟨Nat.le_refl _, by simp⟩
theorem OpOk.nextStr {C : Ctx} {env : Env} {bx : Bx} {hp : List Seg} {S : Base} {o : Oper} {K : Value → Bx → List Seg → Prop} {x : Operand} {r pos : Nat} {s : ByteArray} (j : Nat)
    (ho : o.op = .next x true) (hx : Env.ev env x = some (.pointer (some ⟨r, 0, none⟩))) (hj : nth hp j = some (Seg.obj r (.stringIter s pos)))
    (hdone : s.size ≤ pos → K (.tuple #[.bool false]) bx hp) (hnext : pos < s.size → ∀ c width, Utf8.decode s pos = (c, width) → K (.tuple #[.bool true, .int .i64 pos, .int .i32 c]) bx (setL hp j (Seg.obj r (.stringIter s (pos + width))))) : OpOk C o env bx hp S K := by
  intro w hw ρ hρ
  have hr : w.heap[r]? = some (.stringIter s pos) := hw.hp _ (nth_mem hj)
  have hlt := (Array.getElem?_eq_some_iff.1 hr).1
  have hgr : (getObj r).run C.P w = .ok (.stringIter s pos) w := by simp [getObj, Sem.run, hr]
  by_cases hp : pos < s.size
  · obtain ⟨c, width, hd⟩ : ∃ c width, Utf8.decode s pos = (c, width) := ⟨_, _, rfl⟩
    have hset : (setObj r (.stringIter s (pos + width))).run C.P w = .ok () { w with heap := w.heap.setIfInBounds r (.stringIter s (pos + width)) } := by simp [setObj, Sem.run, hr]
    refine .inl ⟨_, { w with heap := w.heap.setIfInBounds r (.stringIter s (pos + width)) }, bx, _, .inl ?_, hw.setSeg hj (s' := Seg.obj r (.stringIter s (pos + width))) ⟨rfl, rfl, rfl, (by first | exact Nat.le_refl _ | exact Nat.le_succ _ | exact Nat.le_add_right _ _), by simp, fun k _ hk => ?_⟩ ?_ (by simp [Seg.obj]) (fun q hq => ⟨.inl hq, ?_⟩), hnext hp c width hd⟩
    · unfold execOp
      simp only [ho, hρ _ _ hx, Instr.next, Sem.run_bind, hgr, Result.andThen, hp, if_true, hd, hset]
      rfl
    · have hne : k ≠ r := by simpa [Seg.obj] using hk
      simp [Ne.symm hne]
    · show (w.heap.setIfInBounds r _)[r]? = _
      simp [hlt]
    · simp [Seg.obj] at hq; subst hq; simpa using hlt
  · refine .inl ⟨_, w, bx, _, .inl ?_, hw, hdone (by omega)⟩
    unfold execOp
    simp only [ho, hρ _ _ hx, Instr.next, Sem.run_bind, hgr, Result.andThen, hp, if_false]
    rfl

/-! Cells copied. -/
def SrcOk (P : Program) (w : World) (src : Value) (u : List Value) : Prop := (Builtin.lenOf src).run P w = .ok u.length w ∧ ∀ k, k ≤ u.length → (Builtin.firstCells 1 k src).run P w = .ok ⟨u.take k⟩ w
theorem SrcOk.str {P : Program} {w : World} (s : ByteArray) : SrcOk P w (.string s) (u8s (bl s)) := by
  refine ⟨by simp [Builtin.lenOf, u8s_len, size_bl], fun k _ => ?_⟩
  simp only [Builtin.firstCells, Sem.run_pure]
  congr 1
  apply Array.ext'
  simp [u8s, bl]
theorem SrcOk.sl {P : Program} {w : World} {a : Option Addr} {u : List Value} (cap : Nat) (h : SlOk w a u) : SrcOk P w (.slice a u.length cap) u := by
  refine ⟨by simp [Builtin.lenOf], fun k hk => ?_⟩
  cases u with
  | nil =>
    have hk0 : k = 0 := by simpa using hk
    subst hk0
    cases a with
    | none => simp [Builtin.firstCells]
    | some a => simp [Builtin.firstCells, loadCells, loadCellsFrom]
  | cons v u =>
    obtain ⟨b, o, rfl, h2⟩ := h.get (by simp)
    have := run_firstCells_some (P := P) w 1 k ⟨b, o, none⟩ (v :: u).length cap ((v :: u).take k) (by simp at hk ⊢; omega) (fun j x hx => by
      rw [Addr.add_lit]
      rw [List.getElem?_take] at hx
      split at hx
      · exact h2 j x hx
      · cases hx)
    simpa using this

end Go.Eng

/-
  Engine, part 23: files: a map from names to rows of bytes.
-/
namespace Go.Eng
open Go Go.MapKept

structure FileE where
  name : List UInt8
  bytes : List UInt8
  g : Nat
  cap : Nat
def FileE.ent (f : FileE) : Value × Value := (Go.Eng.str f.name, sv (some f.g) f.bytes.length f.cap)
def FileE.row (t : TypeId) (f : FileE) : Seg := Seg.row (some f.g) t 1 f.bytes.length f.cap (u8s f.bytes)
def Seg.files (t : TypeId) (b : Nat) (F : List FileE) : Seg := Seg.pack [] (Seg.map b .string (F.map FileE.ent) :: F.map (FileE.row t))

theorem str_inj {a b : List UInt8} (h : str a = str b) : a = b := by
  unfold str at h
  injection h with h
  injection h with h
  exact Array.toList_inj.2 h |> (by simpa using ·)

/-- What is known of files in a world. -/
structure FilesOk (w : World) (t : TypeId) (b : Nat) (F : List FileE) : Prop where
  map : MapIs w b .string (F.map FileE.ent)
  row : ∀ f, f ∈ F → rowOk w (some f.g) t 1 f.bytes.length f.cap (u8s f.bytes)
theorem Seg.files_ok {t : TypeId} {b : Nat} {F : List FileE} {w : World} : (Seg.files t b F).ok w ↔ FilesOk w t b F := by
  constructor
  · intro h
    exact ⟨h.2 _ (List.mem_cons_self ..), fun f hf => h.2 (FileE.row t f) (List.mem_cons_of_mem _ (List.mem_map_of_mem hf))⟩
  · intro h
    refine ⟨by simp, fun s hs => ?_⟩
    rcases List.mem_cons.1 hs with rfl | hs
    · exact h.map
    · obtain ⟨f, hf, rfl⟩ := List.mem_map.1 hs
      exact h.row f hf
theorem WOk.files {S : Base} {bx : Bx} {hp : List Seg} {w : World} {t : TypeId} {b : Nat} {F : List FileE} (h : WOk S bx hp w) (hm : Seg.files t b F ∈ hp) : FilesOk w t b F := Seg.files_ok.1 (h.hp _ hm)
theorem Own.files {bx : Bx} {hp : List Seg} {w : World} {t : TypeId} {b : Nat} {F : List FileE} (h : Own bx hp w) (hm : Seg.files t b F ∈ hp) : FilesOk w t b F := Seg.files_ok.1 (h.hp _ hm)
theorem FilesOk.names {w : World} {t : TypeId} {b : Nat} {F : List FileE} (h : FilesOk w t b F) : (F.map (·.name)).Nodup := by
  have := h.map.nodup
  rw [List.map_map] at this
  have h2 : ((fun x : Value × Value => x.1) ∘ FileE.ent) = (fun n => str n) ∘ (·.name) := rfl
  rw [h2, ← List.map_map] at this
  exact List.Pairwise.of_map (fun n => str n) (fun a b h e => h (by rw [e])) this
theorem FilesOk.ext {m : List Nat} {w w' : World} {t : TypeId} {b : Nat} {F : List FileE} (h : FilesOk w t b F) (he : Ext m w w') (hm : ∀ k, k ∈ b :: F.map (·.g) → k ∉ m) : FilesOk w' t b F := by
  refine ⟨h.map.ext he (hm b (by simp)), fun f hf => ?_⟩
  have hr := h.row f hf
  have hlt : f.g < w.heap.size := by
    obtain ⟨cur, fr, h3, -⟩ := hr.blk f.g rfl
    exact (Array.getElem?_eq_some_iff.1 h3).1
  exact (FileE.row t f).loc w w' (fun k hk => by
    have : k = f.g := by simpa [FileE.row, Seg.row] using hk
    subst this
    exact he.block _ hlt (hm _ (List.mem_cons_of_mem _ (List.mem_map_of_mem hf)))) hr
theorem FilesOk.sl {w : World} {t : TypeId} {b : Nat} {F : List FileE} (h : FilesOk w t b F) {f : FileE} (hf : f ∈ F) : SlOk w (svA (some f.g)) (u8s f.bytes) := SlOk.row (h.row f hf)
theorem FilesOk.key {w : World} {t : TypeId} {b : Nat} {F : List FileE} (h : FilesOk w t b F) {f : FileE} (hf : f ∈ F) : f.g < w.heap.size := by
  obtain ⟨cur, fr, h3, -⟩ := (h.row f hf).blk f.g rfl
  exact (Array.getElem?_eq_some_iff.1 h3).1

/-- A file by its name. -/
def getF (F : List FileE) (n : List UInt8) : Option FileE := F.find? fun f => decide (f.name = n)
def valF (F : List FileE) (n : List UInt8) : Value := match getF F n with
  | some f => sv (some f.g) f.bytes.length f.cap
  | none => sv none 0 0
theorem getF_some {F : List FileE} {n : List UInt8} {f : FileE} (h : getF F n = some f) : f ∈ F ∧ f.name = n := by
  exact ⟨List.mem_of_find?_eq_some h, by simpa using List.find?_some h⟩
theorem getF_none {F : List FileE} {n : List UInt8} (h : getF F n = none) : ∀ f, f ∈ F → f.name ≠ n := by
  intro f hf
  have := List.find?_eq_none.1 h f hf
  simpa using this

section
variable {P : Program} {S : Base} {bx : Bx} {hp : List Seg} {t mt kt et : TypeId} {b : Nat} {F : List FileE} {n : List UInt8}

theorem ent_get {f : FileE} (hf : f ∈ F) : ∃ i : Nat, F[i]? = some f ∧ (F.map FileE.ent)[i]? = some (str f.name, sv (some f.g) f.bytes.length f.cap) := by
  obtain ⟨i, hi⟩ := List.mem_iff_getElem?.1 hf
  exact ⟨i, hi, by rw [List.getElem?_map, hi]; rfl⟩
theorem ent_no (h : ∀ f, f ∈ F → f.name ≠ n) : ∀ p, p ∈ F.map FileE.ent → p.1 ≠ str n := by
  intro p hp
  obtain ⟨f, hf, rfl⟩ := List.mem_map.1 hp
  exact fun e => h f hf (str_inj e)

theorem LookOb.file (ht : P.underlying mt = some (.map kt et)) (hd : P.underlying kt = some .string) (hz : ∀ w, (zeroValue et).run P w = .ok (sv none 0 0) w) (hM : ∀ w, WOk S bx hp w → FilesOk w t b F) :
    LookOb P S bx hp mt (.map (some b)) (str n) false (valF F n) := by
  unfold valF
  cases h : getF F n with
  | none => exact LookOb.miss false ht hd hz (fun w hw => (hM w hw).map) trivial (ent_no (getF_none h))
  | some f =>
    obtain ⟨h1, h2⟩ := getF_some h
    obtain ⟨i, -, hi⟩ := ent_get h1
    rw [h2] at hi
    exact LookOb.hit false ht hd (fun w hw => (hM w hw).map) trivial hi
end

theorem putL_len {α : Type} (l : List α) (i : Nat) (ys : List α) : (putL l i ys).length = l.length := by
  induction ys generalizing l i with
  | nil => rfl
  | cons y ys ih => rw [putL, ih, setL_eq, List.length_set]
end Go.Eng

/-
  Engine, part 24: slices without elements; slices from elsewhere appended.
-/
namespace Go.Eng
open Go

theorem bl_of (l : List UInt8) : bl ⟨l.toArray⟩ = l := by simp [bl]

/-- A slice literal without elements. -/
theorem OpOk.buildNil {C : Ctx} {env : Env} {bx : Bx} {hp : List Seg} {S : Base} {o : Oper} {K : Value → Bx → List Seg → Prop} {t e : TypeId} {sz by_ c : Nat}
    (ho : bldOf o.op = some (t, 0, [])) (ht : elT C.P t = some e) (hi : infoL C.P e = some (sz, by_, c)) (hk : ∀ g, S.w0.heap.size ≤ g → K (sv (some g) 0 0) bx (Seg.row (some g) e sz 0 0 [] :: hp)) : OpOk C o env bx hp S K := by
  intro w hw ρ hρ
  obtain ⟨i, z, hi1, hz1, hs1, -, -⟩ := infoL_ok hi
  have hop : ∃ pa : Array (Nat × Operand), o.op = .buildSlice t 0 pa ∧ pa.toList = [] := by
    unfold bldOf at ho
    split at ho
    · rename_i t' n' pa hop
      simp only [Option.some.injEq, Prod.mk.injEq] at ho
      obtain ⟨rfl, rfl, h3⟩ := ho
      exact ⟨pa, hop, h3⟩
    · cases ho
  obtain ⟨pa, hop, hpa⟩ := hop
  have hpa' : pa = #[] := by apply Array.ext'; simpa using hpa
  subst hpa'
  refine .inl ⟨sv (some w.heap.size) 0 0, w.alloc (.cells #[] e), bx, _, .inl ?_, hw.newSeg (s' := Seg.row (some w.heap.size) e sz 0 0 []) ⟨rfl, rfl, rfl, (by first | exact Nat.le_refl _ | exact Nat.le_succ _ | exact Nat.le_add_right _ _), by simp, fun k hk _ => RowKit.Below.heap_alloc w _ k hk⟩ ?_ (by simp [Seg.row]) ?_, hk _ hw.ext.size⟩
  · unfold execOp
    simp only [hop]
    simp [Instr.buildSlice, Sem.run_bind, run_underlying (elT_ok ht), sizeOf, typeInfo, hi1, Instr.fill, newRow, sv, svA, Result.andThen]
    have e0 : (Array.range 0) = #[] := by decide
    rw [e0, Array.map_empty]
  · refine ⟨by simp, Nat.le_refl _, by omega, by simp, fun g hg => ?_⟩
    cases hg
    exact ⟨#[], (0, 0), heap_alloc_new w _, by simp, by simp, .inl rfl⟩
  · intro k hk
    simp [Seg.row] at hk; subst hk
    exact ⟨Nat.le_refl _, by simp⟩

/-- A slice from elsewhere, appended to a row. -/
theorem OpOk.appendSl {C : Ctx} {env : Env} {bx : Bx} {hp : List Seg} {S : Base} {o : Oper} {K : Value → Bx → List Seg → Prop} {x y : Operand} {t u e : TypeId} {a : Option Nat} {n cap m c2 : Nat} {ad : Option Addr} {xs : List Value} (j sz by_ : Nat) (news : List Value)
    (ho : appOf o.op = some (x, y, t, u)) (ht : elT C.P t = some e) (hu : elT C.P u = some e) (hi : infoL C.P e = some (sz, by_, sz)) (hj : nth hp j = some (Seg.row a e sz n cap xs)) (hx : Env.ev env x = some (sv a n cap))
    (hy : Env.ev env y = some (.slice ad m c2)) (hsl : ∀ w, WOk S bx hp w → SlOk w ad news) (hl : news.length = m * sz) (h0 : news ≠ []) (h1 : ∀ v, v ∈ news → v.oneCell' = true)
    (h63 : n + m ≤ 9223372036854775807) (hb : (n + m) * by_ ≤ 140737488355328)
    (hk : ∀ a' cap', K (sv a' (n + m) cap') bx (setL hp j (Seg.row a' e sz (n + m) cap' (xs ++ news)))) : OpOk C o env bx hp S K := by
  intro w hw ρ hρ
  obtain ⟨b2, o2, rfl, -⟩ := (hsl w hw).get h0
  refine OpOk.append j sz by_ news ho ht hu hi hj hx hy (fun w' hw' => ?_) hl h1 h63 hb hk w hw ρ hρ
  obtain ⟨b3, o3, he, h⟩ := (hsl w' hw').get h0
  cases he
  exact h
end Go.Eng

/-
  Engine, part 25: rows of things of so many cells each; lists of files.
-/
namespace Go.Eng
open Go

theorem At.cutU {ι : Type} {C : Ctx} {x : Loc} {df : List Deferred} {env : Env} {bx : Bx} {hp : List Seg} {S : Base} (y : Loc) (e : ι → Env) (b : ι → Bx)
    (hs : ∀ i, At C y df (e i) (b i) hp S) (hk : (∀ i, At C y df (e i) (b i) hp S) → At C x df env bx hp S) : At C x df env bx hp S := hk hs

/-- The i-th one comes to the front. -/
def frontL {α : Type} (l : List α) (i : Nat) : List α := match nth l i with
  | some x => x :: l.eraseIdx i
  | none => l
theorem erase_perm {α : Type} : ∀ (l : List α) (i : Nat) (x : α), nth l i = some x → l.Perm (x :: l.eraseIdx i)
  | [], i, x, h => by simp [nth] at h
  | y :: l, 0, x, h => by simp [nth] at h; subst h; exact List.Perm.refl _
  | y :: l, i + 1, x, h => ((erase_perm l i x (by simpa [nth] using h)).cons y).trans (List.Perm.swap _ _ _)
theorem frontL_perm {α : Type} (l : List α) (i : Nat) : l.Perm (frontL l i) := by
  unfold frontL
  split
  · rename_i x h
    exact erase_perm l i x h
  · exact List.Perm.refl _
theorem frontsL_perm {α : Type} : ∀ (is : List Nat) (l : List α), l.Perm (is.foldl frontL l)
  | [], _ => List.Perm.refl _
  | i :: is, l => (frontL_perm l i).trans (frontsL_perm is _)
/-- What is said of blocks, in another order: those at these places come to the front, one behind the other, the last one ahead. -/
theorem At.order {C : Ctx} {x : Loc} {df : List Deferred} {env : Env} {bx br : Bx} {hp hr : List Seg} {S : Base} (ib ih : List Nat) (hb : ib.foldl frontL bx = br) (hh : ih.foldl frontL hp = hr) (hk : At C x df env br hr S) : At C x df env bx hp S :=
  At.perm (by rw [← hb]; exact frontsL_perm ib bx) (by rw [← hh]; exact frontsL_perm ih hp) hk

theorem flat_get {α : Type} {f : α → List Value} {sz : Nat} : ∀ {l : List α} {i : Nat} {x : α}, (∀ x, x ∈ l → (f x).length = sz) → l[i]? = some x → ∀ (j : Nat) (u : Value), (f x)[j]? = some u → (l.flatMap f)[i * sz + j]? = some u
  | [], i, x, _, h, _, _, _ => by simp at h
  | y :: l, 0, x, hl, h, j, u, hu => by
    simp only [List.getElem?_cons_zero, Option.some.injEq] at h; subst h
    rw [List.flatMap_cons, Nat.zero_mul, Nat.zero_add, List.getElem?_append_left]
    · exact hu
    · exact (List.getElem?_eq_some_iff.1 hu).1
  | y :: l, i + 1, x, hl, h, j, u, hu => by
    have hy := hl y (by simp)
    rw [List.flatMap_cons, List.getElem?_append_right (by rw [hy, Nat.succ_mul]; omega), hy, show (i + 1) * sz + j - sz = i * sz + j by rw [Nat.succ_mul]; omega]
    exact flat_get (fun z hz => hl z (by simp [hz])) (by simpa using h) j u hu
/-- Files as names and bytes, and their cells. -/
abbrev FL := List (List UInt8 × List UInt8)
def flC (p : List UInt8 × List UInt8) : List Value := [str p.1, str p.2]
def fl (S : FL) : List Value := S.flatMap flC
theorem fl_get {S : FL} {i : Nat} {p : List UInt8 × List UInt8} (h : S[i]? = some p) : ∀ (j : Nat) (u : Value), (flC p)[j]? = some u → (fl S)[i * 2 + j]? = some u := flat_get (fun _ _ => rfl) h
theorem fl_snoc (S : FL) (p : List UInt8 × List UInt8) : fl (S ++ [p]) = fl S ++ flC p := by simp [fl]
theorem fl_ne {S : FL} (h : S ≠ []) : fl S ≠ [] := by
  cases S with
  | nil => exact (h rfl).elim
  | cons p S => simp [fl, flC]

section
variable {S0 : Base} {bx : Bx} {hp : List Seg} {g o : Nat} {S : FL} {i : Nat} {p : List UInt8 × List UInt8}
theorem RdW.fileE {off : Nat} (hc : ∀ j u, (fl S)[j]? = some u → S0.w0.cell? ⟨g, o + j, none⟩ = some u) (hm : g ∉ S0.mods) (h : S[i]? = some p) (ho : off = o + i * 2) : RdW S0 bx hp g off [str p.1, str p.2] :=
  RdW.sl hc hm (i * 2) ho (fl_get h)
theorem RdW.fileN {off : Nat} (hc : ∀ j u, (fl S)[j]? = some u → S0.w0.cell? ⟨g, o + j, none⟩ = some u) (hm : g ∉ S0.mods) (h : S[i]? = some p) (ho : off = o + i * 2) : RdW S0 bx hp g off [str p.1] :=
  RdW.sl hc hm (i * 2) ho (fun j u hu => fl_get h j u (by
    match j, hu with
    | 0, hu => exact hu))
theorem RdW.fileB {off : Nat} (hc : ∀ j u, (fl S)[j]? = some u → S0.w0.cell? ⟨g, o + j, none⟩ = some u) (hm : g ∉ S0.mods) (h : S[i]? = some p) (ho : off = o + i * 2 + 1) : RdW S0 bx hp g off [str p.2] :=
  RdW.sl hc hm (i * 2 + 1) (by omega) (fun j u hu => by
    match j, hu with
    | 0, hu => exact fl_get h 1 u hu)
end

end Go.Eng

/-
  Engine, part 28: rows that nothing turns any more.
-/
namespace Go.Eng
open Go

/-- A slice whose cells are xs, in the world that the run began in, or in rows that nothing turns. -/
def Fz (S : Base) (ex : List Seg) (a : Option Addr) (xs : List Value) : Prop := ∀ w, Ext S.mods S.w0 w → (∀ s, s ∈ ex → s.ok w) → SlOk w a xs
theorem Fz.base {S : Base} {ex : List Seg} {a : Option Addr} {xs : List Value} (hm : S.mods = []) (h : SlOk S.w0 a xs) : Fz S ex a xs := fun _ he _ => h.ext he (by simp [hm])
theorem Fz.mono {S : Base} {ex ex' : List Seg} {a : Option Addr} {xs : List Value} (h : Fz S ex a xs) (hs : ∀ s, s ∈ ex → s ∈ ex') : Fz S ex' a xs := fun w he hw => h w he fun s hm => hw s (hs s hm)
theorem Fz.cons {S : Base} {ex : List Seg} {s : Seg} {a : Option Addr} {xs : List Value} (h : Fz S ex a xs) : Fz S (s :: ex) a xs := h.mono fun _ hm => List.mem_cons_of_mem _ hm
theorem Fz.row {S : Base} {ex : List Seg} {a : Option Nat} {t : TypeId} {sz n cap : Nat} {xs : List Value} : Fz S (Seg.row a t sz n cap xs :: ex) (svA a) xs := fun _ _ hw => SlOk.row (hw _ (List.mem_cons_self ..))
theorem Fz.nil {S : Base} {ex : List Seg} {a : Option Addr} : Fz S ex a [] := fun _ _ _ => .inl rfl
theorem Fz.at {S : Base} {ex : List Seg} {a : Option Addr} {xs : List Value} {bx : Bx} {hp : List Seg} {w : World} (h : Fz S ex a xs) (hw : WOk S bx hp w) (hm : Seg.pack [] ex ∈ hp) : SlOk w a xs := h w hw.ext fun s hs => (hw.hp _ hm).2 s hs
/-- Ways joined at a place, whatever lies there. -/
theorem At.cutS {ι : Type} {C : Ctx} {x : Loc} {df : List Deferred} {env : Env} {bx : Bx} {hp : List Seg} {S : Base} (y : Loc) (e : ι → Env) (b : ι → Bx) (h : ι → List Seg)
    (hs : ∀ i, At C y df (e i) (b i) (h i) S) (hk : (∀ i, At C y df (e i) (b i) (h i) S) → At C x df env bx hp S) : At C x df env bx hp S := hk hs
theorem AtD.cutS {ι : Type} {C : Ctx} {p : List Nat} {df : List Deferred} {fuel0 : Nat} {listed0 : Array Bool} {env0 : Env} {bx0 : Bx} {hp0 : List Seg} {S : Base} (fuel : Nat) (listed : Array Bool) (e : ι → Env) (b : ι → Bx) (h : ι → List Seg)
    (hs : ∀ i, AtD C p df fuel listed (e i) (b i) (h i) S) (hk : (∀ i, AtD C p df fuel listed (e i) (b i) (h i) S) → AtD C p df fuel0 listed0 env0 bx0 hp0 S) : AtD C p df fuel0 listed0 env0 bx0 hp0 S := hk hs

/-- What is asked of a region whose operations k.., so many of them, all read, and may come next in their order. -/
structure LexD (P : Program) (c : Code) (p : List Nat) (k m : Nat) (listed lst : Array Bool) : Prop where
  sel : Region.noSelect (opsOf c p) = true
  le : Nat.ble (k + m) (opsOf c p).size = true
  noStore : ((opsOf c p).toList.take (k + m)).all (fun o => !isStore o.op) = true
  mark : markTo m k listed = lst
  chk : chkQ .any (opsOf c p) (k + m) m k listed = true
  rest : (Region.ready .any (opsOf c p) lst).all (fun j => Nat.ble (k + m) j) = true
theorem AtD.lex {C : Ctx} {p l1 : List Nat} {df : List Deferred} {env env1 : Env} {bx bx1 : Bx} {hp : List Seg} {S : Base} {ds1 : List Bool} {hs1' : List Hint} {ob1 : Prop} {listed lst : Array Bool} (k m g : Nat) (nw : Bool) (ds : List Bool) (hs : List Hint)
    (hok : LexD C.P C.body p k m listed lst) (hl1 : List.range' k m = l1)
    (h1 : runOps C.P C.nt nw hp S (opsOf C.body p).toList l1 [] ds hs env bx True = ⟨[], ds1, hs1', env1, bx1, ob1⟩) (hm1 : mild hs = true) (ho1 : ob1)
    (h0 : g = 0 → Region.ready .any (opsOf C.body p) lst = []) (hk : AtD C p df g lst env1 bx hp S) : AtD C p df (g + m) listed env bx hp S := by
  subst hl1
  intro w hw tm hsz hkn
  have hle : k + m ≤ (opsOf C.body p).size := Nat.le_of_ble_eq_true hok.le
  have base : ∀ tm, tm.size = C.nt → Knows env1 tm → qTo C.P .any (opsOf C.body p) (WOk S bx hp) (Qf C p df) (fun j => Nat.ble (j + 1) (k + m)) g lst ⟨tm, df⟩ := by
    intro tm hsz hkn
    cases g with
    | zero => exact ⟨h0 rfl, fun w hw => hk w hw tm hsz hkn⟩
    | succ g =>
      refine ⟨fun w hw => hk w hw tm hsz hkn, fun j hj hq => ?_⟩
      have h3 := Nat.le_of_ble_eq_true (List.all_eq_true.1 hok.rest j hj)
      have h4 := Nat.le_of_ble_eq_true hq
      omega
  have hr := runOps_qT (df := df) (Q := qTo C.P .any (opsOf C.body p) (WOk S bx hp) (Qf C p df) (fun j => Nat.ble (j + 1) (k + m)) g lst) m k [] ds hs env bx True _ hok.noStore hle h1 rfl hm1 ho1 base
  have hq := hr.2.2 tm hsz hkn
  have htl : (((opsOf C.body p).toList.drop k).take m).length = m := by simp; omega
  have H := qTo_lex (P := C.P) (md := .any) (Q' := Qf C p df) (W := WOk S bx hp) (n := k + m) (g := g) (lst := lst) hok.sel (((opsOf C.body p).toList.drop k).take m) k listed ⟨tm, df⟩ (fun j hj => by
    rw [htl] at hj
    rw [List.getElem?_take_of_lt hj, List.getElem?_drop]; simp) (by rw [htl]; exact hok.mark) (by rw [htl]; exact hok.chk) hq
  rw [htl] at H
  exact qTo_wp H hw

theorem AtD.fork3 {C : Ctx} {p : List Nat} {df : List Deferred} {fuel : Nat} {listed : Array Bool} {env : Env} {bx : Bx} {hp : List Seg} {S : Base} (i j k : Nat) (hr : Region.ready .any (opsOf C.body p) listed = [i, j, k])
    (h1 : StepD C p df fuel listed env bx hp S i) (h2 : StepD C p df fuel listed env bx hp S j) (h3 : StepD C p df fuel listed env bx hp S k) : AtD C p df (fuel + 1) listed env bx hp S :=
  AtD.fork [i, j, k] hr (by simp) (fun l hl => by simp at hl; rcases hl with rfl | rfl | rfl <;> assumption)

/-- A slice from elsewhere, it may be empty, appended to a row. -/
theorem OpOk.appendS {C : Ctx} {env : Env} {bx : Bx} {hp : List Seg} {S : Base} {o : Oper} {K : Value → Bx → List Seg → Prop} {x y : Operand} {t u e : TypeId} {a : Option Nat} {n cap m c2 : Nat} {ad : Option Addr} {xs : List Value} (j sz by_ : Nat) (news : List Value)
    (ho : appOf o.op = some (x, y, t, u)) (ht : elT C.P t = some e) (hu : elT C.P u = some e) (hi : infoL C.P e = some (sz, by_, sz)) (hpos : Nat.ble 1 sz = true) (hj : nth hp j = some (Seg.row a e sz n cap xs)) (hx : Env.ev env x = some (sv a n cap))
    (hy : Env.ev env y = some (.slice ad m c2)) (hsl : ∀ w, WOk S bx hp w → SlOk w ad news) (hl : news.length = m * sz) (h1 : ∀ v, v ∈ news → v.oneCell' = true)
    (h63 : n + m ≤ 9223372036854775807) (hb : (n + m) * by_ ≤ 140737488355328)
    (hk : ∀ a' cap', K (sv a' (n + m) cap') bx (setL hp j (Seg.row a' e sz (n + m) cap' (xs ++ news)))) : OpOk C o env bx hp S K := by
  by_cases h0 : news = []
  · subst h0
    have hsz := Nat.le_of_ble_eq_true hpos
    have hm0 : m = 0 := by
      rcases Nat.mul_eq_zero.1 (show m * sz = 0 by simpa using hl.symm) with h | h
      · exact h
      · omega
    subst hm0
    intro w hw ρ hρ
    obtain ⟨i, z, hi1, hz, hs1, hs2, hs3⟩ := infoL_ok hi
    have hrow : rowOk w a e sz n cap xs := hw.hp _ (nth_mem hj)
    obtain ⟨a', cap', w', hr, hrow', hext, hkk⟩ := run_append_row (P := C.P) (w := w) (ty := o.type) (u := u) (x := .slice ad 0 c2) (m := 0) (news := []) (elT_ok ht) hi1 hz hs1 hs3 (.inl (elT_ok hu)) hrow
      (fun w1 hw1 => ⟨rfl, by
        cases ad with
        | none => rfl
        | some ad => exact run_firstCells_some w1 sz 0 ad 0 c2 [] (by simp) (fun j v hv => by simp at hv)⟩) hl h1 h63 (by rw [hs2]; exact hb)
    refine .inl ⟨sv a' (n + 0) cap', w', bx, _, .inl ?_, hw.setSeg hj hext hrow' (by cases a' <;> simp [Seg.row]) hkk, hk a' cap'⟩
    rw [appOf_ok ho, hρ _ _ hx, hρ _ _ hy, hr]; rfl
  · exact OpOk.appendSl j sz by_ news ho ht hu hi hj hx hy hsl hl h0 h1 h63 hb hk
end Go.Eng

/-
  Plain laws of layer 9: byte strings in order; lists of files.
-/
namespace Go.Eng
open Go

theorem putL_gen {α : Type} : ∀ (ys l : List α) (i : Nat), i + ys.length ≤ l.length → putL l i ys = l.take i ++ ys ++ l.drop (i + ys.length)
  | [], l, i, _ => by simp [putL]
  | y :: ys, l, i, h => by
    simp only [List.length_cons] at h
    rw [putL, putL_gen ys (setL l i y) (i + 1) (by rw [setL_eq, List.length_set]; omega), setL_eq]
    have h1 : (l.set i y).take (i + 1) = l.take i ++ [y] := by
      rw [List.take_add_one, List.take_set_of_le (Nat.le_refl _), List.getElem?_set_self (by omega)]; rfl
    have h2 : (l.set i y).drop (i + 1 + ys.length) = l.drop (i + (y :: ys).length) := by
      rw [List.drop_set_of_lt (by omega)]; congr 1; simp; omega
    rw [h1, h2]; simp
theorem u8_lt_iff (a b : UInt8) : a < b ↔ a.toNat < b.toNat := Iff.rfl
theorem less_irrefl : ∀ a : List UInt8, Op.bytesLess a a = false
  | [] => rfl
  | x :: a => by
    have h : ¬ x < x := by rw [u8_lt_iff]; omega
    simp [Op.bytesLess, h, less_irrefl a]
theorem less_ne {a b : List UInt8} (h : Op.bytesLess a b = true) : a ≠ b := by
  rintro rfl; rw [less_irrefl] at h; cases h

end Go.Eng

/-
  Plain laws of layer 9: files put, writes kept in part.
-/
namespace Go.Eng
open Go

/-- What is behind a write: noughts where the file ends ahead. -/
def wrB (old : List UInt8) (at0 : Nat) (s : List UInt8) : List UInt8 := putL (putL (List.replicate (max old.length (at0 + s.length)) 0) 0 old) at0 s
theorem wrB_len (old : List UInt8) (at0 : Nat) (s : List UInt8) : (wrB old at0 s).length = max old.length (at0 + s.length) := by
  unfold wrB; rw [putL_len, putL_len, List.length_replicate]

def readN (S : FL) (n : List UInt8) : List UInt8 := match S.find? fun p => decide (p.1 = n) with
  | some p => p.2
  | none => []
def putN (S : FL) (p : List UInt8 × List UInt8) : FL := match S.findIdx? fun x => decide (x.1 = p.1) with
  | some i => S.set i p
  | none => S ++ [p]
theorem putN_mem {S : FL} {p q : List UInt8 × List UInt8} (h : q ∈ putN S p) : q = p ∨ q ∈ S := by
  unfold putN at h
  split at h
  · rcases List.mem_or_eq_of_mem_set h with h | h
    · exact .inr h
    · exact .inl h
  · simp only [List.mem_append, List.mem_singleton] at h
    exact h.symm
/-- A write of which the first k bytes are kept. -/
def cutN (S : FL) (n : List UInt8) (at0 : Nat) (s : List UInt8) (k : Int) : FL := if 0 < k then putN S (n, wrB (readN S n) at0 (s.take k.toNat)) else S
/-- Files that have bytes, not too many. -/
def FOK (S : FL) : Prop := ∀ p, p ∈ S → 0 < p.2.length ∧ p.2.length ≤ 1048576
theorem readN_mem {S : FL} {n : List UInt8} : readN S n = [] ∨ (n, readN S n) ∈ S := by
  unfold readN
  cases h : S.find? (fun p => decide (p.1 = n)) with
  | none => exact .inl rfl
  | some p =>
    have h1 := List.mem_of_find?_eq_some h
    have h2 : p.1 = n := by simpa using List.find?_some h
    right
    rw [← h2]; exact h1
theorem FOK.read {S : FL} (h : FOK S) (n : List UInt8) : (readN S n).length ≤ 1048576 := by
  rcases @readN_mem S n with h1 | h1
  · rw [h1]; simp
  · exact (h _ h1).2
theorem FOK.cut {S : FL} (h : FOK S) {n : List UInt8} {at0 : Nat} {s : List UInt8} {k : Int} (hk : k ≤ s.length) (hb : at0 + s.length ≤ 1048576) : FOK (cutN S n at0 s k) := by
  unfold cutN
  split
  · intro p hp
    rcases putN_mem hp with rfl | hp
    · have h1 := h.read n
      have h2 := wrB_len (readN S n) at0 (s.take k.toNat)
      rw [List.length_take] at h2
      show 0 < (wrB (readN S n) at0 (s.take k.toNat)).length ∧ (wrB (readN S n) at0 (s.take k.toNat)).length ≤ 1048576
      omega
    · exact h p hp
  · exact h
theorem FOK.perm {S R : FL} (h : FOK S) (hp : R.Perm S) : FOK R := fun p hm => h p (hp.mem_iff.1 hm)

end Go.Eng

/-
  Engine, part 26: iterators whose order is their own.
-/
namespace Go.Eng
open Go

theorem Tri.mk {P : Program} {f : FuncId} {args : List Value} {w : World} {m : List Nat} {Q : Value → Bx → List Seg → Prop} (h1 : Callable P f) (h2 : Calls P f ⟨args⟩ w (TriR w m Q)) : Tri P f args w m Q := ⟨h1, h2⟩

end Go.Eng

/-
  Engine, part 30: ranges over functions that hand over boxes.
-/
namespace Go.Eng
open Go

end Go.Eng

/-
  Engine, part 52: ranges over functions whose rounds may leave the function: each round's answer is told ahead.
-/
namespace Go.Eng
open Go

/-- The loop's record, behind a round that has left. -/
def goneSeg (l : Nat) (j : Code) (f : FuncId) (tm : Array Value) (ps : Array Tmp) (assign body : Code) (D : Nat) : Seg where
  keys := [l]
  ok w := w.heap[l]? = some (.loop { state := .done, pending := some j, fn := f, tmps := tm, params := ps, assign, body, defers := D })
  loc w w' h hk := by rw [h l (by simp)]; exact hk

def roundCtxA (a : Bool) (P : Program) (l : Nat) (f : FuncId) (c : Code) (tl : List Item) (nt : Nat) (R : World → Prop) : Ctx where
  P := P
  fn := f
  rd := some l
  body := c
  tl := tl
  nt := nt
  Φ := fun cs m => ∀ fr cs0, cs = fr :: cs0 → ∃ w', R w' ∧ Steps P m (lone (fr.finish (.bool a)) cs0 w')
  back := fun _ _ _ h hk fr cs0 e => by
    obtain ⟨w', hr, hs⟩ := hk fr cs0 e
    exact ⟨w', hr, .head h hs⟩

/-- A call of yield comes back, and its answer is a. -/
def YieldA (P : Program) (l : Nat) (args : List Value) (w : World) (a : Bool) (R : World → Prop) : Prop :=
  ∃ r, w.heap[l]? = some (.loop r) ∧ args.length = r.params.size ∧ ∀ fr cs, ∃ w', R w' ∧
    Steps P (lone (Frame.round l r.fn ((r.params.zip ⟨args⟩).foldl (fun tmps (t, a) => tmps.setIfInBounds t a) r.tmps) r.assign r.body .normal) (fr :: cs) w) (lone (fr.finish (.bool a)) cs w')

theorem YieldA.of {a : Bool} {P : Program} {l : Nat} {f : FuncId} {tm : Array Value} {ps : Array Tmp} {assign body : Code} {D nt : Nat} {bx : Bx} {hp : List Seg} {w : World} {args : List Value} {env : Env} {Q : Bx → List Seg → Prop}
    (hown : Own bx (loopSeg l .ready f tm ps assign body D :: hp) w) (hlen : args.length = ps.size) (hn : tm.size = nt) (hb : ∀ t, t ∈ ps.toList → t < nt) (hkn : Knows env tm)
    (hk : At (roundCtxA a P l f assign [.beginRound, .code body] nt (RoundR w (kys bx (loopSeg l .ready f tm ps assign body D :: hp)) Q)) ⟨0, [], []⟩ [] (zipEnv (ps.toList.zip args) env) bx (loopSeg l .ready f tm ps assign body D :: hp) ⟨w, kys bx (loopSeg l .ready f tm ps assign body D :: hp)⟩) :
    YieldA P l args w a (RoundR w (kys bx (loopSeg l .ready f tm ps assign body D :: hp)) Q) := by
  refine ⟨_, hown.hp _ (List.mem_cons_self ..), hlen, fun fr cs => ?_⟩
  obtain ⟨hz, hsz⟩ := zipEnv_ok (ps.toList.zip args) env tm hn (fun x hx => hb _ (List.of_mem_zip hx).1) hkn
  have h := hk w hown.wok _ hsz hz (fr :: cs) fr cs rfl
  obtain ⟨w', hr, hs⟩ := h
  refine ⟨w', hr, ?_⟩
  have e : (ps.zip ⟨args⟩).foldl (fun tmps (x : Tmp × Value) => tmps.setIfInBounds x.1 x.2) tm = (ps.toList.zip args).foldl (fun t x => t.setIfInBounds x.1 x.2) tm := by
    rw [← Array.foldl_toList]; simp
  simp only [Frame.round]
  rw [show (fun (tmps : Array Value) (x : Tmp × Value) => match x with | (t, a) => tmps.setIfInBounds t a) = (fun tmps x => tmps.setIfInBounds x.1 x.2) from rfl, e]
  simpa [roundCtxA, Ctx.fr, items, sub, kont] using hs

theorem At.beginA {a : Bool} {P : Program} {l : Nat} {f : FuncId} {tm : Array Value} {ps : Array Tmp} {assign body c : Code} {D nt : Nat} {R : World → Prop} {env : Env} {bx : Bx} {hp : List Seg} {S : Base}
    (hk : At (roundCtxA a P l f body [] nt R) ⟨0, [], []⟩ [] env bx (loopSeg l .busy f tm ps assign body D :: hp) S) :
    At (roundCtxA a P l f c [.beginRound, .code body] nt R) ⟨1, [], []⟩ [] env bx (loopSeg l .ready f tm ps assign body D :: hp) S := by
  intro w hw t hs hkn cs
  have hl : w.heap[l]? = some _ := hw.hp _ (List.mem_cons_self ..)
  have hlt := (Array.getElem?_eq_some_iff.1 hl).1
  have hb := run_beginRound (P := P) hl rfl
  refine (roundCtxA a P l f c [.beginRound, .code body] nt R).back _ _ (lone ((roundCtxA a P l f body [] nt R).fr t [] [.code body]) cs _) ?_
    (hk _ (hw.turnSeg (s' := loopSeg l .busy f tm ps assign body D) (w' := w.putObj l (.loop { state := .busy, pending := none, fn := f, tmps := tm, params := ps, assign, body, defers := D })) rfl rfl rfl rfl World.putObj_size (fun k hn => World.putObj_heap_other (by simpa [loopSeg] using hn)) (World.putObj_heap_same hlt)) t hs hkn cs)
  simp only [items, kont, roundCtxA, Ctx.fr]
  exact step_lone_go (by simp [stepG, stepG.exec, stepG.apply, Sem.runT_eq, hb, Result.andThen, GStep.bare_after, Frame.finish])

theorem At.roundEndA {P : Program} {l : Nat} {f : FuncId} {tm : Array Value} {ps : Array Tmp} {assign body c : Code} {D nt : Nat} {w0 : World} {m : List Nat} {Q : Bx → List Seg → Prop} {env : Env} {bx : Bx} {hp : List Seg}
    (hQ : Q bx (loopSeg l .ready f tm ps assign body D :: hp)) :
    At (roundCtxA true P l f c [] nt (RoundR w0 m Q)) ⟨1, [], []⟩ [] env bx (loopSeg l .busy f tm ps assign body D :: hp) ⟨w0, m⟩ := by
  intro w hw t hs hkn cs fr cs0 e
  subst e
  have hl : w.heap[l]? = some _ := hw.hp _ (List.mem_cons_self ..)
  have hlt := (Array.getElem?_eq_some_iff.1 hl).1
  have hb := run_endRound (P := P) none hl
  have hw' := hw.turnSeg (s' := loopSeg l .ready f tm ps assign body D) (w' := w.putObj l (.loop { state := .ready, pending := none, fn := f, tmps := tm, params := ps, assign, body, defers := D })) rfl rfl rfl rfl World.putObj_size
    (fun k hn => World.putObj_heap_other (by simpa [loopSeg] using hn)) (World.putObj_heap_same hlt)
  refine ⟨_, ⟨bx, _, hQ, hw'.ext, hw'.toOwn, hw'.own⟩, .one ?_⟩
  simp only [items, kont, roundCtxA, Ctx.fr]
  exact step_lone_go (by simp [stepG, stepG.exec, Sem.runT_eq, hb, GStep.bare_after, doReturn])

/-- A CALL OF YIELD, whose answer is known: what the masks name is handed over. -/
theorem At.yieldA {a : Bool} {C : Ctx} {p l : List Nat} {i d : Nat} {df : List Deferred} {env : Env} {bx : Bx} {hp : List Seg} {S : Base} {o : Oper} {ob : Prop} (ds : List Bool) (ho : opAt C.body p i = some o) (hdst : o.dst = some d) (hfit : Nat.ble (d + 1) C.nt = true) (hd : notDefer o.op = true)
    (hg : guardAt C.body p o ds env = some ob) (hob : ob) {lp : Nat} {args : List Value} (hy : yieldOf env o.op = some (lp, args)) (mb mh : List Bool) {bm br : Bx} {hm hr : List Seg} {Q : Bx → List Seg → Prop}
    (hsel : forceL (selL mb bx) (fun a => forceL (selL mh hp) fun b => forceL (remL mb bx) fun c => forceL (remL mh hp) fun d => (a, b, c, d)) = (bm, hm, br, hr))
    (hc : ∀ w, WOk S bx hp w → YieldA C.P lp args w a (RoundR w (kys bm hm) Q)) (hk : ∀ bx' hp', Q bx' hp' → At C ⟨3, p, l⟩ df ((d, .bool a) :: env) (bx' ++ br) (hp' ++ hr) S) : At C ⟨3, p, i :: l⟩ df env bx hp S := by
  simp only [forceL_eq, Prod.mk.injEq] at hsel
  obtain ⟨rfl, rfl, rfl, rfl⟩ := hsel
  intro w hw tm hs hkn cs
  unfold opAt at ho
  unfold guardAt at hg
  split at ho
  · rename_i id ops d' hsub
    rw [hsub] at hg
    simp only at hg
    split at hg
    · rename_i dec' ds' ob' hgo
      simp only [Option.some.injEq] at hg
      subst hg
      have hi : ops[i]? = some o := by rw [nth_eq] at ho; simpa using ho
      have hit : ∀ l, items C.body C.tl ⟨3, p, l⟩ = .inRegion ops l :: kont C.body C.tl p := fun l => by simp [items, hsub]
      obtain ⟨r, hr1, hr2, hr3⟩ := hc w hw
      have hex := yieldOf_ok (P := C.P) hy hkn.agree (w := w)
      rw [run_yield hr1 (by simpa using hr2)] at hex
      rw [hit]
      obtain ⟨w', ⟨bx', hp', hQ, hext, hown, hkk⟩, hst⟩ := hr3 (C.fr tm df (.inRegion ops (i :: l) :: kont C.body C.tl p)) cs
      have h1 := s_round (cs := cs) hi (guardOf_ok hgo hob hkn) (notDefer_ok hd) hex (k := kont C.body C.tl p) (l := l) (df := df)
      have hfin : (C.fr tm df (.inRegion ops (i :: l) :: kont C.body C.tl p)).finish (.bool a) = C.fr (putT (some d) (.bool a) tm) df (.inRegion ops l :: kont C.body C.tl p) := by
        simp only [Frame.finish, Ctx.fr, hi, Option.bind_some, hdst, putT]
      rw [hfin] at hst
      refine C.backs (.head h1 hst) ?_
      have hw' := hw.join (selL_perm mb bx) (selL_perm mh hp) hext hown hkk
      have := hk bx' hp' hQ w' hw' (putT (some d) (.bool a) tm) (by rw [size_put]; exact hs) (hkn.putE (dst := some d) hs hfit (.bool a)) cs
      rw [hit] at this
      exact this
    · cases hg
  · cases ho

/-- The loop's record behind all rounds. -/
def endSeg (stop : Bool) (l : Nat) (f : FuncId) (tm : Array Value) (ps : Array Tmp) (assign body : Code) (D : Nat) : Seg := bif stop then goneSeg l .ret f tm ps assign body D else loopSeg l .ready f tm ps assign body D

/-- A RANGE OVER A FUNCTION, whose last round may have left by a return. -/
theorem At.rangeA {C : Ctx} {p l : List Nat} {df : List Deferred} {env : Env} {bx : Bx} {hp : List Seg} {S : Base} {g : Operand} {ps : Array Tmp} {assign body : Code} {f : FuncId} {ca : List Value} (stop : Bool)
    (hr : rangeAt C.body p = some (g, ps, assign, body)) (hrd : C.rd = none) (hg : funcOf env g = some (f, ca)) (Q : Bx → List Seg → Prop)
    (hiter : ∀ lp D tm w, tm.size = C.nt → Knows env tm → WOk S bx (loopSeg lp .ready C.fn tm ps assign body D :: markSeg D :: hp) w →
      Tri C.P f (.func (.yield lp) #[] #[] :: ca) w (kys bx (loopSeg lp .ready C.fn tm ps assign body D :: hp)) (fun _ bx' hp' => ∃ hp'', hp' = endSeg stop lp C.fn tm ps assign body D :: hp'' ∧ Q bx' hp''))
    (hk : stop = false → ∀ D bx' hp', Q bx' hp' → At C ⟨1, p, []⟩ ({ target := .collected D, args := #[] } :: df) env bx' (hp' ++ [markSeg D]) S)
    (hk2 : stop = true → ∀ D bx' hp', Q bx' hp' → ∀ w, WOk S bx' (hp' ++ [markSeg D]) w → St C (.code .ret :: kont C.body C.tl p) ({ target := .collected D, args := #[] } :: df) env w) : At C ⟨0, p, l⟩ df env bx hp S := by
  intro w hw tm hs hkn cs
  have hsub : sub C.body p = .rangeFunc g ps assign body := by
    unfold rangeAt at hr
    split at hr
    · rename_i hsub; cases hr; exact hsub
    · cases hr
  have hgv : fev tm g = .func (.func f) #[] ⟨ca⟩ := by
    unfold funcOf at hg
    split at hg
    · rename_i hv
      split at hg
      · split at hg
        · cases hg; exact hkn.ev hv
        · cases hg
      · cases hg
    · cases hg
  have hw1 := hw.laidSeg (.deferred (some [])) (markSeg w.heap.size) rfl (World.alloc_heap_new w _)
  have hw2 := hw1.laidSeg (.loop { state := .ready, pending := none, fn := C.fn, tmps := tm, params := ps, assign, body, defers := w.heap.size }) (loopSeg (w.heap.size + 1) .ready C.fn tm ps assign body w.heap.size) (by simp [loopSeg])
    (by have := World.alloc_heap_new (w.alloc (.deferred (some []))) (.loop { state := .ready, pending := none, fn := C.fn, tmps := tm, params := ps, assign, body, defers := w.heap.size })
        simpa [loopSeg] using this)
  obtain ⟨hcb, hcl⟩ := hiter _ _ tm _ hs hkn hw2
  have h1 := s_range (C := C) (tm := tm) (df := df) (k := kont C.body C.tl p) (cs := cs) (w := w) (g := g) (ps := ps) (assign := assign) (body := body) hrd hgv hcb
  obtain ⟨e, w3, fr, ⟨v, bx', hp', rfl, ⟨hp'', rfl, hQ⟩, hext, hown, hkk⟩, hsteps, -, hleave⟩ := hcl (C.fr tm ({ target := .collected w.heap.size, args := #[] } :: df) (.inRangeFunc (w.heap.size + 1) :: kont C.body C.tl p) :: cs)
  have h2 := step_leave_returned (c := C.fr tm ({ target := .collected w.heap.size, args := #[] } :: df) (.inRangeFunc (w.heap.size + 1) :: kont C.body C.tl p)) (cs := cs) hleave
  have hw3 := hw2.join (bm := bx) (br := []) (hm := loopSeg (w.heap.size + 1) .ready C.fn tm ps assign body w.heap.size :: hp) (hr := [markSeg w.heap.size]) (by simp) (by
    refine (List.Perm.cons _ ?_)
    exact (List.perm_append_singleton (markSeg w.heap.size) hp).symm) hext hown hkk
  simp only [List.append_nil, List.cons_append] at hw3
  have hdrop : ∀ {s : Seg} {w' : World}, s.keys = [w.heap.size + 1] → WOk S bx' (s :: (hp'' ++ [markSeg w.heap.size])) w' → WOk S bx' (hp'' ++ [markSeg w.heap.size]) w' := by
    intro s w' hsk hw4
    have hsubk : ∀ k, k ∈ kys bx' (hp'' ++ [markSeg w.heap.size]) → k ∈ kys bx' (s :: (hp'' ++ [markSeg w.heap.size])) := by
      intro k hm
      simp only [kys, List.flatMap_cons, List.mem_append] at hm ⊢
      rcases hm with hm | hm
      · exact .inl hm
      · exact .inr (.inr hm)
    refine ⟨hw4.ext, ?_, fun k hm => hw4.lt k (hsubk k hm), fun k hm => hw4.own k (hsubk k hm), hw4.bx, fun s hm => hw4.hp s (List.mem_cons_of_mem _ hm)⟩
    refine List.Nodup.sublist ?_ hw4.nd
    unfold kys
    refine List.Sublist.append_left ?_ _
    simp only [List.flatMap_cons]
    exact List.sublist_append_right _ _
  cases stop with
  | false =>
    have hl : w3.heap[w.heap.size + 1]? = some (.loop { state := .ready, pending := none, fn := C.fn, tmps := tm, params := ps, assign, body, defers := w.heap.size }) := hw3.hp _ (List.mem_cons_self ..)
    have hlt := (Array.getElem?_eq_some_iff.1 hl).1
    have hend := run_endLoop (P := C.P) hl (by simp)
    have h3 : Go.step C.P (lone (C.fr tm ({ target := .collected w.heap.size, args := #[] } :: df) (.endRangeFunc (w.heap.size + 1) :: kont C.body C.tl p)) cs w3) = .next (lone (C.fr tm ({ target := .collected w.heap.size, args := #[] } :: df) (kont C.body C.tl p)) cs (w3.putObj (w.heap.size + 1) (.loop { state := .exhausted, pending := none, fn := C.fn, tmps := tm, params := ps, assign, body, defers := w.heap.size }))) :=
      step_lone_go (by simp [stepG, stepG.exec, Ctx.fr, Sem.runT_eq, hend, GStep.bare_after])
    have hw4 := hw3.turnSeg (s' := loopSeg (w.heap.size + 1) .exhausted C.fn tm ps assign body w.heap.size) (w' := w3.putObj (w.heap.size + 1) (.loop { state := .exhausted, pending := none, fn := C.fn, tmps := tm, params := ps, assign, body, defers := w.heap.size })) rfl rfl rfl rfl World.putObj_size
      (fun k hn => World.putObj_heap_other (by simpa [endSeg, loopSeg] using hn)) (World.putObj_heap_same hlt)
    have := hk rfl w.heap.size bx' hp'' hQ _ (hdrop rfl hw4) tm hs hkn cs
    simp only [items, hsub] at this ⊢
    exact C.backs (.head h1 (Steps.trans hsteps (.head h2 (.one h3)))) this
  | true =>
    have hl : w3.heap[w.heap.size + 1]? = some (.loop { state := .done, pending := some .ret, fn := C.fn, tmps := tm, params := ps, assign, body, defers := w.heap.size }) := hw3.hp _ (List.mem_cons_self ..)
    have hlt := (Array.getElem?_eq_some_iff.1 hl).1
    have hend := run_endLoop (P := C.P) hl (by simp)
    have h3 : Go.step C.P (lone (C.fr tm ({ target := .collected w.heap.size, args := #[] } :: df) (.endRangeFunc (w.heap.size + 1) :: kont C.body C.tl p)) cs w3) = .next (lone (C.fr tm ({ target := .collected w.heap.size, args := #[] } :: df) (.code .ret :: kont C.body C.tl p)) cs (w3.putObj (w.heap.size + 1) (.loop { state := .exhausted, pending := some .ret, fn := C.fn, tmps := tm, params := ps, assign, body, defers := w.heap.size }))) :=
      step_lone_go (by simp [stepG, stepG.exec, Ctx.fr, Sem.runT_eq, hend, GStep.bare_after])
    have hw4 := hw3.turnSeg (s' := ⟨[w.heap.size + 1], fun _ => True, fun _ _ _ h => h⟩) (w' := w3.putObj (w.heap.size + 1) (.loop { state := .exhausted, pending := some .ret, fn := C.fn, tmps := tm, params := ps, assign, body, defers := w.heap.size })) rfl rfl rfl rfl World.putObj_size
      (fun k hn => World.putObj_heap_other (by simpa [endSeg, goneSeg] using hn)) trivial
    have := hk2 rfl w.heap.size bx' hp'' hQ _ (hdrop rfl hw4) tm hs hkn cs
    simp only [items, hsub]
    exact C.backs (.head h1 (Steps.trans hsteps (.head h2 (.one h3)))) this

/-- AN ITERATOR: it yields ys one by one; the last one's answer is no, if 'stop'. -/
def IterA {α : Type} (P : Program) (f : FuncId) (ca : List Value) (bi : Bx) (bo : Bx → Prop) (rd : List Nat) (enc : α → List Value) (ys : List α) (stop : Bool) (w : World) : Prop :=
  ∀ (y : Nat) (s0 : Seg) (J : List α → Seg → Prop), J [] s0 → Own bi [s0] w → (∀ k, k ∈ rd → k ∉ kys bi [s0]) →
    (∀ pre x s w', pre ++ [x] <+: ys → J pre s → Own [] [s] w' → Ext (kys bi [s0]) w w' → YieldA P y (enc x) w' (!(stop && Nat.beq (pre.length + 1) ys.length)) (RoundR w' (kys [] [s]) fun bx hp => bx = [] ∧ ∃ s', hp = [s'] ∧ J (pre ++ [x]) s')) →
    Tri P f (.func (.yield y) #[] #[] :: ca) w (kys bi [s0]) (fun _ bx hp => bo bx ∧ ∃ s, hp = [s] ∧ J ys s)

theorem At.rangeIA {α : Type} {C : Ctx} {p l : List Nat} {df : List Deferred} {env : Env} {bi bc : Bx} {bo : Bx → Prop} {hp : List Seg} {S : Base} {g : Operand} {ps : Array Tmp} {assign body : Code} {f : FuncId} {ca : List Value} {stop : Bool}
    (hr : rangeAt C.body p = some (g, ps, assign, body)) (hrd : C.rd = none) (hg : funcOf env g = some (f, ca)) {rd : List Nat} (hfree : ∀ k, k ∈ rd → k < S.w0.heap.size ∧ k ∉ S.mods)
    {enc : α → List Value} {ys : List α} (henc : ∀ x, (enc x).length = ps.size) (hps : ps.toList.all (fun t => Nat.ble (t + 1) C.nt) = true)
    (Inv : List α → Bx → List Seg → Prop) (h0 : Inv [] bc hp) (hst : stop = true → ys ≠ []) (hiter : ∀ w, Ext S.mods S.w0 w → IterA C.P f ca bi bo rd enc ys stop w)
    (hbody : ∀ lp D tm pre x bx hp w' a, pre ++ [x] <+: ys → Inv pre bx hp → Ext S.mods S.w0 w' → (∀ k, k ∈ kys bx (loopSeg lp .ready C.fn tm ps assign body D :: hp) → k ∈ S.mods ∨ S.w0.heap.size ≤ k) → a = (stop && Nat.beq (pre.length + 1) ys.length) →
      At (roundCtxA (!a) C.P lp C.fn assign [.beginRound, .code body] C.nt (RoundR w' (kys bx (loopSeg lp .ready C.fn tm ps assign body D :: hp)) (fun bx' hp' => ∃ hp'', hp' = endSeg a lp C.fn tm ps assign body D :: hp'' ∧ Inv (pre ++ [x]) bx' hp'')))
        ⟨0, [], []⟩ [] (zipEnv (ps.toList.zip (enc x)) env) bx (loopSeg lp .ready C.fn tm ps assign body D :: hp) ⟨w', kys bx (loopSeg lp .ready C.fn tm ps assign body D :: hp)⟩)
    (hk : stop = false → ∀ D bo' bx' hp', bo bo' → Inv ys bx' hp' → At C ⟨1, p, []⟩ ({ target := .collected D, args := #[] } :: df) env (bo' ++ bx') (hp' ++ [markSeg D]) S)
    (hk2 : stop = true → ∀ D bo' bx' hp', bo bo' → Inv ys bx' hp' → ∀ w, WOk S (bo' ++ bx') (hp' ++ [markSeg D]) w → St C (.code .ret :: kont C.body C.tl p) ({ target := .collected D, args := #[] } :: df) env w) : At C ⟨0, p, l⟩ df env (bi ++ bc) hp S := by
  refine At.rangeA stop hr hrd hg (fun bx' hp' => ∃ bo' bx'', bx' = bo' ++ bx'' ∧ bo bo' ∧ Inv ys bx'' hp') ?_ ?_ ?_
  · intro lp D tm w hts hkn hw
    have hkey : kys (bi ++ bc) (loopSeg lp .ready C.fn tm ps assign body D :: hp) = kys bi [Seg.pack bc (loopSeg lp .ready C.fn tm ps assign body D :: hp)] := by rw [kys_pack]; simp
    have hsubk : ∀ k, k ∈ kys (bi ++ bc) (loopSeg lp .ready C.fn tm ps assign body D :: hp) → k ∈ kys (bi ++ bc) (loopSeg lp .ready C.fn tm ps assign body D :: markSeg D :: hp) := by
      intro k hm
      simp only [kys, List.flatMap_cons, List.mem_append] at hm ⊢
      rcases hm with hm | hm | hm
      · exact .inl hm
      · exact .inr (.inl hm)
      · exact .inr (.inr (.inr hm))
    have hown : Own (bi ++ bc) (loopSeg lp .ready C.fn tm ps assign body D :: hp) w := by
      refine ⟨?_, fun k hm => hw.lt k (hsubk k hm), hw.bx, fun s hs => hw.hp s (by rcases List.mem_cons.1 hs with rfl | hs; simp; simp [hs])⟩
      refine List.Nodup.sublist ?_ hw.nd
      unfold kys
      refine List.Sublist.append_left ?_ _
      simp only [List.flatMap_cons]
      exact List.Sublist.append_left (List.sublist_append_right _ _) _
    rw [hkey]
    have h := hiter w hw.ext lp (Seg.pack bc (loopSeg lp .ready C.fn tm ps assign body D :: hp)) (fun pre s => ∃ bx hp, s = Seg.pack bx (endSeg (stop && Nat.beq pre.length ys.length) lp C.fn tm ps assign body D :: hp) ∧ Inv pre bx hp ∧ ∀ k, k ∈ kys bx (loopSeg lp .ready C.fn tm ps assign body D :: hp) → k ∈ S.mods ∨ S.w0.heap.size ≤ k)
      ⟨bc, hp, by
        cases stop with
        | false => rfl
        | true =>
          have := List.length_pos_iff.2 (hst rfl)
          rw [show Nat.beq ([] : List α).length ys.length = false by cases h : ys.length with | zero => omega | succ n => rfl]; rfl, h0, fun k hm => hw.own k (hsubk k (by
          simp only [kys, List.map_append, List.mem_append] at hm ⊢
          rcases hm with hm | hm
          · exact .inl (.inr hm)
          · exact .inr hm))⟩ (Own.pack (by simpa using hown)) (fun k hk' hm => by
        rw [← hkey] at hm
        obtain ⟨h1, h2⟩ := hfree k hk'
        rcases hw.own k (hsubk k hm) with h3 | h3
        · exact h2 h3
        · omega) ?_
    · refine ⟨h.1, h.2.mono ?_⟩
      rintro e w' ⟨v, bx, hp', he, ⟨hbo, s, rfl, bx2, hp2, rfl, hI, -⟩, hext, hown', hkk⟩
      rw [Nat.beq_refl, Bool.and_true] at hown' hkk
      refine ⟨v, bx ++ bx2, endSeg stop lp C.fn tm ps assign body D :: hp2, he, ⟨hp2, rfl, bx, bx2, rfl, hbo, hI⟩, hext, by simpa using hown'.unpack, fun k hm => hkk k ?_⟩
      rw [kys_pack]; simpa using hm
    · rintro pre x s w' hpre ⟨bx, hp1, rfl, hI, hky⟩ hown' hext
      have hlen : pre.length + 1 ≤ ys.length := by have := hpre.length_le; simpa using this
      have hne : Nat.beq pre.length ys.length = false := by
        cases h : Nat.beq pre.length ys.length with
        | false => rfl
        | true => have := Nat.eq_of_beq_eq_true h; omega
      rw [hne, Bool.and_false] at hown' ⊢
      have ho := hown'.unpack
      simp only [List.nil_append, List.append_nil, endSeg, cond_false] at ho
      have hx : Ext S.mods S.w0 w' := hw.ext.then hext (fun i hi => by rw [← hkey] at hi; exact hw.own i (hsubk i hi))
      have := YieldA.of ho (henc x) hts (fun t ht => Nat.le_of_ble_eq_true (List.all_eq_true.1 hps t ht)) hkn (hbody lp D tm pre x bx hp1 w' _ hpre hI hx hky rfl)
      obtain ⟨r, h1, h2, h3⟩ := this
      refine ⟨r, h1, h2, fun fr cs => ?_⟩
      obtain ⟨w2, ⟨bx2, hp2, ⟨hp3, rfl, hI2⟩, he2, ho2, hk2⟩, hst⟩ := h3 fr cs
      refine ⟨w2, ⟨[], [Seg.pack bx2 (endSeg (stop && Nat.beq (pre.length + 1) ys.length) lp C.fn tm ps assign body D :: hp3)], ⟨rfl, _, rfl, bx2, hp3, by rw [List.length_append, List.length_singleton], hI2, fun k hm => by
        have hm2 : k ∈ kys bx2 (endSeg (stop && Nat.beq (pre.length + 1) ys.length) lp C.fn tm ps assign body D :: hp3) := by
          simp only [kys, List.flatMap_cons, List.mem_append] at hm ⊢
          rcases hm with hm | hm | hm
          · exact .inl hm
          · refine .inr (.inl ?_)
            unfold endSeg
            cases (stop && Nat.beq (pre.length + 1) ys.length) <;> exact hm
          · exact .inr (.inr hm)
        rcases hk2 k hm2 with h | h
        · exact hky k h
        · exact .inr (Nat.le_trans hx.size h)⟩, ?_, Own.pack (by simpa using ho2), fun k hm => ?_⟩, hst⟩
      · rw [kys_pack]; simpa [endSeg] using he2
      · rw [kys_pack] at hm ⊢; simp only [List.nil_append, List.append_nil, endSeg, cond_false] at hm ⊢; exact hk2 k hm
  · rintro hs D bx' hp' ⟨bo', bx'', rfl, hb, hI⟩
    exact hk hs D bo' bx'' hp' hb hI
  · rintro hs D bx' hp' ⟨bo', bx'', rfl, hb, hI⟩
    exact hk2 hs D bo' bx'' hp' hb hI

/-- A return that a round asked for, past the mark. -/
theorem St.retC {P : Program} {f : FuncId} {fn : Func} {w0 : World} {m : List Nat} {Q : Value → Bx → List Seg → Prop} {k : List Item} {env : Env} {bx bx' : Bx} {hp hp' : List Seg} {D : Nat} (mb mh : List Bool) (hs : List Hint)
    (hf : P.funcs[f]? = some fn) {vs : List Value} {ob : Prop} (h : resL P hp ⟨w0, m⟩ env bx fn.results.toList hs = some (vs, ob)) (ho : ob) (hsel : forceL (selL mb bx) (fun a => forceL (selL mh hp) fun b => (a, b)) = (bx', hp')) (hQ : Q (tupV vs) bx' hp') :
    ∀ w, WOk ⟨w0, m⟩ bx (hp ++ [markSeg D]) w → St (triCtx P f fn w0 m Q) (.code .ret :: k) [{ target := .collected D, args := #[] }] env w := by
  intro w hw tm hsz hk cs
  have hD : w.heap[D]? = some (.deferred (some [])) := hw.hp (markSeg D) (by simp)
  have hlt := (Array.getElem?_eq_some_iff.1 hD).1
  have htake := run_takeDeferred (P := P) hD
  have hperm : (kys bx (hp ++ [markSeg D])).Perm (D :: kys bx hp) := by
    unfold kys
    simp only [List.flatMap_append, List.flatMap_cons, List.flatMap_nil, List.append_nil, markSeg]
    rw [← List.append_assoc]
    exact List.perm_append_singleton _ _
  have hnd := List.nodup_cons.1 (hperm.nodup_iff.1 hw.nd)
  have hw' : WOk ⟨w0, m⟩ bx hp (w.putObj D (.deferred none)) := by
    have hex : Ext [D] w (w.putObj D (.deferred none)) := ⟨rfl, rfl, rfl, (by first | exact Nat.le_refl _ | exact Nat.le_succ _ | exact Nat.le_add_right _ _), by simp, fun k _ hn => World.putObj_heap_other (by simpa using hn)⟩
    have hin : ∀ k, k ∈ kys bx hp → k ∈ kys bx (hp ++ [markSeg D]) := fun k hm => hperm.mem_iff.2 (List.mem_cons_of_mem _ hm)
    have hne : ∀ k, k ∈ kys bx hp → (w.putObj D (.deferred none)).heap[k]? = w.heap[k]? := fun k hm => World.putObj_heap_other (fun e => hnd.1 (e ▸ hm))
    refine ⟨hw.ext.then hex (fun i hi => by simp only [List.mem_singleton] at hi; subst hi; exact hw.own _ (hperm.mem_iff.2 (List.mem_cons_self ..))), hnd.2, fun k hm => by rw [World.putObj_size]; exact hw.lt k (hin k hm), fun k hm => hw.own k (hin k hm), fun e he => ?_, fun s hs => ?_⟩
    · rw [hne _ (mem_kys_bx he)]; exact hw.bx e he
    · exact s.loc w _ (fun k hm => hne k (mem_kys_hp hs hm)) (hw.hp s (by simp [hs]))
  have hres := run_results (P := P) (resL_ok hw' hk _ _ _ _ h ho)
  have hsub : ∀ k, k ∈ kys bx' hp' → k ∈ kys bx hp := by
    simp only [forceL_eq, Prod.mk.injEq] at hsel
    obtain ⟨rfl, rfl⟩ := hsel
    intro k hk'
    exact (kys_perm (selL_perm mb bx) (selL_perm mh hp)).mem_iff.2 (List.mem_append_left _ hk')
  have hR : TriR w0 m Q (.returned (tupV vs)) (w.putObj D (.deferred none)) := ⟨_, bx', hp', rfl, hQ, hw'.ext, hw'.toOwn.sel mb mh hsel, fun k hk' => hw'.own k (hsub k hk')⟩
  have hst : Go.step P (lone ((triCtx P f fn w0 m Q).fr tm [{ target := .collected D, args := #[] }] (.code .ret :: k)) cs w) = .next (lone { (triCtx P f fn w0 m Q).fr tm [{ target := .collected D, args := #[] }] (.code .ret :: k) with mode := .returning } cs w) :=
    step_lone_go (by simp [stepG, stepG.exec, Ctx.fr, triCtx, fnCtx])
  have hst2 := step_collected (P := P) (cs := cs) (fr := { (triCtx P f fn w0 m Q).fr tm [{ target := .collected D, args := #[] }] (.code .ret :: k) with mode := .returning }) (by simp) rfl rfl htake
  refine (triCtx P f fn w0 m Q).back _ _ _ hst ?_
  refine (triCtx P f fn w0 m Q).back _ _ _ hst2 ?_
  exact ⟨_, _, _, hR, Steps.refl _ _, rfl, rfl, rfl, rfl, fn, hf, hres⟩
theorem At.retCK {P : Program} {f : FuncId} {fn : Func} {w0 : World} {m : List Nat} {Q : Value → Bx → List Seg → Prop} {p l : List Nat} {env : Env} {bx bx' : Bx} {hp hp' : List Seg} {D : Nat} (mb mh : List Bool) (hs : List Hint)
    (hf : P.funcs[f]? = some fn) {vs : List Value} {ob : Prop} (h : resL P hp ⟨w0, m⟩ env bx fn.results.toList hs = some (vs, ob)) (ho : ob) (hsel : forceL (selL mb bx) (fun a => forceL (selL mh hp) fun b => (a, b)) = (bx', hp')) (hQ : Q (tupV vs) bx' hp')
    (hret : isRet (sub (fn.body.getD .skip) p) = true := by rfl) : At (triCtx P f fn w0 m Q) ⟨0, p, l⟩ [{ target := .collected D, args := #[] }] env bx (hp ++ [markSeg D]) ⟨w0, m⟩ := by
  intro w hw
  have hsub : sub (fn.body.getD .skip) p = .ret := by
    simp only [isRet] at hret
    split at hret
    · assumption
    · cases hret
  have := St.retC (k := kont (fn.body.getD .skip) [] p) mb mh hs hf h ho hsel hQ w hw
  simpa [items, triCtx, fnCtx, hsub] using this
end Go.Eng

/-
  Plain laws of layer 9: files in order of their names.
-/
namespace Go.Eng
open Go

end Go.Eng

/-
  Plain laws of layer 9: what a crash leaves begins as it was.
-/
namespace Go.Eng
open Go

theorem putN_cons (q : List UInt8 × List UInt8) (S : FL) (p : List UInt8 × List UInt8) : putN (q :: S) p = if q.1 = p.1 then p :: S else q :: putN S p := by
  unfold putN
  rw [List.findIdx?_cons]
  by_cases h : q.1 = p.1
  · simp [h]
  · simp only [h, decide_false, Bool.false_eq_true, if_false]
    cases S.findIdx? (fun x => decide (x.1 = p.1)) <;> simp
theorem putN_nil (p : List UInt8 × List UInt8) : putN [] p = [p] := rfl
theorem readN_cons (q : List UInt8 × List UInt8) (S : FL) (n : List UInt8) : readN (q :: S) n = if q.1 = n then q.2 else readN S n := by
  unfold readN
  rw [List.find?_cons]
  by_cases h : q.1 = n <;> simp [h]
theorem readN_putN : ∀ (S : FL) (p : List UInt8 × List UInt8) (n : List UInt8), readN (putN S p) n = if p.1 = n then p.2 else readN S n
  | [], p, n => by rw [putN_nil, readN_cons]
  | q :: S, p, n => by
    rw [putN_cons]
    by_cases h : q.1 = p.1
    · rw [if_pos h, readN_cons, readN_cons]
      by_cases h2 : p.1 = n
      · rw [if_pos h2, if_pos h2]
      · rw [if_neg h2, if_neg h2, if_neg (by rw [h]; exact h2)]
    · rw [if_neg h, readN_cons, readN_cons, readN_putN S p n]
      by_cases h2 : q.1 = n
      · rw [if_pos h2, if_pos h2, if_neg (by intro e; exact h (by rw [h2, e]))]
      · rw [if_neg h2, if_neg h2]
theorem wrB_split (old : List UInt8) (at0 : Nat) (s : List UInt8) : (wrB old at0 s) = ((old ++ List.replicate ((at0 + s.length) - old.length) 0).take at0 ++ s ++ (old ++ List.replicate ((at0 + s.length) - old.length) 0).drop (at0 + s.length)) := by
  unfold wrB
  have e1 : putL (List.replicate (max old.length (at0 + s.length)) (0 : UInt8)) 0 old = old ++ List.replicate ((at0 + s.length) - old.length) 0 := by
    rw [putL_gen old _ 0 (by rw [List.length_replicate]; omega)]
    simp only [List.take_zero, List.nil_append, Nat.zero_add, List.drop_replicate]
    congr 2; omega
  rw [e1, putL_gen s _ at0 (by rw [List.length_append, List.length_replicate]; omega)]
theorem wrB_prefix {old s x : List UInt8} {at0 : Nat} (hx : x <+: old) (hl : x.length ≤ at0) : x <+: wrB old at0 s := by
  rw [wrB_split old at0 s, List.append_assoc]
  obtain ⟨t, rfl⟩ := hx
  refine ⟨((x ++ t ++ List.replicate (at0 + s.length - (x ++ t).length) 0).take at0).drop x.length ++ (s ++ ((x ++ t ++ List.replicate (at0 + s.length - (x ++ t).length) 0).drop (at0 + s.length))), ?_⟩
  rw [← List.append_assoc]
  congr 1
  have h1 : ((x ++ t ++ List.replicate (at0 + s.length - (x ++ t).length) 0).take at0).take x.length = x := by
    rw [List.take_take, Nat.min_eq_left hl, List.append_assoc, List.take_left']
    rfl
  conv => lhs; lhs; rw [← h1]
  exact List.take_append_drop _ _

/-- Each file of S begins each file of T. -/
def PrefS (S T : FL) : Prop := ∀ n, readN S n <+: readN T n
theorem PrefS.refl (S : FL) : PrefS S S := fun _ => List.prefix_rfl
theorem PrefS.cut {S T : FL} (h : PrefS S T) {n : List UInt8} {at0 : Nat} {s : List UInt8} {k : Int} (ha : (readN S n).length ≤ at0) : PrefS S (cutN T n at0 s k) := by
  intro m
  unfold cutN
  split
  · rw [readN_putN]
    by_cases hm : n = m
    · subst hm
      rw [if_pos rfl]
      exact wrB_prefix (h n) ha
    · rw [if_neg hm]; exact h m
  · exact h m
end Go.Eng

/-
  Plain laws of a disk: files set by names, in order.
-/
namespace Go.Eng
open Go

/-- A file's bytes are set (none: it isn't there), in order. -/
def setN (n s : List UInt8) : FL → FL
  | [] => if s = [] then [] else [(n, s)]
  | p :: l => if Op.bytesLess p.1 n = true then p :: setN n s l else (if s = [] then [] else [(n, s)]) ++ (p :: l).filter (fun q => !decide (q.1 = n))
theorem setN_mem (n s : List UInt8) : ∀ (S : FL) (q : List UInt8 × List UInt8), q ∈ setN n s S ↔ (s ≠ [] ∧ q = (n, s)) ∨ (q ∈ S ∧ q.1 ≠ n)
  | [], q => by
    unfold setN
    by_cases hs : s = []
    · simp [hs]
    · simp [hs]
  | p :: l, q => by
    unfold setN
    by_cases h : Op.bytesLess p.1 n = true
    · rw [if_pos h, List.mem_cons, setN_mem n s l q]
      have hne := less_ne h
      constructor
      · rintro (rfl | h1 | h1)
        · exact .inr ⟨by simp, hne⟩
        · exact .inl h1
        · exact .inr ⟨List.mem_cons_of_mem _ h1.1, h1.2⟩
      · rintro (h1 | ⟨h1, h2⟩)
        · exact .inr (.inl h1)
        · rcases List.mem_cons.1 h1 with rfl | h1
          · exact .inl rfl
          · exact .inr (.inr ⟨h1, h2⟩)
    · rw [if_neg h, List.mem_append, List.mem_filter]
      by_cases hs : s = []
      · simp [hs]
      · simp [hs]
end Go.Eng

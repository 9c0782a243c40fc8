/-
  Engine, part 23: files: a map from names to rows of bytes.
-/
import Derived.Test.YtfpoclhenokhhaaE22
namespace Go.Eng
open Go Go.MapKept

theorem selL_no {α : Type} (l : List α) : selL [] l = [] := by cases l <;> rfl

structure FileE where
  name : List UInt8
  bytes : List UInt8
  g : Nat
  cap : Nat
def FileE.ent (f : FileE) : Value × Value := (Go.Eng.str f.name, sv (some f.g) f.bytes.length f.cap)
def FileE.nb (f : FileE) : List UInt8 × List UInt8 := (f.name, f.bytes)
def FileE.row (t : TypeId) (f : FileE) : Seg := Seg.row (some f.g) t 1 f.bytes.length f.cap (u8s f.bytes)
def Seg.files (t : TypeId) (b : Nat) (F : List FileE) : Seg := Seg.pack [] (Seg.map b .string (F.map FileE.ent) :: F.map (FileE.row t))

theorem str_inj {a b : List UInt8} (h : str a = str b) : a = b := by
  unfold str at h
  injection h with h
  injection h with h
  exact Array.toList_inj.2 h |> (by simpa using ·)

/-- What is known of files in a world. -/
structure FilesOk (w : World) (t : TypeId) (b : Nat) (F : List FileE) : Prop where
  map : MapIs w b .string (F.map FileE.ent)
  row : ∀ f, f ∈ F → rowOk w (some f.g) t 1 f.bytes.length f.cap (u8s f.bytes)
theorem Seg.files_ok {t : TypeId} {b : Nat} {F : List FileE} {w : World} : (Seg.files t b F).ok w ↔ FilesOk w t b F := by
  constructor
  · intro h
    exact ⟨h.2 _ (List.mem_cons_self ..), fun f hf => h.2 (FileE.row t f) (List.mem_cons_of_mem _ (List.mem_map_of_mem hf))⟩
  · intro h
    refine ⟨by simp, fun s hs => ?_⟩
    rcases List.mem_cons.1 hs with rfl | hs
    · exact h.map
    · obtain ⟨f, hf, rfl⟩ := List.mem_map.1 hs
      exact h.row f hf
theorem Seg.files_keys (t : TypeId) (b : Nat) (F : List FileE) : (Seg.files t b F).keys = b :: F.map (·.g) := by
  have h : ∀ F : List FileE, (F.map (FileE.row t)).flatMap (·.keys) = F.map (·.g) := by
    intro F
    induction F with
    | nil => rfl
    | cons f F ih => rw [List.map_cons, List.flatMap_cons, ih]; simp [FileE.row, Seg.row]
  show kys [] _ = _
  simp only [kys, List.map_nil, List.nil_append, List.flatMap_cons]
  rw [h]; rfl
theorem WOk.files {S : Base} {bx : Bx} {hp : List Seg} {w : World} {t : TypeId} {b : Nat} {F : List FileE} (h : WOk S bx hp w) (hm : Seg.files t b F ∈ hp) : FilesOk w t b F := Seg.files_ok.1 (h.hp _ hm)
theorem Own.files {bx : Bx} {hp : List Seg} {w : World} {t : TypeId} {b : Nat} {F : List FileE} (h : Own bx hp w) (hm : Seg.files t b F ∈ hp) : FilesOk w t b F := Seg.files_ok.1 (h.hp _ hm)
theorem FilesOk.names {w : World} {t : TypeId} {b : Nat} {F : List FileE} (h : FilesOk w t b F) : (F.map (·.name)).Nodup := by
  have := h.map.nodup
  rw [List.map_map] at this
  have h2 : ((fun x : Value × Value => x.1) ∘ FileE.ent) = (fun n => str n) ∘ (·.name) := rfl
  rw [h2, ← List.map_map] at this
  exact List.Pairwise.of_map (fun n => str n) (fun a b h e => h (by rw [e])) this
theorem FilesOk.ext {m : List Nat} {w w' : World} {t : TypeId} {b : Nat} {F : List FileE} (h : FilesOk w t b F) (he : Ext m w w') (hm : ∀ k, k ∈ b :: F.map (·.g) → k ∉ m) : FilesOk w' t b F := by
  refine ⟨h.map.ext he (hm b (by simp)), fun f hf => ?_⟩
  have hr := h.row f hf
  have hlt : f.g < w.heap.size := by
    obtain ⟨cur, fr, h3, -⟩ := hr.blk f.g rfl
    exact (Array.getElem?_eq_some_iff.1 h3).1
  exact (FileE.row t f).loc w w' (fun k hk => by
    have : k = f.g := by simpa [FileE.row, Seg.row] using hk
    subst this
    exact he.block _ hlt (hm _ (List.mem_cons_of_mem _ (List.mem_map_of_mem hf)))) hr
theorem FilesOk.sl {w : World} {t : TypeId} {b : Nat} {F : List FileE} (h : FilesOk w t b F) {f : FileE} (hf : f ∈ F) : SlOk w (svA (some f.g)) (u8s f.bytes) := SlOk.row (h.row f hf)
theorem FilesOk.key {w : World} {t : TypeId} {b : Nat} {F : List FileE} (h : FilesOk w t b F) {f : FileE} (hf : f ∈ F) : f.g < w.heap.size := by
  obtain ⟨cur, fr, h3, -⟩ := (h.row f hf).blk f.g rfl
  exact (Array.getElem?_eq_some_iff.1 h3).1

/-- A file by its name. -/
def getF (F : List FileE) (n : List UInt8) : Option FileE := F.find? fun f => decide (f.name = n)
def valF (F : List FileE) (n : List UInt8) : Value := match getF F n with
  | some f => sv (some f.g) f.bytes.length f.cap
  | none => sv none 0 0
def bytesF (F : List FileE) (n : List UInt8) : List UInt8 := match getF F n with
  | some f => f.bytes
  | none => []
def putF (F : List FileE) (f : FileE) : List FileE := match F.findIdx? fun x => decide (x.name = f.name) with
  | some i => F.set i f
  | none => F ++ [f]
def delF (F : List FileE) (n : List UInt8) : List FileE := match F.findIdx? fun x => decide (x.name = n) with
  | some i => F.eraseIdx i
  | none => F
theorem getF_some {F : List FileE} {n : List UInt8} {f : FileE} (h : getF F n = some f) : f ∈ F ∧ f.name = n := by
  exact ⟨List.mem_of_find?_eq_some h, by simpa using List.find?_some h⟩
theorem getF_none {F : List FileE} {n : List UInt8} (h : getF F n = none) : ∀ f, f ∈ F → f.name ≠ n := by
  intro f hf
  have := List.find?_eq_none.1 h f hf
  simpa using this

section
variable {P : Program} {S : Base} {bx : Bx} {hp : List Seg} {t mt kt et : TypeId} {b : Nat} {F : List FileE} {n : List UInt8}

theorem ent_get {f : FileE} (hf : f ∈ F) : ∃ i : Nat, F[i]? = some f ∧ (F.map FileE.ent)[i]? = some (str f.name, sv (some f.g) f.bytes.length f.cap) := by
  obtain ⟨i, hi⟩ := List.mem_iff_getElem?.1 hf
  exact ⟨i, hi, by rw [List.getElem?_map, hi]; rfl⟩
theorem ent_no (h : ∀ f, f ∈ F → f.name ≠ n) : ∀ p, p ∈ F.map FileE.ent → p.1 ≠ str n := by
  intro p hp
  obtain ⟨f, hf, rfl⟩ := List.mem_map.1 hp
  exact fun e => h f hf (str_inj e)

theorem LookOb.file (ht : P.underlying mt = some (.map kt et)) (hd : P.underlying kt = some .string) (hz : ∀ w, (zeroValue et).run P w = .ok (sv none 0 0) w) (hM : ∀ w, WOk S bx hp w → FilesOk w t b F) :
    LookOb P S bx hp mt (.map (some b)) (str n) false (valF F n) := by
  unfold valF
  cases h : getF F n with
  | none => exact LookOb.miss false ht hd hz (fun w hw => (hM w hw).map) trivial (ent_no (getF_none h))
  | some f =>
    obtain ⟨h1, h2⟩ := getF_some h
    obtain ⟨i, -, hi⟩ := ent_get h1
    rw [h2] at hi
    exact LookOb.hit false ht hd (fun w hw => (hM w hw).map) trivial hi
theorem LookOb.fileOk (ht : P.underlying mt = some (.map kt et)) (hd : P.underlying kt = some .string) (hz : ∀ w, (zeroValue et).run P w = .ok (sv none 0 0) w) (hM : ∀ w, WOk S bx hp w → FilesOk w t b F) :
    LookOb P S bx hp mt (.map (some b)) (str n) true (.tuple #[valF F n, .bool (getF F n).isSome]) := by
  unfold valF
  cases h : getF F n with
  | none => exact LookOb.miss true ht hd hz (fun w hw => (hM w hw).map) trivial (ent_no (getF_none h))
  | some f =>
    obtain ⟨h1, h2⟩ := getF_some h
    obtain ⟨i, -, hi⟩ := ent_get h1
    rw [h2] at hi
    exact LookOb.hit true ht hd (fun w hw => (hM w hw).map) trivial hi
end

theorem FilesOk.slF {w : World} {t : TypeId} {b : Nat} {F : List FileE} (h : FilesOk w t b F) (n : List UInt8) : ∃ a c, valF F n = .slice a (bytesF F n).length c ∧ SlOk w a (u8s (bytesF F n)) := by
  unfold valF bytesF
  cases hg : getF F n with
  | none => exact ⟨none, 0, rfl, .inl rfl⟩
  | some f => exact ⟨_, _, rfl, h.sl (getF_some hg).1⟩
theorem FilesOk.lenF {w : World} {t : TypeId} {b : Nat} {F : List FileE} (h : FilesOk w t b F) (n : List UInt8) : (bytesF F n).length ≤ 9223372036854775807 := by
  unfold bytesF
  cases hg : getF F n with
  | none => simp
  | some f =>
    have := (h.row f (getF_some hg).1)
    have h1 := this.le
    have h2 := this.max
    show f.bytes.length ≤ _
    omega

theorem run_putF {P : Program} {w : World} {mt kt et t : TypeId} {b : Nat} {F : List FileE} (f : FileE) (ht : P.underlying mt = some (.map kt et)) (hd : P.underlying kt = some .string) (hF : FilesOk w t b F) :
    ∃ w', (Instr.mapUpdate mt (.map (some b)) (str f.name) (sv (some f.g) f.bytes.length f.cap)).run P w = .ok () w' ∧ MapIs w' b .string ((putF F f).map FileE.ent) ∧ Ext [b] w w' ∧ w'.heap.size = w.heap.size := by
  unfold putF
  cases h : F.findIdx? (fun x => decide (x.name = f.name)) with
  | none =>
    have hno : ∀ x, x ∈ F → x.name ≠ f.name := by
      intro x hx
      have := List.findIdx?_eq_none_iff.1 h x hx
      simpa using this
    obtain ⟨w', h1, h2, h3, h4⟩ := run_upd_miss (r := sv (some f.g) f.bytes.length f.cap) ht hd hF.map (k := str f.name) trivial (ent_no hno)
    exact ⟨w', h1, by rw [List.map_append]; exact h2, h3, h4⟩
  | some i =>
    obtain ⟨hi, hp, -⟩ := List.findIdx?_eq_some_iff_getElem.1 h
    have hn : F[i].name = f.name := by simpa using hp
    have hg : (F.map FileE.ent)[i]? = some (str f.name, sv (some F[i].g) F[i].bytes.length F[i].cap) := by rw [List.getElem?_map, List.getElem?_eq_getElem hi, ← hn]; rfl
    obtain ⟨w', h1, h2, h3, h4⟩ := run_upd_hit (r := sv (some f.g) f.bytes.length f.cap) ht hd hF.map (k := str f.name) trivial hg
    exact ⟨w', h1, by rw [List.map_set]; exact h2, h3, h4⟩

theorem putF_mem {F : List FileE} {f x : FileE} (h : x ∈ putF F f) : x = f ∨ x ∈ F := by
  unfold putF at h
  split at h
  · rcases List.mem_or_eq_of_mem_set h with h | h
    · exact .inr h
    · exact .inl h
  · simp only [List.mem_append, List.mem_singleton] at h
    exact h.symm

theorem putF_keys {F : List FileE} {f : FileE} (hn : (F.map (·.g)).Nodup) (hf : f.g ∉ F.map (·.g)) : ((putF F f).map (·.g)).Nodup := by
  unfold putF
  split
  · rename_i i _
    rw [List.map_set]
    rcases Nat.lt_or_ge i (F.map (·.g)).length with hi | hi
    · rw [List.set_eq_take_append_cons_drop, if_pos hi]
      have h1 : ((F.map (·.g)).take i ++ (F.map (·.g)).drop (i + 1)).Sublist (F.map (·.g)) := by
        conv => rhs; rw [← List.take_append_drop i (F.map (·.g))]
        exact List.Sublist.append (List.Sublist.refl _) (List.drop_sublist_drop_left _ (Nat.le_succ i))
      have h2 : ((F.map (·.g)).take i ++ f.g :: (F.map (·.g)).drop (i + 1)).Perm (f.g :: ((F.map (·.g)).take i ++ (F.map (·.g)).drop (i + 1))) := List.perm_middle
      rw [h2.nodup_iff, List.nodup_cons]
      exact ⟨fun hm => hf (h1.subset hm), hn.sublist h1⟩
    · rw [List.set_eq_of_length_le hi]; exact hn
  · rw [List.map_append, List.nodup_append]
    refine ⟨hn, by simp, fun a ha b hb => ?_⟩
    simp only [List.map_cons, List.map_nil, List.mem_singleton] at hb
    subst hb
    exact fun e => hf (e ▸ ha)

/-- A ROW GOES INTO THE FILES. -/
theorem OpOk.filesPut {C : Ctx} {env : Env} {bx : Bx} {hp : List Seg} {S : Base} {o : Oper} {K : Value → Bx → List Seg → Prop} {mt kt et t : TypeId} {b : Nat} {F : List FileE} {m x y : Operand} (f : FileE)
    (ho : o.op = .mapUpdate mt m x y) (hm : Env.ev env m = some (.map (some b))) (hx : Env.ev env x = some (str f.name)) (hy : Env.ev env y = some (sv (some f.g) f.bytes.length f.cap)) (ht : C.P.underlying mt = some (.map kt et)) (hd : C.P.underlying kt = some .string)
    (hk : K undef bx (Seg.files t b (putF F f) :: hp)) : OpOk C o env bx (FileE.row t f :: Seg.files t b F :: hp) S K := by
  intro w hw ρ hρ
  have hF := hw.files (t := t) (b := b) (F := F) (by simp)
  have hr : rowOk w (some f.g) t 1 f.bytes.length f.cap (u8s f.bytes) := hw.hp (FileE.row t f) (by simp)
  obtain ⟨w', h1, h2, h3, h4⟩ := run_putF f ht hd hF
  have hk0 : kys [] [FileE.row t f, Seg.files t b F] = f.g :: b :: F.map (·.g) := by
    simp only [kys, List.map_nil, List.nil_append, List.flatMap_cons, List.flatMap_nil, List.append_nil, Seg.files_keys]
    simp [FileE.row, Seg.row]
  have hown : Own [] [FileE.row t f, Seg.files t b F] w := by
    have hp1 : (FileE.row t f :: Seg.files t b F :: hp) = [FileE.row t f, Seg.files t b F] ++ hp := rfl
    have := hw.toOwn.sel (bm := []) (hm := [FileE.row t f, Seg.files t b F]) [] [true, true] (by simp only [forceL_eq, selL, selL_no])
    exact this
  have hnd := hown.nd
  rw [hk0] at hnd
  simp only [List.nodup_cons, List.mem_cons, not_or] at hnd
  obtain ⟨⟨hfb, hfF⟩, hbF, hFn⟩ := hnd
  have hkey : ∀ k, k ∈ b :: (putF F f).map (·.g) → k ∈ f.g :: b :: F.map (·.g) := by
    intro k hk
    rcases List.mem_cons.1 hk with rfl | hk
    · simp
    · obtain ⟨x, hx, rfl⟩ := List.mem_map.1 hk
      rcases putF_mem hx with rfl | hx
      · simp
      · exact List.mem_cons_of_mem _ (List.mem_cons_of_mem _ (List.mem_map_of_mem hx))
  have hrow : ∀ x, x ∈ putF F f → rowOk w' (some x.g) t 1 x.bytes.length x.cap (u8s x.bytes) := by
    intro x hx
    have hxw : rowOk w (some x.g) t 1 x.bytes.length x.cap (u8s x.bytes) ∧ x.g ≠ b := by
      rcases putF_mem hx with rfl | hx
      · exact ⟨hr, hfb⟩
      · exact ⟨hF.row x hx, fun e => hbF (e ▸ List.mem_map_of_mem (f := (·.g)) hx)⟩
    have hlt : x.g < w.heap.size := by
      obtain ⟨cur, fr, h5, -⟩ := hxw.1.blk x.g rfl
      exact (Array.getElem?_eq_some_iff.1 h5).1
    exact (FileE.row t x).loc w w' (fun k hk => by
      have : k = x.g := by simpa [FileE.row, Seg.row] using hk
      subst this
      exact h3.block _ hlt (by simpa using hxw.2)) hxw.1
  have hown' : Own [] [Seg.files t b (putF F f)] w' := by
    refine ⟨?_, fun k hk => ?_, by simp, fun s hs => ?_⟩
    · simp only [kys, List.map_nil, List.nil_append, List.flatMap_cons, List.flatMap_nil, List.append_nil, Seg.files_keys, List.nodup_cons]
      refine ⟨fun hm => ?_, putF_keys hFn hfF⟩
      have := hkey b (by simp)
      obtain ⟨x, hx, he⟩ := List.mem_map.1 hm
      rcases putF_mem hx with rfl | hx
      · exact hfb he
      · exact hbF (he ▸ List.mem_map_of_mem (f := (·.g)) hx)
    · simp only [kys, List.map_nil, List.nil_append, List.flatMap_cons, List.flatMap_nil, List.append_nil, Seg.files_keys] at hk
      have := hown.lt k (by rw [hk0]; exact hkey k hk)
      omega
    · simp only [List.mem_singleton] at hs
      subst hs
      exact Seg.files_ok.2 ⟨h2, hrow⟩
  have hj := hw.join (bm := []) (br := bx) (hm := [FileE.row t f, Seg.files t b F]) (hr := hp) (bx' := []) (hp' := [Seg.files t b (putF F f)]) (List.Perm.refl _) (List.Perm.refl _) (h3.mono (fun k hk _ => by rw [hk0]; simp at hk; subst hk; simp)) hown' (fun k hk => by
    simp only [kys, List.map_nil, List.nil_append, List.flatMap_cons, List.flatMap_nil, List.append_nil, Seg.files_keys] at hk
    rw [hk0]
    exact .inl (hkey k hk))
  refine .inl ⟨undef, w', bx, _, .inr ⟨?_, rfl⟩, hj, hk⟩
  unfold execOp
  simp only [ho, hρ _ _ hm, hρ _ _ hx, hρ _ _ hy, Sem.run_bind, h1, Result.andThen_ok, Sem.run_pure]

/-- New files: none. -/
theorem OpOk.makeFiles {C : Ctx} {env : Env} {bx : Bx} {hp : List Seg} {S : Base} {o : Oper} {K : Value → Bx → List Seg → Prop} {mt : TypeId} (t : TypeId) (ho : o.op = .makeMap mt none)
    (hk : ∀ r, K (.map (some r)) bx (Seg.files t r [] :: hp)) : OpOk C o env bx hp S K := by
  intro w hw ρ hρ
  refine .inl ⟨.map (some w.heap.size), w.alloc (.map #[] 0), bx, _, .inl ?_, hw.newSeg (s' := Seg.files t w.heap.size []) ⟨rfl, rfl, rfl, by simp, fun k hk _ => RowKit.Below.heap_alloc w _ k hk⟩ (Seg.files_ok.2 ⟨⟨_, _, (MapKept.heap_alloc w _).1, stamped_empty 0, by simp, by simp⟩, by simp⟩) (by rw [Seg.files_keys]; simp) ?_, hk _⟩
  · unfold execOp
    simp only [ho, Option.map_none]
    simp [Instr.makeMap, Result.andThen]
  · intro k hk
    rw [Seg.files_keys] at hk
    simp at hk; subst hk
    exact ⟨Nat.le_refl _, by simp⟩

theorem delF_sub {F : List FileE} {n : List UInt8} : (delF F n).Sublist F := by
  unfold delF
  split
  · exact List.eraseIdx_sublist _ _
  · exact List.Sublist.refl _

theorem OpOk.filesDel {C : Ctx} {env : Env} {bx : Bx} {hp : List Seg} {S : Base} {o : Oper} {K : Value → Bx → List Seg → Prop} {mt kt et t : TypeId} {b : Nat} {F : List FileE} {n : List UInt8} (j : Nat)
    (ho : bltOf env o.op = some (.delete, [mt, kt], [.map (some b), str n])) (ht : C.P.underlying mt = some (.map kt et)) (hd : C.P.underlying kt = some .string)
    (hj : nth hp j = some (Seg.files t b F)) (hk : K (.tuple #[]) bx (setL hp j (Seg.files t b (delF F n)))) : OpOk C o env bx hp S K := by
  intro w hw ρ hρ
  have hF := hw.files (t := t) (b := b) (F := F) (nth_mem hj)
  obtain ⟨cs, ty, hex⟩ := bltOf_ok (P := C.P) (w := w) ho hρ
  have hrun : ∃ w', (Builtin.delete_ #[mt, kt] ty #[.map (some b), str n]).run C.P w = .ok (.tuple #[]) w' ∧ MapIs w' b .string ((delF F n).map FileE.ent) ∧ Ext [b] w w' ∧ w'.heap.size = w.heap.size := by
    unfold delF
    cases h : F.findIdx? (fun x => decide (x.name = n)) with
    | none =>
      have hno : ∀ x, x ∈ F → x.name ≠ n := by
        intro x hx
        have := List.findIdx?_eq_none_iff.1 h x hx
        simpa using this
      exact run_del_miss ht hd hF.map (k := str n) trivial (ent_no hno)
    | some i =>
      obtain ⟨hi, hp, -⟩ := List.findIdx?_eq_some_iff_getElem.1 h
      have hn : F[i].name = n := by simpa using hp
      have hg : (F.map FileE.ent)[i]? = some (str n, sv (some F[i].g) F[i].bytes.length F[i].cap) := by rw [List.getElem?_map, List.getElem?_eq_getElem hi, ← hn]; rfl
      obtain ⟨w', h1, h2, h3, h4⟩ := run_del_hit (ty := ty) ht hd hF.map (k := str n) trivial hg
      exact ⟨w', h1, by rw [eraseIdx_map']; exact h2, h3, h4⟩
  obtain ⟨w', h1, h2, h3, h4⟩ := hrun
  have hin : ∀ k, k ∈ (Seg.files t b F).keys → k ∈ kys bx hp := fun k hk => mem_kys_hp (nth_mem hj) hk
  have hndF : (Seg.files t b F).keys.Nodup := by
    have := hw.nd
    unfold kys at this
    have h5 := (List.nodup_append.1 this).2.1
    obtain ⟨l1, l2, he⟩ := List.append_of_mem (nth_mem hj)
    rw [he, List.flatMap_append, List.flatMap_cons] at h5
    exact (List.nodup_append.1 (List.nodup_append.1 h5).2.1).1
  rw [Seg.files_keys] at hndF
  have hsub : ((delF F n).map (·.g)).Sublist (F.map (·.g)) := delF_sub.map _
  refine .inl ⟨.tuple #[], w', bx, _, .inl ?_, hw.setSeg hj (s' := Seg.files t b (delF F n)) (h3.mono (fun k hk _ => by rw [Seg.files_keys]; simp at hk; subst hk; simp)) (Seg.files_ok.2 ⟨h2, fun f hf => ?_⟩) ?_ (fun q hq => ?_), hk⟩
  · rw [hex]; simp only [builtin, Sem.run_bind, h1, Result.andThen_ok, Sem.run_pure]
  · have hfF := delF_sub.subset hf
    have hr := hF.row f hfF
    exact (FileE.row t f).loc w w' (fun k hk => by
      have : k = f.g := by simpa [FileE.row, Seg.row] using hk
      subst this
      exact h3.block _ (hF.key hfF) (by
        simp only [List.mem_singleton]
        exact fun e => (List.nodup_cons.1 hndF).1 (e ▸ List.mem_map_of_mem (f := (·.g)) hfF))) hr
  · rw [Seg.files_keys]
    exact List.nodup_cons.2 ⟨fun hm => (List.nodup_cons.1 hndF).1 (hsub.subset hm), (List.nodup_cons.1 hndF).2.sublist hsub⟩
  · rw [Seg.files_keys] at hq ⊢
    have hq' : q ∈ b :: F.map (·.g) := by
      rcases List.mem_cons.1 hq with rfl | hq
      · simp
      · exact List.mem_cons_of_mem _ (hsub.subset hq)
    refine ⟨.inl hq', ?_⟩
    have := hw.lt q (hin q (by rw [Seg.files_keys]; exact hq'))
    omega

theorem putL_map {α β : Type} (f : α → β) : ∀ (ys l : List α) (i : Nat), (putL l i ys).map f = putL (l.map f) i (ys.map f)
  | [], _, _ => rfl
  | y :: ys, l, i => by simp only [putL, List.map_cons, putL_map f ys, setL_eq, List.map_set]
theorem u8s_putL (l : List UInt8) (i : Nat) (ys : List UInt8) : u8s (putL l i ys) = putL (u8s l) i (u8s ys) := putL_map _ ys l i
theorem u8s_rep (n : Nat) : u8s (List.replicate n 0) = List.replicate n (.int .u8 0) := by simp [u8s]
theorem putL_len {α : Type} (l : List α) (i : Nat) (ys : List α) : (putL l i ys).length = l.length := by
  induction ys generalizing l i with
  | nil => rfl
  | cons y ys ih => rw [putL, ih, setL_eq, List.length_set]
end Go.Eng

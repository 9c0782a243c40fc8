/-
  Engine, part 4: worlds, blocks that are known whole, and what is said of others; runs over all worlds that fit.
-/
import Derived.Test.YtfpoclhenokhhaaE3
namespace Go.Eng
open Go

/-- Outside 'mods' nothing that lay in w has turned. -/
structure Ext (mods : List Nat) (w w' : World) : Prop where
  os : w'.os = w.os
  tape : w'.tape = w.tape
  output : w'.output = w.output
  size : w.heap.size ≤ w'.heap.size
  block : ∀ k, k < w.heap.size → k ∉ mods → w'.heap[k]? = w.heap[k]?

theorem Ext.refl (mods : List Nat) (w : World) : Ext mods w w := ⟨rfl, rfl, rfl, Nat.le_refl _, fun _ _ _ => rfl⟩
theorem Ext.trans {mods : List Nat} {a b c : World} (h : Ext mods a b) (k : Ext mods b c) : Ext mods a c :=
  ⟨k.os.trans h.os, k.tape.trans h.tape, k.output.trans h.output, Nat.le_trans h.size k.size, fun i hi hm => (k.block i (Nat.lt_of_lt_of_le hi h.size) hm).trans (h.block i hi hm)⟩
theorem Ext.mono {m m' : List Nat} {a b : World} (h : Ext m a b) (hm : ∀ k, k ∈ m → k < a.heap.size → k ∈ m') : Ext m' a b :=
  ⟨h.os, h.tape, h.output, h.size, fun k hk hn => h.block k hk (fun e => hn (hm k e hk))⟩
/-- A later step that turns only blocks of m2, each of which is one of m or lay not yet in a. -/
theorem Ext.then {m m2 : List Nat} {a b c : World} (h : Ext m a b) (k : Ext m2 b c) (hm : ∀ i, i ∈ m2 → i ∈ m ∨ a.heap.size ≤ i) : Ext m a c :=
  ⟨k.os.trans h.os, k.tape.trans h.tape, k.output.trans h.output, Nat.le_trans h.size k.size, fun i hi hn =>
    (k.block i (Nat.lt_of_lt_of_le hi h.size) (fun e => by rcases hm i e with h1 | h1; exact hn h1; omega)).trans (h.block i hi hn)⟩
theorem Ext.below {w w' : World} (h : Ext [] w w') : RowKit.Below w.heap.size w w' := ⟨h.os, h.tape, h.output, h.size, fun k hk => h.block k hk (by simp)⟩
theorem Ext.cell {m : List Nat} {w w' : World} (h : Ext m w w') {a : Addr} {v : Value} (hc : w.cell? a = some v) (hm : a.block ∉ m) : w'.cell? a = some v := by
  have hlt := World.block_lt_of_cell? w a hc
  rw [← hc]; exact World.cell?_of_block (w := w) (h.block _ hlt hm)

/-- The world a function's run began in, and the blocks of it that the run may turn. -/
structure Base where
  w0 : World
  mods : List Nat

/-- Blocks that are known whole: number, type, cells. -/
abbrev Bx := List (Nat × TypeId × List Value)

/-- What is said of a few blocks, and of no others. -/
structure Seg where
  keys : List Nat
  ok : World → Prop
  loc : ∀ w w' : World, (∀ k, k ∈ keys → w'.heap[k]? = w.heap[k]?) → ok w → ok w'

def kys (bx : Bx) (hp : List Seg) : List Nat := bx.map (·.1) ++ hp.flatMap (·.keys)

structure WOk (S : Base) (bx : Bx) (hp : List Seg) (w : World) : Prop where
  ext : Ext S.mods S.w0 w
  nd : (kys bx hp).Nodup
  lt : ∀ k, k ∈ kys bx hp → k < w.heap.size
  own : ∀ k, k ∈ kys bx hp → k ∈ S.mods ∨ S.w0.heap.size ≤ k
  bx : ∀ e, e ∈ bx → w.heap[e.1]? = some (.cells e.2.2.toArray e.2.1 (0, 0))
  hp : ∀ s, s ∈ hp → s.ok w

/-- From this place on, in all worlds that fit. -/
def At (C : Ctx) (x : Loc) (df : List Deferred) (env : Env) (bx : Bx) (hp : List Seg) (S : Base) : Prop :=
  ∀ w, WOk S bx hp w → St C (items C.body C.tl x) df env w

/-- What a load finds, in all worlds that fit. -/
def RdW (S : Base) (bx : Bx) (hp : List Seg) (b o : Nat) (cs : List Value) : Prop :=
  ∀ w, WOk S bx hp w → ∀ j u, cs[j]? = some u → w.cell? ⟨b, o + j, none⟩ = some u

theorem RdW.base {S : Base} {bx : Bx} {hp : List Seg} {b o : Nat} {cs : List Value} (hb : b ∉ S.mods) (h : ∀ j u, cs[j]? = some u → S.w0.cell? ⟨b, o + j, none⟩ = some u) : RdW S bx hp b o cs :=
  fun _ hw j u hu => hw.ext.cell (h j u hu) hb
theorem RdW.base1 {S : Base} {bx : Bx} {hp : List Seg} {b o : Nat} {v : Value} (hb : b ∉ S.mods) (h : S.w0.cell? ⟨b, o, none⟩ = some v) : RdW S bx hp b o [v] :=
  RdW.base hb fun j u hu => by
    match j, hu with
    | 0, hu => simp at hu; subst hu; exact h

theorem mem_kys_bx {bx : Bx} {hp : List Seg} {e : Nat × TypeId × List Value} (h : e ∈ bx) : e.1 ∈ kys bx hp :=
  List.mem_append.2 (.inl (List.mem_map_of_mem h))
theorem mem_kys_hp {bx : Bx} {hp : List Seg} {s : Seg} (h : s ∈ hp) {k : Nat} (hk : k ∈ s.keys) : k ∈ kys bx hp :=
  List.mem_append.2 (.inr (List.mem_flatMap.2 ⟨s, h, hk⟩))

theorem map_fst_setL : ∀ (bx : Bx) (i : Nat) (e e' : Nat × TypeId × List Value), nth bx i = some e → e'.1 = e.1 → (setL bx i e').map (·.1) = bx.map (·.1)
  | [], i, e, e', h, _ => by simp [nth] at h
  | x :: l, 0, e, e', h, he => by simp [nth] at h; subst h; simp [setL, he]
  | x :: l, i + 1, e, e', h, he => by simp [setL, map_fst_setL l i e e' (by simpa [nth] using h) he]

theorem nth_mem {α : Type} {l : List α} {i : Nat} {x : α} (h : nth l i = some x) : x ∈ l := List.mem_of_getElem? (by rw [← nth_eq]; exact h)

theorem mem_setL {α : Type} : ∀ {l : List α} {i : Nat} {y z : α}, z ∈ setL l i y → z = y ∨ ∃ j, j ≠ i ∧ nth l j = some z
  | [], i, y, z, h => by simp [setL] at h
  | x :: l, 0, y, z, h => by
    simp only [setL, List.mem_cons] at h
    rcases h with h | h
    · exact .inl h
    · obtain ⟨n, hn⟩ := List.mem_iff_getElem?.1 h
      exact .inr ⟨n + 1, by omega, by simp [nth, nth_eq, hn]⟩
  | x :: l, i + 1, y, z, h => by
    simp only [setL, List.mem_cons] at h
    rcases h with h | h
    · exact .inr ⟨0, by omega, by simp [nth, h]⟩
    · rcases mem_setL h with h | ⟨j, hj, hz⟩
      · exact .inl h
      · exact .inr ⟨j + 1, by omega, by simpa [nth] using hz⟩

theorem nodup_fst {bx : Bx} (h : (bx.map (·.1)).Nodup) {i j : Nat} {e f : Nat × TypeId × List Value} (hi : nth bx i = some e) (hj : nth bx j = some f) (hne : j ≠ i) : f.1 ≠ e.1 := by
  intro he
  rw [nth_eq] at hi hj
  have hi' : (bx.map (·.1))[i]? = some e.1 := by simp [hi]
  have hj' : (bx.map (·.1))[j]? = some e.1 := by simp [hj, he]
  have hil : i < (bx.map (·.1)).length := (List.getElem?_eq_some_iff.1 hi').1
  exact hne ((List.getElem?_inj hil h).1 (hi'.trans hj'.symm)).symm

/-- One block's cells written anew. -/
theorem WOk.setBlk {S : Base} {bx : Bx} {hp : List Seg} {w w' : World} (h : WOk S bx hp w) {i : Nat} {b : Nat} {t : TypeId} {cs cs' : List Value} (hi : nth bx i = some (b, t, cs))
    (hos : w'.os = w.os) (htape : w'.tape = w.tape) (hout : w'.output = w.output) (hsz : w'.heap.size = w.heap.size)
    (hb : w'.heap[b]? = some (.cells cs'.toArray t (0, 0))) (ho : ∀ k, k ≠ b → w'.heap[k]? = w.heap[k]?) : WOk S (setL bx i (b, t, cs')) hp w' := by
  have hk : kys (setL bx i (b, t, cs')) hp = kys bx hp := by unfold kys; rw [map_fst_setL bx i (b, t, cs) (b, t, cs') hi rfl]
  have hmem := nth_mem hi
  have hbk : b ∈ kys bx hp := mem_kys_bx (e := (b, t, cs)) hmem
  refine ⟨?_, by rw [hk]; exact h.nd, ?_, ?_, ?_, ?_⟩
  · refine h.ext.then (m2 := [b]) ⟨hos, htape, hout, by omega, fun k _ hn => ho k (by simpa using hn)⟩ ?_
    intro k hkb
    simp only [List.mem_singleton] at hkb
    subst hkb
    exact h.own k hbk
  · intro k hk'; rw [hk] at hk'; rw [hsz]; exact h.lt k hk'
  · intro k hk'; rw [hk] at hk'; exact h.own k hk'
  · intro e he
    rcases mem_setL he with rfl | ⟨j, hj, hz⟩
    · exact hb
    · have hne : e.1 ≠ b := nodup_fst (List.nodup_append.1 h.nd).1 hi hz hj
      rw [ho _ hne]; exact h.bx e (nth_mem hz)
  · intro s hs
    refine s.loc w w' (fun k hk' => ho k ?_) (h.hp s hs)
    intro e
    subst e
    have := List.nodup_append.1 h.nd
    exact this.2.2 _ (List.mem_map_of_mem (f := (·.1)) hmem) _ (List.mem_flatMap.2 ⟨s, hs, hk'⟩) rfl

/-- A new block. -/
theorem WOk.newBlk {S : Base} {bx : Bx} {hp : List Seg} {w w' : World} (h : WOk S bx hp w) {t : TypeId} {cs : List Value}
    (hos : w'.os = w.os) (htape : w'.tape = w.tape) (hout : w'.output = w.output) (hsz : w'.heap.size = w.heap.size + 1)
    (hb : w'.heap[w.heap.size]? = some (.cells cs.toArray t (0, 0))) (ho : ∀ k, k < w.heap.size → w'.heap[k]? = w.heap[k]?) : WOk S ((w.heap.size, t, cs) :: bx) hp w' := by
  have hk : kys ((w.heap.size, t, cs) :: bx) hp = w.heap.size :: kys bx hp := rfl
  refine ⟨?_, ?_, ?_, ?_, ?_, ?_⟩
  · exact h.ext.trans ⟨hos, htape, hout, by omega, fun k hk _ => ho k hk⟩
  · rw [hk]; exact List.nodup_cons.2 ⟨fun hm => Nat.lt_irrefl _ (h.lt _ hm), h.nd⟩
  · intro k hm; rw [hk] at hm
    rcases List.mem_cons.1 hm with rfl | hm
    · omega
    · have := h.lt k hm; omega
  · intro k hm; rw [hk] at hm
    rcases List.mem_cons.1 hm with rfl | hm
    · exact .inr h.ext.size
    · exact h.own k hm
  · intro e he
    rcases List.mem_cons.1 he with rfl | he
    · exact hb
    · rw [ho _ (h.lt _ (mem_kys_bx he))]; exact h.bx e he
  · intro s hs
    exact s.loc w w' (fun k hk' => ho k (h.lt _ (mem_kys_hp hs hk'))) (h.hp s hs)

theorem WOk.drew {S : Base} {bx : Bx} {hp : List Seg} {w w' : World} (h : WOk S bx hp w) (hh : w'.heap = w.heap) (hos : w'.os = w.os) (htape : w'.tape = w.tape) (hout : w'.output = w.output) : WOk S bx hp w' :=
  ⟨h.ext.trans ⟨hos, htape, hout, by rw [hh]; exact Nat.le_refl _, fun k _ _ => by rw [hh]⟩, h.nd, fun k hk => by rw [hh]; exact h.lt k hk, h.own, fun e he => by rw [hh]; exact h.bx e he,
    fun s hs => s.loc w w' (fun k _ => by rw [hh]) (h.hp s hs)⟩

/-- Blocks that are the caller's to hand over, in a world. -/
structure Own (bx : Bx) (hp : List Seg) (w : World) : Prop where
  nd : (kys bx hp).Nodup
  lt : ∀ k, k ∈ kys bx hp → k < w.heap.size
  bx : ∀ e, e ∈ bx → w.heap[e.1]? = some (.cells e.2.2.toArray e.2.1 (0, 0))
  hp : ∀ s, s ∈ hp → s.ok w

theorem Own.nil (w : World) : Own [] [] w := ⟨by simp [kys], by simp [kys], by simp, by simp⟩
theorem Own.wok {bx : Bx} {hp : List Seg} {w : World} (h : Own bx hp w) : WOk ⟨w, kys bx hp⟩ bx hp w := ⟨Ext.refl _ _, h.nd, h.lt, fun _ hk => .inl hk, h.bx, h.hp⟩
theorem WOk.toOwn {S : Base} {bx : Bx} {hp : List Seg} {w : World} (h : WOk S bx hp w) : Own bx hp w := ⟨h.nd, h.lt, h.bx, h.hp⟩

/-- A function that is entered when it is called. -/
def Callable (P : Program) (f : FuncId) : Prop := ∃ fn, P.funcs[f]? = some fn ∧ fn.body.isSome = true ∧ (fn.name == "runtime.NumGoroutine") = false

/-- The contract: from world w, where blocks m may be turned, it returns, and Q holds of the value and of the blocks that are told. -/
def TriR (w : World) (m : List Nat) (Q : Value → Bx → List Seg → Prop) (e : Ending) (w' : World) : Prop :=
  ∃ v bx hp, e = .returned v ∧ Q v bx hp ∧ Ext m w w' ∧ Own bx hp w' ∧ ∀ k, k ∈ kys bx hp → k ∈ m ∨ w.heap.size ≤ k
def Tri (P : Program) (f : FuncId) (args : List Value) (w : World) (m : List Nat) (Q : Value → Bx → List Seg → Prop) : Prop := Callable P f ∧ Calls P f ⟨args⟩ w (TriR w m Q)

theorem Tri.mono {P : Program} {f : FuncId} {args : List Value} {w : World} {m : List Nat} {Q Q' : Value → Bx → List Seg → Prop} (h : Tri P f args w m Q) (hq : ∀ v bx hp, Q v bx hp → Q' v bx hp) : Tri P f args w m Q' :=
  ⟨h.1, h.2.mono fun _ _ ⟨v, bx, hp, he, hQ, r⟩ => ⟨v, bx, hp, he, hq v bx hp hQ, r⟩⟩

/-- It hands back V, and leaves all as it was. -/
def Fun (P : Program) (f : FuncId) (args : List Value) (w : World) (V : Value) : Prop := Tri P f args w [] (fun v bx hp => v = V ∧ bx = [] ∧ hp = [])
/-- It hands back V, and one block is written anew. -/
def FunU (P : Program) (f : FuncId) (args : List Value) (w : World) (V : Value) (e : Nat × TypeId × List Value) : Prop := Tri P f args w [e.1] (fun v bx hp => v = V ∧ bx = [e] ∧ hp = [])

theorem callFunc_ok {P : Program} {f : FuncId} {w : World} {args : Array Value} (h : Callable P f) : (callFunc f args).run P w = .ok (.enter f args) w := by
  obtain ⟨fn, h1, h2, h3⟩ := h
  have h2' : ¬ fn.body = none := by intro e; simp [e] at h2
  have h3' : ¬ fn.name = "runtime.NumGoroutine" := by simpa using h3
  simp [callFunc, h1, h2', h3']

theorem WOk.ext0 {S : Base} {bx : Bx} {hp : List Seg} {w w' : World} (h : WOk S bx hp w) (he : Ext [] w w') : WOk S bx hp w' :=
  ⟨h.ext.then he (by simp), h.nd, fun k hk => Nat.lt_of_lt_of_le (h.lt k hk) he.size, h.own, fun e hm => by rw [he.block _ (h.lt _ (mem_kys_bx hm)) (by simp)]; exact h.bx e hm,
    fun s hs => s.loc w w' (fun k hk => he.block _ (h.lt _ (mem_kys_hp hs hk)) (by simp)) (h.hp s hs)⟩

theorem WOk.ext1 {S : Base} {bx : Bx} {hp : List Seg} {w w' : World} (h : WOk S bx hp w) {i b : Nat} {t : TypeId} {cs cs' : List Value} (hi : nth bx i = some (b, t, cs)) (he : Ext [b] w w')
    (hb : w'.heap[b]? = some (.cells cs'.toArray t (0, 0))) : WOk S (setL bx i (b, t, cs')) hp w' := by
  have hk : kys (setL bx i (b, t, cs')) hp = kys bx hp := by unfold kys; rw [map_fst_setL bx i (b, t, cs) (b, t, cs') hi rfl]
  have hmem := nth_mem hi
  have hbk : b ∈ kys bx hp := mem_kys_bx (e := (b, t, cs)) hmem
  refine ⟨h.ext.then he (fun k hkb => ?_), by rw [hk]; exact h.nd, fun k hk' => ?_, fun k hk' => ?_, fun e hm => ?_, fun s hs => ?_⟩
  · simp only [List.mem_singleton] at hkb; subst hkb; exact h.own k hbk
  · rw [hk] at hk'; exact Nat.lt_of_lt_of_le (h.lt k hk') he.size
  · rw [hk] at hk'; exact h.own k hk'
  · rcases mem_setL hm with rfl | ⟨j, hj, hz⟩
    · exact hb
    · have hne : e.1 ≠ b := nodup_fst (List.nodup_append.1 h.nd).1 hi hz hj
      rw [he.block _ (h.lt _ (mem_kys_bx (nth_mem hz))) (by simpa using hne)]; exact h.bx e (nth_mem hz)
  · refine s.loc w w' (fun k hk' => he.block _ (h.lt _ (mem_kys_hp hs hk')) ?_) (h.hp s hs)
    intro e
    simp only [List.mem_singleton] at e
    subst e
    have := List.nodup_append.1 h.nd
    exact this.2.2 _ (List.mem_map_of_mem (f := (·.1)) hmem) _ (List.mem_flatMap.2 ⟨s, hs, hk'⟩) rfl

end Go.Eng

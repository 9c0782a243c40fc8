/-
  Engine, part 8: slices that a run makes (rows), append, conversions between bytes and strings, slices that are read.
-/
import Derived.Test.YtfpoclhenokhhaaE7
namespace Go.Eng
open Go

/-- A slice value over the head of a block, or nil. -/
def svA : Option Nat → Option Addr
  | none => none
  | some g => some ⟨g, 0, none⟩
@[simp] theorem svA_none : svA none = none := rfl
@[simp] theorem svA_some (g : Nat) : svA (some g) = some ⟨g, 0, none⟩ := rfl
def sv (a : Option Nat) (n cap : Nat) : Value := .slice (svA a) n cap

/-- A row: block a is the array of a slice of n elements (sz cells each) that are xs. -/
structure rowOk (w : World) (a : Option Nat) (t : TypeId) (sz n cap : Nat) (xs : List Value) : Prop where
  len : xs.length = n * sz
  le : n ≤ cap
  max : cap ≤ 9223372036854775807
  nil : a = none → cap = 0
  blk : ∀ g, a = some g → ∃ cur fr, w.heap[g]? = some (.cells cur t fr) ∧ cur.size = cap * sz ∧ cur.toList.take (n * sz) = xs ∧ (fr = (0, 0) ∨ cur.size ≤ fr.1)

def Seg.row (a : Option Nat) (t : TypeId) (sz n cap : Nat) (xs : List Value) : Seg where
  keys := a.toList
  ok := fun w => rowOk w a t sz n cap xs
  loc := fun w w' h r => ⟨r.len, r.le, r.max, r.nil, fun g hg => by
    obtain ⟨cur, fr, h1, h2⟩ := r.blk g hg
    exact ⟨cur, fr, by rw [h g (by simp [hg])]; exact h1, h2⟩⟩

theorem rowOk.cell {w : World} {g : Nat} {t : TypeId} {sz n cap : Nat} {xs : List Value} (h : rowOk w (some g) t sz n cap xs) {j : Nat} {u : Value} (hu : xs[j]? = some u) : w.cell? ⟨g, j, none⟩ = some u := by
  obtain ⟨cur, fr, h1, h2, h3, _⟩ := h.blk g rfl
  rw [← h3, List.getElem?_take] at hu
  split at hu
  · simp [World.cell?, h1]; simpa using hu
  · cases hu

/-- What a load finds in a row. -/
theorem RdW.row {S : Base} {bx : Bx} {hp : List Seg} {j g : Nat} {t : TypeId} {sz n cap : Nat} {xs cs : List Value} {off : Nat} (h : nth hp j = some (Seg.row (some g) t sz n cap xs)) (hcs : ∀ i u, cs[i]? = some u → xs[off + i]? = some u) :
    RdW S bx hp g off cs := fun _ hw i u hu => (hw.hp _ (nth_mem h)).cell (hcs i u hu)

theorem mem_setL' {α : Type} : ∀ {l : List α} {i : Nat} {y x : α}, nth l i = some x → y ∈ setL l i y
  | [], i, y, x, h => by simp [nth] at h
  | a :: l, 0, y, x, h => by simp [setL]
  | a :: l, i + 1, y, x, h => by simp only [setL, List.mem_cons]; exact .inr (mem_setL' (by simpa [nth] using h))

theorem split_nth {α : Type} : ∀ {l : List α} {i : Nat} {x : α}, nth l i = some x → ∃ a b, l = a ++ x :: b ∧ ∀ y, setL l i y = a ++ y :: b
  | [], i, x, h => by simp [nth] at h
  | z :: l, 0, x, h => by simp [nth] at h; subst h; exact ⟨[], l, rfl, fun y => rfl⟩
  | z :: l, i + 1, x, h => by
    obtain ⟨a, b, h1, h2⟩ := split_nth (l := l) (i := i) (x := x) (by simpa [nth] using h)
    exact ⟨z :: a, b, by rw [h1]; rfl, fun y => by simp [setL, h2]⟩

/-- One thing that is said of blocks gives way to another one, whose blocks are its own or new. -/
theorem WOk.setSeg {S : Base} {bx : Bx} {hp : List Seg} {w w' : World} (h : WOk S bx hp w) {j : Nat} {s s' : Seg} (hj : nth hp j = some s) (he : Ext s.keys w w') (hok : s'.ok w') (hnd : s'.keys.Nodup)
    (hk : ∀ k, k ∈ s'.keys → (k ∈ s.keys ∨ w.heap.size ≤ k) ∧ k < w'.heap.size) : WOk S bx (setL hp j s') w' := by
  obtain ⟨a, b, h1, h2⟩ := split_nth hj
  have hp1 : hp.Perm ([s] ++ (a ++ b)) := by rw [h1]; exact List.perm_middle
  have hp2 : (setL hp j s').Perm ([s'] ++ (a ++ b)) := by rw [h2]; exact List.perm_middle
  have hown : Own [] [s'] w' := ⟨by simpa [kys] using hnd, fun k hk' => (hk k (by simpa [kys] using hk')).2, by simp, fun x hx => by simp at hx; subst hx; exact hok⟩
  have hj' := h.join (bm := []) (br := bx) (hm := [s]) (hr := a ++ b) (bx' := []) (hp' := [s']) (List.Perm.refl _) hp1 (by simpa [kys] using he) hown (fun k hk' => by
    have := (hk k (by simpa [kys] using hk')).1
    simpa [kys] using this)
  have hkp : (kys bx (setL hp j s')).Perm (kys bx ([s'] ++ (a ++ b))) := by unfold kys; exact List.Perm.append (List.Perm.refl _) (hp2.flatMap_right (·.keys))
  exact ⟨hj'.ext, hkp.nodup_iff.2 hj'.nd, fun k hk' => hj'.lt k (hkp.mem_iff.1 hk'), fun k hk' => hj'.own k (hkp.mem_iff.1 hk'), hj'.bx, fun x hx => hj'.hp x (hp2.mem_iff.1 hx)⟩

/-- A new thing that is said of a new block. -/
theorem WOk.newSeg {S : Base} {bx : Bx} {hp : List Seg} {w w' : World} (h : WOk S bx hp w) {s' : Seg} (he : Ext [] w w') (hok : s'.ok w') (hnd : s'.keys.Nodup) (hk : ∀ k, k ∈ s'.keys → w.heap.size ≤ k ∧ k < w'.heap.size) :
    WOk S bx (s' :: hp) w' := by
  have hown : Own [] [s'] w' := ⟨by simpa [kys] using hnd, fun k hk' => (hk k (by simpa [kys] using hk')).2, by simp, fun x hx => by simp at hx; subst hx; exact hok⟩
  exact h.join (bm := []) (br := bx) (hm := []) (hr := hp) (bx' := []) (hp' := [s']) (List.Perm.refl _) (List.Perm.refl _) he hown (fun k hk' => .inr (hk k (by simpa [kys] using hk')).1)

/-- Cells stored one by one into a row, no cell of which is frozen. -/
theorem run_storeCells_fr {P : Program} (g o : Nat) (t : TypeId) (fr : Nat × Nat) : ∀ (vs : List Value) (i : Nat) (cur : Array Value) (w : World), w.heap[g]? = some (.cells cur t fr) → (fr = (0, 0) ∨ cur.size ≤ fr.1) →
    o + i + vs.length ≤ cur.size → (∀ v ∈ vs, v.oneCell' = true) →
    (storeCells ⟨g, o, none⟩ vs i).run P w = .ok () (w.setRow g (cur.toList.take (o + i) ++ vs ++ cur.toList.drop (o + i + vs.length)).toArray)
  | [], i, cur, w, hg, _, _, _ => by
    simp only [storeCells, List.append_nil, List.length_nil, Nat.add_zero, List.take_append_drop, Array.toArray_toList]
    rw [setRow_self w g cur t fr hg]
    rfl
  | v :: rest, i, cur, w, hg, hfr, hl, h1 => by
    have hi : o + i < cur.size := by simp at hl; omega
    have hadd : (⟨g, o, none⟩ : Addr).add i = ⟨g, o + i, none⟩ := by unfold Addr.add; split <;> simp_all
    have hcell : w.cell? ⟨g, o + i, none⟩ = some cur[o + i] := by simp [World.cell?, hg, hi]
    have hfro : w.frozen? ⟨g, o + i, none⟩ = false := by
      simp only [World.frozen?, hg]
      rcases hfr with rfl | hfr
      · simp
      · simp; omega
    have hst : (store ((⟨g, o, none⟩ : Addr).add i) v).run P w = .ok () (w.setRow g (cur.setIfInBounds (o + i) v)) := by
      rw [hadd, run_store P w _ v _ (h1 v (by simp)), hcell]
      simp [hfro, setCell_eq_setRow w g (o + i) cur t fr v hg]
    have ih := run_storeCells_fr (P := P) g o t fr rest (i + 1) (cur.setIfInBounds (o + i) v) (w.setRow g (cur.setIfInBounds (o + i) v)) (setRow_heap w g cur _ t _ hg) (by simpa using hfr) (by simp at hl ⊢; omega) (fun x hx => h1 x (by simp [hx]))
    simp only [storeCells, Sem.run_bind, hst, Result.andThen_ok, ih, setRow_setRow]
    congr 3
    have e := list_seg_step cur.toList (o + i) v rest (by simp at hl ⊢; omega)
    simpa [Array.toList_setIfInBounds, Nat.add_assoc] using e

theorem ext_setRow (w : World) (g : Nat) (cs : Array Value) : Ext [g] w (w.setRow g cs) := ⟨rfl, rfl, rfl, by simp, fun k _ hk => setRow_other w g k cs (by simpa using hk)⟩
theorem ext_new (w : World) (o : Obj) (m : List Nat) : Ext m w (w.drew.alloc o) := ⟨rfl, rfl, rfl, by simp, fun k hk _ => RowKit.Below.heap_alloc w.drew o k hk⟩

set_option maxHeartbeats 1000000 in
/-- APPEND to a row: there is room, or it moves. -/
theorem run_append_row {P : Program} {w : World} {t ty e u : TypeId} {i : TypeInfo} {z : Value} {a : Option Nat} {sz n cap m : Nat} {xs news : List Value} {x : Value}
    (ht : P.underlying t = some (.slice e)) (hi : P.info? e = some i) (hz : i.zero = some z) (hsz : i.size = sz) (hzs : z.cells.size = sz)
    (hu : P.underlying u = some (.slice e) ∨ P.underlying u = some .string)
    (hrow : rowOk w a e sz n cap xs) (hx : ∀ w', w'.heap = w.heap → (Builtin.lenOf x).run P w' = .ok m w' ∧ (Builtin.firstCells sz m x).run P w' = .ok news.toArray w') (hl : news.length = m * sz) (h1 : ∀ v, v ∈ news → v.oneCell' = true)
    (h63 : n + m ≤ 9223372036854775807) (hb : (n + m) * i.bytes ≤ 140737488355328) :
    ∃ a' cap' w', (Builtin.append_ #[t, u] ty #[sv a n cap, x]).run P w = .ok (sv a' (n + m) cap') w' ∧ rowOk w' a' e sz (n + m) cap' (xs ++ news) ∧ Ext a.toList w w' ∧ (∀ k, k ∈ a'.toList → (k ∈ a.toList ∨ w.heap.size ≤ k) ∧ k < w'.heap.size) := by
  obtain ⟨hlen, hmo⟩ := hx w rfl
  have hxl : (xs ++ news).length = (n + m) * sz := by rw [List.length_append, hrow.len, hl, Nat.add_mul]
  by_cases hroom : n + m ≤ cap
  · cases a with
    | none =>
      have hc0 := hrow.nil rfl
      have hn0 : n = 0 := by have := hrow.le; omega
      have hm0 : m = 0 := by omega
      subst hc0; subst hn0; subst hm0
      have hnn : news = [] := List.eq_nil_of_length_eq_zero (by simpa using hl)
      have hxn : xs = [] := List.eq_nil_of_length_eq_zero (by simpa using hrow.len)
      subst hnn; subst hxn
      refine ⟨none, 0, w, ?_, hrow, Ext.refl _ _, by simp⟩
      rcases hu with hd | hd <;> (simp [Builtin.append_, sv, run_underlying ht, run_underlying hd, sizeOf, typeInfo, hi, hsz, hlen, hmo])
    | some g =>
      obtain ⟨cur, fr, hg, hcs, htk, hfr⟩ := hrow.blk g rfl
      have hfit : n * sz + news.length ≤ cur.size := by rw [hl, hcs, ← Nat.add_mul]; exact Nat.mul_le_mul_right _ hroom
      have hst := run_storeCells_fr (P := P) g (n * sz) e fr news 0 cur w hg hfr (by simpa using hfit) h1
      simp only [Nat.add_zero] at hst
      refine ⟨some g, cap, w.setRow g (cur.toList.take (n * sz) ++ news ++ cur.toList.drop (n * sz + news.length)).toArray, ?_, ?_, ext_setRow _ _ _, ?_⟩
      · rcases hu with hd | hd <;> (simp [Builtin.append_, sv, run_underlying ht, run_underlying hd, sizeOf, typeInfo, hi, hsz, hlen, hmo, hroom, Addr.add_lit, hst])
      · refine ⟨hxl, hroom, hrow.max, by simp, fun g' hg' => ?_⟩
        cases hg'
        refine ⟨_, fr, setRow_heap w g cur _ e fr hg, ?_, ?_, ?_⟩
        · simp only [List.size_toArray, List.length_append, List.length_take, List.length_drop, Array.length_toList]; omega
        · simp only [List.append_assoc]
          rw [htk, ← List.append_assoc, ← hxl]
          exact List.take_left
        · rcases hfr with h | h
          · exact .inl h
          · refine .inr ?_
            simp only [List.size_toArray, List.length_append, List.length_take, List.length_drop, Array.length_toList]; omega
      · intro k hk
        simp only [Option.toList_some, List.mem_singleton] at hk
        subst hk
        have := (Array.getElem?_eq_some_iff.1 hg).1
        exact ⟨.inl (by simp), by simpa using this⟩
  · have hm0 : 0 < m := by have := hrow.le; omega
    have hge := grownCap_ge w (n + m) cap e
    have hcm : grownCap w (n + m) cap e ≤ 9223372036854775807 := grownCap_le_maxLen w (n + m) cap e h63
    obtain ⟨hlen', hmo'⟩ := hx w.drew rfl
    have hold : (Builtin.firstCells sz n (sv a n cap)).run P w.drew = .ok xs.toArray w.drew := by
      cases a with
      | none =>
        have hc0 := hrow.nil rfl
        have hn0 : n = 0 := by have := hrow.le; omega
        subst hn0
        have hxn : xs = [] := List.eq_nil_of_length_eq_zero (by simpa using hrow.len)
        subst hxn
        rfl
      | some g => exact run_firstCells_some w.drew sz n ⟨g, 0, none⟩ n cap xs hrow.len (fun j v hv => by rw [Addr.add_lit, Nat.zero_add]; exact hrow.cell hv)
    have hfits : ¬ (Builtin.nextslicecap (n + m) cap * i.bytes > 2 ^ 48) := by
      have := growslice_fits (old := cap) (need := n + m) (by omega) hb
      omega
    refine ⟨some w.heap.size, grownCap w (n + m) cap e, w.drew.alloc (.cells (xs.toArray ++ news.toArray ++ Builtin.zeroCells z.cells (grownCap w (n + m) cap e - (n + m))) e), ?_, ?_, ext_new _ _ _, ?_⟩
    · have hsv : ∃ ad, sv a n cap = .slice ad n cap := by cases a <;> exact ⟨_, rfl⟩
      obtain ⟨ad, had⟩ := hsv
      rw [had] at hold ⊢
      have h63' : ¬ (9223372036854775807 < ((n : Int) + (m : Int))) := by omega
      have h48' : ¬ (281474976710656 < Builtin.nextslicecap (n + m) cap * i.bytes) := by omega
      rcases hu with hd | hd <;> (simp [Builtin.append_, run_underlying ht, run_underlying hd, sizeOf, typeInfo, zeroValue, hi, hz, hsz, hlen, hroom, h63', h48', Question.forced, hold, hmo', newRow, grownCap, sv]; congr 2; apply Array.ext'; simp [List.append_assoc])
    · refine ⟨hxl, hge, hcm, by simp, fun g' hg' => ?_⟩
      cases hg'
      refine ⟨_, (0, 0), heap_alloc_new w.drew _, ?_, ?_, .inl rfl⟩
      · simp only [Array.size_append, List.size_toArray, size_zeroCells, hzs, hrow.len, hl, ← Nat.add_mul]
        congr 1
        omega
      · simp only [Array.toList_append]
        rw [← hxl]
        exact List.take_left
    · intro k hk
      simp only [Option.toList_some, List.mem_singleton] at hk
      subst hk
      exact ⟨.inr (Nat.le_refl _), by simp⟩
def infoL (P : Program) (e : TypeId) : Option (Nat × Nat × Nat) := match P.info? e with
  | some i => match i.zero with
    | some z => match z with
      | .agg ⟨l⟩ => some (i.size, i.bytes, l.length)
      | .tuple _ => none
      | _ => some (i.size, i.bytes, 1)
    | none => none
  | none => none
theorem infoL_ok {P : Program} {e : TypeId} {a b c : Nat} (h : infoL P e = some (a, b, c)) : ∃ i z, P.info? e = some i ∧ i.zero = some z ∧ i.size = a ∧ i.bytes = b ∧ z.cells.size = c := by
  unfold infoL at h
  split at h
  · rename_i i hi
    split at h
    · rename_i z hz
      refine ⟨i, z, hi, hz, ?_⟩
      split at h
      · simp only [Option.some.injEq, Prod.mk.injEq] at h
        exact ⟨h.1, h.2.1, by simpa [Value.cells] using h.2.2⟩
      · cases h
      · rename_i hna _
        simp only [Option.some.injEq, Prod.mk.injEq] at h
        refine ⟨h.1, h.2.1, ?_⟩
        rw [← h.2.2]
        cases z <;> first | rfl | exact (hna _ rfl).elim
    · cases h
  · cases h

/-- A slice type's element. -/
def elT (P : Program) (t : TypeId) : Option TypeId := match P.underlying t with
  | some (.slice e) => some e
  | _ => none
theorem elT_ok {P : Program} {t e : TypeId} (h : elT P t = some e) : P.underlying t = some (.slice e) := by
  unfold elT at h
  split at h
  · rename_i u hu; cases h; exact hu
  · cases h
def isStrT (P : Program) (t : TypeId) : Bool := match P.underlying t with
  | some .string => true
  | _ => false
theorem isStrT_ok {P : Program} {t : TypeId} (h : isStrT P t = true) : P.underlying t = some .string := by
  unfold isStrT at h
  split at h
  · assumption
  · cases h

def appOf : Op → Option (Operand × Operand × TypeId × TypeId)
  | .call c => match c.callee with
    | .builtin .append => match c.args.toList with
      | [x, y] => match c.argTypes.toList with
        | [t, u] => some (x, y, t, u)
        | _ => none
      | _ => none
    | _ => none
  | _ => none

theorem appOf_ok {P : Program} {o : Oper} {x y : Operand} {t u : TypeId} (h : appOf o.op = some (x, y, t, u)) {ρ : Operand → Value} {w : World} :
    (execOp ρ o).run P w = ((Builtin.append_ #[t, u] o.type #[ρ x, ρ y]).run P w).andThen fun v w' => .ok (.value v) w' := by
  unfold appOf at h
  split at h
  · rename_i c hop
    split at h
    · rename_i hc
      split at h
      · rename_i x' y' hx
        split at h
        · rename_i t' u' ht
          simp only [Option.some.injEq, Prod.mk.injEq] at h
          obtain ⟨rfl, rfl, rfl, rfl⟩ := h
          have e1 : c.args.map ρ = #[ρ x', ρ y'] := by apply Array.ext'; simp [hx]
          have e2 : c.argTypes = #[t', u'] := by apply Array.ext'; simp [ht]
          simp only [execOp, hop, resolve, hc, Sem.run_bind, Sem.run_pure, Result.andThen_ok, invoke, builtin, e1, e2]
        · cases h
      · cases h
    · cases h
  · cases h

theorem lenOf_slice {P : Program} {w : World} (a : Option Addr) (n c : Nat) : (Builtin.lenOf (.slice a n c)).run P w = .ok n w := rfl

/-- append(s, x...): s a row, x a slice whose cells are known. -/
theorem OpOk.append {C : Ctx} {env : Env} {bx : Bx} {hp : List Seg} {S : Base} {o : Oper} {K : Value → Bx → List Seg → Prop} {x y : Operand} {t u e : TypeId} {a : Option Nat} {n cap m c2 b2 o2 : Nat} {xs : List Value} (j sz by_ : Nat) (news : List Value)
    (ho : appOf o.op = some (x, y, t, u)) (ht : elT C.P t = some e) (hu : elT C.P u = some e) (hi : infoL C.P e = some (sz, by_, sz)) (hj : nth hp j = some (Seg.row a e sz n cap xs)) (hx : Env.ev env x = some (sv a n cap))
    (hy : Env.ev env y = some (.slice (some ⟨b2, o2, none⟩) m c2)) (hrd : RdW S bx hp b2 o2 news) (hl : news.length = m * sz) (h1 : ∀ v, v ∈ news → v.oneCell' = true)
    (h63 : n + m ≤ 9223372036854775807) (hb : (n + m) * by_ ≤ 140737488355328)
    (hk : ∀ a' cap', K (sv a' (n + m) cap') bx (setL hp j (Seg.row a' e sz (n + m) cap' (xs ++ news)))) : OpOk C o env bx hp S K := by
  intro w hw ρ hρ
  obtain ⟨i, z, hi1, hz, hs1, hs2, hs3⟩ := infoL_ok hi
  have hrow : rowOk w a e sz n cap xs := hw.hp _ (nth_mem hj)
  obtain ⟨a', cap', w', hr, hrow', hext, hkk⟩ := run_append_row (P := C.P) (w := w) (ty := o.type) (u := u) (x := .slice (some ⟨b2, o2, none⟩) m c2) (m := m) (news := news) (elT_ok ht) hi1 hz hs1 hs3 (.inl (elT_ok hu)) hrow
    (fun w1 hw1 => ⟨rfl, run_firstCells_some w1 sz m ⟨b2, o2, none⟩ m c2 news hl (fun j v hv => by
      rw [Addr.add_lit]
      have := hrd w hw j v hv
      rw [← this]; exact World.cell?_of_block (by rw [hw1]))⟩) hl h1 h63 (by rw [hs2]; exact hb)
  refine .inl ⟨sv a' (n + m) cap', w', bx, _, .inl ?_, hw.setSeg hj hext hrow' (by cases a' <;> simp [Seg.row]) hkk, hk a' cap'⟩
  rw [appOf_ok ho, hρ _ _ hx, hρ _ _ hy, hr]; rfl

def u8s (l : List UInt8) : List Value := l.map fun b => .int .u8 (b.toNat : Int)
theorem u8s_len (l : List UInt8) : (u8s l).length = l.length := by simp [u8s]
theorem u8s_append (l m : List UInt8) : u8s (l ++ m) = u8s l ++ u8s m := by simp [u8s]
theorem u8s_single {n : Nat} {x : Int} (hx : x = (n : Int)) (hn : n < 256) : u8s [UInt8.ofNat n] = [.int .u8 x] := by
  subst hx; simp [u8s]; omega
theorem u8s_one (l : List UInt8) : ∀ v, v ∈ u8s l → v.oneCell' = true := by
  intro v hv
  simp only [u8s, List.mem_map] at hv
  obtain ⟨b, _, rfl⟩ := hv
  rfl

/-- append(s, x...): s a row of bytes, x a string. -/
theorem OpOk.appendStr {C : Ctx} {env : Env} {bx : Bx} {hp : List Seg} {S : Base} {o : Oper} {K : Value → Bx → List Seg → Prop} {x y : Operand} {t u e : TypeId} {a : Option Nat} {n cap : Nat} {xs : List Value} {s : ByteArray} (j : Nat)
    (ho : appOf o.op = some (x, y, t, u)) (ht : elT C.P t = some e) (hu : isStrT C.P u = true) (hi : infoL C.P e = some (1, 1, 1)) (hj : nth hp j = some (Seg.row a e 1 n cap xs)) (hx : Env.ev env x = some (sv a n cap))
    (hy : Env.ev env y = some (.string s)) (hb : n + (bl s).length ≤ 140737488355328)
    (hk : ∀ a' cap', K (sv a' (n + (bl s).length) cap') bx (setL hp j (Seg.row a' e 1 (n + (bl s).length) cap' (xs ++ u8s (bl s))))) : OpOk C o env bx hp S K := by
  intro w hw ρ hρ
  obtain ⟨i, z, hi1, hz, hs1, hs2, hs3⟩ := infoL_ok hi
  have hrow : rowOk w a e 1 n cap xs := hw.hp _ (nth_mem hj)
  obtain ⟨a', cap', w', hr, hrow', hext, hkk⟩ := run_append_row (P := C.P) (w := w) (ty := o.type) (u := u) (x := .string s) (m := (bl s).length) (news := u8s (bl s)) (elT_ok ht) hi1 hz hs1 hs3 (.inr (isStrT_ok hu)) hrow
    (fun w1 hw1 => ⟨by simp [Builtin.lenOf, size_bl], by
      simp only [Builtin.firstCells, Sem.run_pure]
      congr 1
      rw [← size_bl]
      have : s.extract 0 s.size = s := by rw [extract_str]; simp [size_bl, mk_bl]
      rw [this]
      apply Array.ext'
      simp [u8s, bl]⟩) (by simp [u8s]) (u8s_one _) (by omega) (by rw [hs2]; omega)
  refine .inl ⟨sv a' _ cap', w', bx, _, .inl ?_, hw.setSeg hj hext hrow' (by cases a' <;> simp [Seg.row]) hkk, hk a' cap'⟩
  rw [appOf_ok ho, hρ _ _ hx, hρ _ _ hy, hr]; rfl

/-- string(b), b a row of bytes. -/
theorem OpOk.toStr {C : Ctx} {env : Env} {bx : Bx} {hp : List Seg} {S : Base} {o : Oper} {K : Value → Bx → List Seg → Prop} {s d e : TypeId} {x : Operand} {a : Option Nat} {n cap : Nat} (j : Nat) {l : List UInt8}
    (ho : o.op = .convert s d x) (hs : elT C.P s = some e) (he : (match C.P.underlying e with | some (.int .u8) => true | _ => false) = true) (hd : isStrT C.P d = true) (hj : nth hp j = some (Seg.row a e 1 n cap (u8s l))) (hx : Env.ev env x = some (sv a n cap))
    (hk : K (str l) bx hp) : OpOk C o env bx hp S K := by
  intro w hw ρ hρ
  have hrow : rowOk w a e 1 n cap (u8s l) := hw.hp _ (nth_mem hj)
  have hn : n = l.length := by have := hrow.len; simp [u8s] at this; omega
  have he' : C.P.underlying e = some (.int .u8) := by
    split at he
    · assumption
    · cases he
  refine .inl ⟨str l, w, bx, hp, .inl ?_, hw, hk⟩
  cases a with
  | none =>
    have hl : l = [] := by have h1 := hrow.nil rfl; have h2 := hrow.le; exact List.eq_nil_of_length_eq_zero (by omega)
    subst hl
    have hc : (convert s d (.slice none n cap)).run C.P w = .ok (str []) w := by
      rw [run_convert_bytes_string w s d e none n cap (elT_ok hs) he' (isStrT_ok hd)]; rfl
    simp [execOp, ho, hρ _ _ hx, sv, hc]
  | some g =>
    subst hn
    have hc := run_convert_bytes_back (P := C.P) w s d e ⟨g, 0, none⟩ cap l (elT_ok hs) he' (isStrT_ok hd) (fun j hj => by
      rw [Addr.add_lit, Nat.zero_add]
      exact hrow.cell (by simp [u8s, List.getElem?_eq_getElem hj]))
    simp [execOp, ho, hρ _ _ hx, sv, hc, str]

/-- string(b), b's bytes found by loads. -/
theorem OpOk.toStrR {C : Ctx} {env : Env} {bx : Bx} {hp : List Seg} {S : Base} {o : Oper} {K : Value → Bx → List Seg → Prop} {s d e : TypeId} {x : Operand} {b off n c : Nat} (l : List UInt8)
    (ho : o.op = .convert s d x) (hs : elT C.P s = some e) (he : (match C.P.underlying e with | some (.int .u8) => true | _ => false) = true) (hd : isStrT C.P d = true) (hx : Env.ev env x = some (.slice (some ⟨b, off, none⟩) n c)) (hn : n = l.length)
    (hrd : RdW S bx hp b off (u8s l)) (hk : K (str l) bx hp) : OpOk C o env bx hp S K := by
  intro w hw ρ hρ
  have he' : C.P.underlying e = some (.int .u8) := by
    split at he
    · assumption
    · cases he
  refine .inl ⟨str l, w, bx, hp, .inl ?_, hw, hk⟩
  subst hn
  have hc := run_convert_bytes_back (P := C.P) w s d e ⟨b, off, none⟩ c l (elT_ok hs) he' (isStrT_ok hd) (fun j hj => by
    rw [Addr.add_lit]
    exact hrd w hw j _ (by simp [u8s, List.getElem?_eq_getElem hj]))
  simp [execOp, ho, hρ _ _ hx, hc, str]

theorem RdW.blk {S : Base} {bx : Bx} {hp : List Seg} {i b t off : Nat} {l cs : List Value} (h : nth bx i = some (b, t, l)) (hcs : ∀ j u, cs[j]? = some u → l[off + j]? = some u) : RdW S bx hp b off cs :=
  fun w hw j u hu => by
    have := hw.bx _ (nth_mem h)
    simp [World.cell?, this, hcs j u hu]
theorem RdW.blk0 {S : Base} {bx : Bx} {hp : List Seg} {i b t : Nat} {l : List Value} (h : nth bx i = some (b, t, l)) : RdW S bx hp b 0 l := RdW.blk h (fun j u hu => by simpa using hu)

/-- []byte(s). -/
theorem OpOk.toBytes {C : Ctx} {env : Env} {bx : Bx} {hp : List Seg} {S : Base} {o : Oper} {K : Value → Bx → List Seg → Prop} {s d e : TypeId} {x : Operand} {b : ByteArray}
    (ho : o.op = .convert s d x) (hs : isStrT C.P s = true) (hd : elT C.P d = some e) (he : (match C.P.underlying e with | some (.int .u8) => true | _ => false) = true) (hx : Env.ev env x = some (.string b))
    (hb : (bl b).length ≤ 9223372036854775807)
    (hk : ∀ g cap, K (sv (some g) (bl b).length cap) bx (Seg.row (some g) e 1 (bl b).length cap (u8s (bl b)) :: hp)) : OpOk C o env bx hp S K := by
  intro w hw ρ hρ
  have he' : C.P.underlying e = some (.int .u8) := by
    split at he
    · assumption
    · cases he
  have hc := run_bytes_of_string (P := C.P) w s d e b (isStrT_ok hs) (elT_ok hd) he'
  have hge := grownCap_ge w b.size 0 e
  have hcm : grownCap w b.size 0 e ≤ 9223372036854775807 := grownCap_le_maxLen w b.size 0 e (by rw [size_bl]; exact hb)
  have hz : (bytesRow b (grownCap w b.size 0 e)).size = grownCap w b.size 0 e := by
    simp [bytesRow]
    have : b.data.size = b.size := rfl
    omega
  refine .inl ⟨sv (some w.heap.size) (bl b).length (grownCap w b.size 0 e), w.drew.alloc (.cells (bytesRow b (grownCap w b.size 0 e)) e ((bytesRow b (grownCap w b.size 0 e)).size, (bytesRow b (grownCap w b.size 0 e)).size + 1)), bx, _, .inl ?_, hw.newSeg (s' := Seg.row (some w.heap.size) e 1 (bl b).length (grownCap w b.size 0 e) (u8s (bl b))) (ext_new w _ _) ?_ (by simp [Seg.row]) ?_, hk _ _⟩
  · simp only [execOp, ho, hρ _ _ hx, Sem.run_bind, hc, Result.andThen_ok, Sem.run_pure, sv, size_bl, svA_some]
  · refine ⟨by simp [u8s], by rw [← size_bl]; exact hge, hcm, by simp, fun g hg => ?_⟩
    cases hg
    refine ⟨_, _, heap_alloc_new w.drew _, by rw [hz]; omega, ?_, .inr (by simp)⟩
    simp [bytesRow, u8s, bl]
  · intro k hk'
    simp only [Seg.row, Option.toList_some, List.mem_singleton] at hk'
    subst hk'
    exact ⟨Nat.le_refl _, by simp⟩

/-- A nil slice is a row of nothing. -/
theorem At.nilRow {C : Ctx} {x : Loc} {df : List Deferred} {env : Env} {bx : Bx} {hp : List Seg} {S : Base} (t sz : Nat) (hk : At C x df env bx (Seg.row none t sz 0 0 [] :: hp) S) : At C x df env bx hp S := by
  intro w hw
  refine hk w (hw.newSeg (Ext.refl _ _) ⟨by simp, by simp, by simp, fun _ => rfl, fun g hg => by cases hg⟩ (by simp [Seg.row]) (by simp [Seg.row]))

def bldOf : Op → Option (TypeId × Nat × List (Nat × Operand))
  | .buildSlice t n ps => some (t, n, ps.toList)
  | _ => none
def baseL (z : List Value) (n : Nat) : List Value := (List.range n).map fun i => (nth z (i % z.length)).getD default
def zeroC (P : Program) (e : TypeId) : Option (List Value × Nat) := match P.info? e with
  | some i => match i.zero with
    | some z => match z with
      | .agg ⟨l⟩ => some (l, i.size)
      | .tuple _ => none
      | v => some ([v], i.size)
    | none => none
  | none => none
theorem zeroC_ok {P : Program} {t : TypeId} {l : List Value} {sz : Nat} {w : World} (h : zeroC P t = some (l, sz)) : ∃ z, (zeroValue t).run P w = .ok z w ∧ z.cells = ⟨l⟩ ∧ (sizeOf t).run P w = .ok sz w := by
  unfold zeroC at h
  split at h
  · rename_i i hi
    split at h
    · rename_i z hz
      refine ⟨z, by simp [zeroValue, typeInfo, hi, hz], ?_⟩
      split at h
      · simp only [Option.some.injEq, Prod.mk.injEq] at h
        exact ⟨by rw [← h.1]; rfl, by simp [sizeOf, typeInfo, hi, h.2]⟩
      · cases h
      · rename_i hna _
        simp only [Option.some.injEq, Prod.mk.injEq] at h
        refine ⟨?_, by simp [sizeOf, typeInfo, hi, h.2]⟩
        rw [← h.1]
        cases z <;> first | rfl | exact (hna _ rfl).elim
    · cases h
  · cases h

/-- A slice literal: a new block. -/
theorem OpOk.buildSlice {C : Ctx} {env : Env} {bx : Bx} {hp : List Seg} {S : Base} {o : Oper} {K : Value → Bx → List Seg → Prop} {t e : TypeId} {len sz : Nat} {ps : List (Nat × Operand)} {vs : List (Nat × Value)} {z cs : List Value}
    (ho : bldOf o.op = some (t, len, ps)) (ht : elT C.P t = some e) (hz : zeroC C.P e = some (z, sz)) (hlim : Nat.ble (len * sz) 16777216 = true) (hpos : Nat.ble 1 (len * sz) = true) (hv : evp env ps = some vs)
    (hf : (match pFill (fun i => some (i * sz, sz)) (baseL z (len * sz)) vs with | some l => forceL l fun l => some l | none => none) = some cs)
    (hk : ∀ b, S.w0.heap.size ≤ b → K (.slice (some ⟨b, 0, none⟩) len len) ((b, e, cs) :: bx) hp) : OpOk C o env bx hp S K := by
  intro w hw ρ hρ
  obtain ⟨zv, hz1, hz2, hz3⟩ := zeroC_ok (w := w) hz
  have hf' : pFill (fun i => some (i * sz, sz)) (baseL z (len * sz)) vs = some cs := by
    split at hf
    · rename_i l hl; rw [forceL_eq] at hf; rw [hl]; exact hf
    · cases hf
  have hfill := pFill_ok hf'
  have hop : ∃ pa : Array (Nat × Operand), o.op = .buildSlice t len pa ∧ pa.toList = ps := by
    unfold bldOf at ho
    split at ho
    · rename_i t' n' pa hop
      simp only [Option.some.injEq, Prod.mk.injEq] at ho
      obtain ⟨rfl, rfl, rfl⟩ := ho
      exact ⟨pa, hop, rfl⟩
    · cases ho
  obtain ⟨pa, hop, hpa⟩ := hop
  have hparts : pa.map (fun (i, x) => (i, ρ x)) = ⟨vs⟩ := by apply Array.ext'; simpa [hpa] using evp_ok hρ hv
  have hbase : (Array.range (len * sz)).map (fun i => zv.cells[i % zv.cells.size]!) = ⟨baseL z (len * sz)⟩ := by
    apply Array.ext'
    simp only [Array.toList_map, Array.toList_range, baseL]
    apply List.map_congr_left
    intro i _
    rw [hz2, nth_eq]
    simp [Array.getElem!_eq_getD, Array.getD_eq_getD_getElem?]
  have hlim' := Nat.le_of_ble_eq_true hlim
  have hpos' := Nat.le_of_ble_eq_true hpos
  refine .inl ⟨.slice (some ⟨w.heap.size, 0, none⟩) len len, w.alloc (.cells cs.toArray e), _, _, .inl ?_, hw.newBlk rfl rfl rfl (by simp) (heap_alloc_new w _) (fun k hk => RowKit.Below.heap_alloc w _ k hk), hk w.heap.size hw.ext.size⟩
  have h1 : ¬ (len * sz > 2 ^ 24) := by omega
  have h2 : ¬ (len * sz = 0) := by omega
  simp only [execOp, hop, Instr.buildSlice, Sem.run_bind, run_underlying (elT_ok ht), Result.andThen_ok, hz3, h1, h2, if_false, hz1, Sem.run_pure, hparts, hbase, hfill]
  simp [newRow]

/-- append(s, x): a slice literal of one element, and the append behind it. -/
theorem At.append1 {C : Ctx} {p l : List Nat} {i i' : Nat} {df : List Deferred} {env : Env} {bx : Bx} {hp : List Seg} {S : Base} {o1 o2 : Oper} {ob1 ob2 : Prop} {x : Operand} {t e d1 d2 : Nat} {a : Option Nat} {n cap : Nat} {xs : List Value}
    {ps : List (Nat × Operand)} {vs : List (Nat × Value)} {z cs : List Value} (j sz by_ : Nat)
    (ho1 : opAt C.body p i = some o1) (ho2 : opAt C.body p i' = some o2) (hd1 : o1.dst = some d1) (hd2 : o2.dst = some d2) (hb1 : bldOf o1.op = some (t, 1, ps)) (ha2 : appOf o2.op = some (x, .tmp d1, t, t)) (hf1 : fits C.nt o1.dst = true) (hf2 : fits C.nt o2.dst = true)
    (hg1 : guardAt C.body p o1 [] env = some ob1) (hob1 : ob1) (hg2 : ∀ v, guardAt C.body p o2 [] ((d1, v) :: env) = some ob2) (hob2 : ob2)
    (ht : elT C.P t = some e) (hz : zeroC C.P e = some (z, sz)) (hi : infoL C.P e = some (sz, by_, sz)) (hpos : (Nat.ble 1 sz && Nat.ble sz 16777216) = true)
    (hv : evp env ps = some vs) (hf : (match pFill (fun i => some (i * sz, sz)) (baseL z (1 * sz)) vs with | some l => forceL l fun l => some l | none => none) = some cs) (hcl : Nat.beq cs.length sz = true)
    (hj : nth hp j = some (Seg.row a e sz n cap xs)) (hx : ∀ v, Env.ev ((d1, v) :: env) x = some (sv a n cap)) (h1 : ∀ v, v ∈ cs → v.oneCell' = true)
    (h63 : n + 1 ≤ 9223372036854775807) (hb : (n + 1) * by_ ≤ 140737488355328)
    (hk : ∀ b a' cap', At C ⟨3, p, l⟩ df ((d2, sv a' (n + 1) cap') :: (d1, .slice (some ⟨b, 0, none⟩) 1 1) :: env) bx (setL hp j (Seg.row a' e sz (n + 1) cap' (xs ++ cs))) S) : At C ⟨3, p, i :: i' :: l⟩ df env bx hp S := by
  simp only [Bool.and_eq_true, Nat.ble_eq] at hpos
  rw [hd1] at hf1
  rw [hd2] at hf2
  refine At.step [] ho1 hd1 hf1 ?_ hg1 hob1 (OpOk.buildSlice hb1 ht hz (by simp; omega) (by simp; omega) hv hf (fun b hb' => ?_))
  · unfold bldOf at hb1; split at hb1
    · rename_i hop; rw [hop]; rfl
    · cases hb1
  refine At.step [] ho2 hd2 hf2 ?_ (hg2 _) hob2 (OpOk.append (m := 1) (o2 := 0) (b2 := b) (c2 := 1) j sz by_ cs ha2 ht ht hi hj (hx _) ?_ ?_ ?_ h1 h63 hb (fun a' cap' => ?_))
  · unfold appOf at ha2; split at ha2
    · rename_i hop; rw [hop]; rfl
    · cases ha2
  · simp [Env.ev, Env.get]
  · intro w hw k u hu
    have := hw.bx (b, e, cs) (by simp)
    simp [World.cell?, this, hu]
  · have := Nat.eq_of_beq_eq_true hcl; omega
  · intro w hw
    refine hk b a' cap' w ⟨hw.ext, ?_, fun k hk' => hw.lt k ?_, fun k hk' => hw.own k ?_, fun e he => hw.bx e (by simp [he]), hw.hp⟩
    · have := hw.nd; simp only [kys, List.map_cons, List.cons_append] at this; exact (List.nodup_cons.1 this).2
    · simp only [kys, List.map_cons, List.cons_append]; exact List.mem_cons_of_mem _ hk'
    · simp only [kys, List.map_cons, List.cons_append]; exact List.mem_cons_of_mem _ hk'

/-- What comes to be owed at a round's end or the like, in the form of an equation on numbers. -/
theorem int_eq {k : IntKind} {a b : Int} (h : a = b) : Value.int k a = Value.int k b := by rw [h]
theorem some_int_eq {k : IntKind} {a b : Int} (h : a = b) : some (Value.int k a) = some (Value.int k b) := by rw [h]
theorem sv_eq {a : Option Nat} {n m cap : Nat} (h : n = m) : some (sv a n cap) = some (sv a m cap) := by rw [h]
end Go.Eng

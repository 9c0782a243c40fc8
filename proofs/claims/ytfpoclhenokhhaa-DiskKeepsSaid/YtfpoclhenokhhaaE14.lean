/-
  Engine, part 14: slices that came from elsewhere; stores into rows.
-/
import Derived.Test.YtfpoclhenokhhaaE12
namespace Go.Eng
open Go

theorem some_sv_eq {a : Option Nat} {n m cap : Nat} (h : n = m) : some (sv a n cap) = some (sv a m cap) := by rw [h]
/-- A slice from elsewhere: its cells are xs. -/
def SlOk (w : World) (a : Option Addr) (xs : List Value) : Prop := xs = [] ∨ ∃ b o, a = some ⟨b, o, none⟩ ∧ ∀ j u, xs[j]? = some u → w.cell? ⟨b, o + j, none⟩ = some u
theorem SlOk.nil (w : World) (a : Option Addr) : SlOk w a [] := .inl rfl
theorem SlOk.get {w : World} {a : Option Addr} {xs : List Value} (h : SlOk w a xs) (hne : xs ≠ []) : ∃ b o, a = some ⟨b, o, none⟩ ∧ ∀ j u, xs[j]? = some u → w.cell? ⟨b, o + j, none⟩ = some u := by
  rcases h with h | h
  · exact (hne h).elim
  · exact h
/-- The blocks that it lies in. -/
def slB (a : Option Addr) : List Nat := (a.map (·.block)).toList
theorem SlOk.ext {m : List Nat} {w w' : World} {a : Option Addr} {xs : List Value} (h : SlOk w a xs) (he : Ext m w w') (hm : ∀ k, k ∈ slB a → k ∉ m) : SlOk w' a xs := by
  rcases h with h | ⟨b, o, rfl, h⟩
  · exact .inl h
  · exact .inr ⟨b, o, rfl, fun j u hu => he.cell (h j u hu) (hm b (by simp [slB]))⟩
theorem SlOk.lt {w : World} {a : Option Addr} {xs : List Value} (h : SlOk w a xs) (hne : xs ≠ []) : ∀ k, k ∈ slB a → k < w.heap.size := by
  obtain ⟨b, o, rfl, h2⟩ := h.get hne
  clear h
  intro k hk
  have hk : k = b := by simpa [slB] using hk
  subst hk
  cases hx : xs with
  | nil => exact (hne hx).elim
  | cons x l => exact World.block_lt_of_cell? w ⟨k, o + 0, none⟩ (h2 0 x (by rw [hx]; rfl))
/-- The blocks that are read of it. -/
def slR (a : Option Addr) (xs : List Value) : List Nat := match xs with
  | [] => []
  | _ :: _ => slB a
theorem SlOk.ltR {w : World} {a : Option Addr} {xs : List Value} (h : SlOk w a xs) : ∀ k, k ∈ slR a xs → k < w.heap.size := by
  cases xs with
  | nil => simp [slR]
  | cons x l => exact h.lt (by simp)
theorem mem_slR {g o : Nat} {xs : List Value} (h : xs ≠ []) : g ∈ slR (some ⟨g, o, none⟩) xs := by
  cases xs with
  | nil => exact (h rfl).elim
  | cons x l => simp [slR, slB]
theorem SlOk.row {w : World} {a : Option Nat} {t : TypeId} {sz n cap : Nat} {xs : List Value} (h : rowOk w a t sz n cap xs) : SlOk w (svA a) xs := by
  cases a with
  | none =>
    have h0 := h.nil rfl
    have h1 := h.le
    have h2 := h.len
    left
    apply List.length_eq_zero_iff.1
    rw [h2, show n = 0 by omega, Nat.zero_mul]
  | some g => exact .inr ⟨g, 0, rfl, fun j u hu => by rw [Nat.zero_add]; exact h.cell hu⟩
theorem SlOk.blk {w : World} {b : Nat} {t : TypeId} {cs : List Value} (h : w.heap[b]? = some (.cells cs.toArray t (0, 0))) : SlOk w (svA (some b)) cs :=
  .inr ⟨b, 0, rfl, fun j u hu => by rw [Nat.zero_add]; exact cell_blk h hu⟩
/-- What a load finds there. -/
theorem RdW.sl {S : Base} {bx : Bx} {hp : List Seg} {b o off : Nat} {xs cs : List Value} (h : ∀ j u, xs[j]? = some u → S.w0.cell? ⟨b, o + j, none⟩ = some u) (hm : b ∉ S.mods) (i : Nat) (hoff : off = o + i) (hcs : ∀ j u, cs[j]? = some u → xs[i + j]? = some u) :
    RdW S bx hp b off cs := RdW.base hm fun j u hu => by rw [hoff, Nat.add_assoc]; exact h _ _ (hcs j u hu)

theorem Own.sel {bx bm : Bx} {hp hm : List Seg} {w : World} (h : Own bx hp w) (mb mh : List Bool) (hsel : forceL (selL mb bx) (fun a => forceL (selL mh hp) fun b => (a, b)) = (bm, hm)) : Own bm hm w := by
  simp only [forceL_eq, Prod.mk.injEq] at hsel
  obtain ⟨rfl, rfl⟩ := hsel
  have hp1 := selL_perm mb bx
  have hp2 := selL_perm mh hp
  have hk := kys_perm hp1 hp2
  have hnd := hk.nodup_iff.1 h.nd
  exact ⟨(List.nodup_append.1 hnd).1, fun k hk' => h.lt k (hk.mem_iff.2 (List.mem_append_left _ hk')), fun e he => h.bx e (hp1.mem_iff.2 (List.mem_append_left _ he)), fun e he => h.hp e (hp2.mem_iff.2 (List.mem_append_left _ he))⟩

/-- A CALL: of the known blocks those that the masks name are handed over, as its own. -/
theorem OpOk.callO {C : Ctx} {env : Env} {bx : Bx} {hp : List Seg} {S : Base} {o : Oper} {K : Value → Bx → List Seg → Prop} {f : FuncId} {args : List Value} {Q : Value → Bx → List Seg → Prop} (mb mh : List Bool) {bm br : Bx} {hm hr : List Seg}
    (hcall : callOf env o.op = some (f, args)) (hsel : forceL (selL mb bx) (fun a => forceL (selL mh hp) fun b => forceL (remL mb bx) fun c => forceL (remL mh hp) fun d => (a, b, c, d)) = (bm, hm, br, hr))
    (hc : ∀ w, WOk S bx hp w → Own bm hm w → Tri C.P f args w (kys bm hm) Q) (hk : ∀ v bx' hp', Q v bx' hp' → K v (bx' ++ br) (hp' ++ hr)) : OpOk C o env bx hp S K := by
  refine OpOk.callM mb mh hcall hsel (fun w hw => hc w hw ?_) hk
  simp only [forceL_eq, Prod.mk.injEq] at hsel
  exact hw.toOwn.sel mb mh (by simp only [forceL_eq, Prod.mk.injEq]; exact ⟨hsel.1, hsel.2.1⟩)

/-- What a load finds in a block of the world that the run began in. -/
theorem RdW.blkB {S : Base} {bx : Bx} {hp : List Seg} {b t off : Nat} {l cs : List Value} (hm : b ∉ S.mods) (hb : S.w0.heap[b]? = some (.cells l.toArray t (0, 0))) (hcs : ∀ j u, cs[j]? = some u → l[off + j]? = some u) : RdW S bx hp b off cs :=
  RdW.base hm fun j u hu => cell_blk hb (hcs j u hu)
theorem RdW.blkB1 {S : Base} {bx : Bx} {hp : List Seg} {b t off : Nat} {l : List Value} {v : Value} (hm : b ∉ S.mods) (hb : S.w0.heap[b]? = some (.cells l.toArray t (0, 0))) (hv : l[off]? = some v) : RdW S bx hp b off [v] :=
  RdW.blkB hm hb fun j u hu => by
    match j, hu with
    | 0, hu => simp at hu; subst hu; exact hv

/-- A row that holds something has a block. -/
theorem At.rowSome {C : Ctx} {x : Loc} {df : List Deferred} {env : Env} {bx : Bx} {hp : List Seg} {S : Base} {a : Option Nat} {e sz n cap : Nat} {xs : List Value} (j : Nat) (hj : nth hp j = some (Seg.row a e sz n cap xs)) (hn : 0 < n)
    (hk : ∀ g, a = some g → At C x df env bx hp S) : At C x df env bx hp S := by
  cases a with
  | none =>
    intro w hw
    have hr : rowOk w none e sz n cap xs := hw.hp _ (nth_mem hj)
    have h0 := hr.nil rfl
    have h1 := hr.le
    omega
  | some g => exact hk g rfl

theorem rowOk.set {w : World} {g : Nat} {t : TypeId} {sz n cap off : Nat} {xs l : List Value} (h : rowOk w (some g) t sz n cap xs) (hl : off + l.length ≤ xs.length) {cur : Array Value} {fr : Nat × Nat}
    (h1 : w.heap[g]? = some (.cells cur t fr)) (h2 : cur.size = cap * sz) (h3 : cur.toList.take (n * sz) = xs) (h4 : fr = (0, 0) ∨ cur.size ≤ fr.1) :
    rowOk (w.setRow g (cur.toList.take off ++ l ++ cur.toList.drop (off + l.length)).toArray) (some g) t sz n cap (putL xs off l) := by
  have hle : xs.length ≤ cur.size := by rw [← h3, List.length_take]; simp; omega
  have hlen := h.len
  have hp := putL_eq l xs off hl
  have hsz : (cur.toList.take off ++ l ++ cur.toList.drop (off + l.length)).length = cur.size := by
    simp only [List.length_append, List.length_take, List.length_drop, Array.length_toList]; omega
  refine ⟨?_, h.le, h.max, by simp, fun g' hg' => ?_⟩
  · rw [hp, ← hlen]; simp only [List.length_append, List.length_take, List.length_drop]; omega
  · cases hg'
    refine ⟨_, fr, setRow_heap w g cur _ t _ h1, by simpa using hsz.trans h2, ?_, ?_⟩
    · have ex : ∀ k, k ≤ xs.length → xs.take k = cur.toList.take k := by
        intro k hk
        rw [← h3, List.take_take]; congr 1; omega
      have e1 := ex off (by omega)
      have e2 : xs.drop (off + l.length) = (cur.toList.drop (off + l.length)).take (xs.length - (off + l.length)) := by
        conv => lhs; rw [← h3]
        rw [List.drop_take, ← hlen]
      rw [hp, e1, e2, ← hlen]
      simp only [List.append_assoc]
      rw [List.take_append, List.take_append]
      simp only [List.length_take, Array.length_toList]
      have hs : cur.toList.length = cur.size := Array.length_toList
      rw [List.take_of_length_le (l := cur.toList.take off) (i := xs.length) (by rw [List.length_take]; omega), List.take_of_length_le (l := l) (by omega)]
      congr 3
      omega
    · rcases h4 with h4 | h4
      · exact .inl h4
      · right; simp only [List.size_toArray]; rw [hsz]; exact h4

/-- A store into a row. -/
theorem OpOk.storeRow {C : Ctx} {env : Env} {bx : Bx} {hp : List Seg} {S : Base} {o : Oper} {K : Value → Bx → List Seg → Prop} {t e : TypeId} {x y : Operand} {v : Value} {l xs : List Value} {g off sz n cap : Nat} {ob : Prop} (j : Nat)
    (ho : o.op = .store t x y) (hx : Env.ev env x = some (.pointer (some ⟨g, off, none⟩))) (hy : Env.ev env y = some v) (hc : cellsT C.P t v = some (l, ob)) (hob : ob) (h1 : ∀ v, v ∈ l → v.oneCell' = true)
    (hj : nth hp j = some (Seg.row (some g) e sz n cap xs)) (hl : off + l.length ≤ xs.length)
    (hk : K undef bx (setL hp j (Seg.row (some g) e sz n cap (putL xs off l)))) : OpOk C o env bx hp S K := by
  intro w hw ρ hρ
  have hrow : rowOk w (some g) e sz n cap xs := hw.hp _ (nth_mem hj)
  obtain ⟨cur, fr, h3, h4, h5, h6⟩ := hrow.blk g rfl
  have hle : xs.length ≤ cur.size := by rw [← h5, List.length_take]; simp; omega
  have hst := run_storeCells_fr (P := C.P) g off e fr l 0 cur w h3 h6 (by omega) h1
  simp only [Nat.add_zero] at hst
  have hst2 : (Instr.storeAt t (.pointer (some ⟨g, off, none⟩)) v).run C.P w = .ok () (w.setRow g (cur.toList.take off ++ l ++ cur.toList.drop (off + l.length)).toArray) := by
    unfold cellsT at hc
    split at hc
    · rename_i ha
      split at hc
      · rename_i l'
        split at hc
        · rename_i n' hn
          cases hb' : Nat.beq l'.length n' with
          | false => rw [hb'] at hc; cases hc
          | true =>
            rw [hb'] at hc
            simp only [cond_true, Option.some.injEq, Prod.mk.injEq] at hc
            obtain ⟨rfl, rfl⟩ := hc
            have hn' : l'.length = n' := Nat.eq_of_beq_eq_true hb'
            simp [Instr.storeAt, Instr.sureAddr, storeVar, szT_ok hn, Value.cells, hn', hst]
        · cases hc
      · cases hc
    · rename_i ha
      split at hc
      · rename_i n' hn
        cases hb' : Nat.beq n' 1 with
        | false => rw [hb'] at hc; cases hc
        | true =>
          rw [hb'] at hc
          simp only [cond_true, Option.some.injEq, Prod.mk.injEq] at hc
          obtain ⟨rfl, rfl⟩ := hc
          have hn' : n' = 1 := Nat.eq_of_beq_eq_true hb'
          have h1' := h1 v (by simp)
          have hcc : v.cells = #[v] := by cases v <;> first | rfl | (simp [Value.oneCell'] at h1')
          simp [Instr.storeAt, Instr.sureAddr, storeVar, szT_ok hn, hcc, hn', hst]
      · cases hc
    · cases hc
  refine .inl ⟨undef, _, bx, _, .inr ⟨?_, rfl⟩, hw.setSeg hj (s' := Seg.row (some g) e sz n cap (putL xs off l)) (by simpa [Seg.row] using ext_setRow w g _) (hrow.set hl h3 h4 h5 h6) (by simp [Seg.row]) (fun k hk => ⟨.inl hk, ?_⟩), hk⟩
  · unfold execOp; simp only [ho, hρ _ _ hx, hρ _ _ hy, Sem.run_bind, hst2, Result.andThen_ok, Sem.run_pure]
  · simp [Seg.row] at hk
    subst hk
    simp
    exact (Array.getElem?_eq_some_iff.1 h3).1
end Go.Eng

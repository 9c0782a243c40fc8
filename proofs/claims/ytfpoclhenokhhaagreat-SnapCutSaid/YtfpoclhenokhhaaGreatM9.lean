/-
  Engine, part 17: slices that are made.
-/
import Derived.Test.YtfpoclhenokhhaaGreatM8
import Derived.Laws.MakeOwn
import Derived.Test.YtfpoclhenokhhaaGreatM5
/-
  Engine, part 17: slices that are made.
-/
namespace Go.Eng
open Go

/-- A new slice of n zeros. -/
theorem OpOk.makeSlice {C : Ctx} {env : Env} {bx : Bx} {hp : List Seg} {S : Base} {o : Oper} {K : Value → Bx → List Seg → Prop} {t e : TypeId} {x y : Operand} {k1 k2 : IntKind} {z xs : List Value} {sz sz2 by_ c : Nat} (n : Nat)
    (ho : o.op = .makeSlice t x y) (ht : elT C.P t = some e) (hz : zeroC C.P e = some (z, sz)) (hi : infoL C.P e = some (sz2, by_, c)) (hx : Env.ev env x = some (.int k1 n)) (hy : Env.ev env y = some (.int k2 n)) (hb : by_ * n ≤ 281474976710656) (h63 : n ≤ 9223372036854775807) (hcl : n * sz ≤ 16777216)
    (hl : xs.length = n * sz) (hxs : ∀ j, j < n * sz → xs[j]? = z[j % z.length]?) (hz0 : 0 < z.length)
    (hk : ∀ g, K (sv (some g) n n) bx (Seg.row (some g) e sz n n xs :: hp)) : OpOk C o env bx hp S K := by
  intro w hw ρ hρ
  obtain ⟨i, zv, hi1, hz1, hs1, hs2, hs3⟩ := infoL_ok hi
  have hzz : zv.cells = ⟨z⟩ ∧ i.size = sz := by
    unfold zeroC at hz
    rw [hi1] at hz
    simp only [hz1] at hz
    cases zv <;> simp only [Option.some.injEq, Prod.mk.injEq, reduceCtorEq] at hz <;> first | exact ⟨by rw [← hz.1]; rfl, hz.2⟩ | (obtain ⟨rfl, h⟩ := hz; exact ⟨rfl, h⟩)
  have hr := run_makeSlice (P := C.P) w t e i zv (elT_ok ht) hi1 hz1 k1 k2 (n : Int) (n : Int) (by omega) (by omega) (by rw [hzz.2, Int.toNat_natCast]; exact hcl) (by rw [hs2]; have h := Int.ofNat_le.2 hb; rw [Int.natCast_mul] at h; exact h) (by omega)
  simp only [Int.toNat_natCast, hzz.2] at hr
  have hmade : (madeCells zv.cells (n * sz)).toList = xs := by
    apply List.ext_getElem?
    intro j
    rw [hzz.1]
    by_cases hj : j < n * sz
    · rw [hxs j hj]
      have hm : j % z.length < z.length := Nat.mod_lt _ hz0
      simp [madeCells, hj, List.getElem?_eq_getElem hm]
    · rw [List.getElem?_eq_none (by rw [Array.length_toList, size_madeCells]; omega), List.getElem?_eq_none (by omega)]
  have hnew : (w.alloc (.cells (madeCells zv.cells (n * sz)) e)).heap[w.heap.size]? = some (.cells (madeCells zv.cells (n * sz)) e (0, 0)) := (MapKept.heap_alloc w _).1
  refine .inl ⟨sv (some w.heap.size) n n, _, bx, _, .inl ?_, hw.newSeg (s' := Seg.row (some w.heap.size) e sz n n xs) (w' := w.alloc (.cells (madeCells zv.cells (n * sz)) e)) ?_ ?_ (by simp [Seg.row]) ?_, hk _⟩
  · unfold execOp; simp only [ho, hρ _ _ hx, hρ _ _ hy, Sem.run_bind, hr, Result.andThen_ok]; rfl
  · exact ⟨rfl, rfl, rfl, by simp, fun k hk _ => RowKit.Below.heap_alloc w _ k hk⟩
  · refine ⟨hl, Nat.le_refl _, h63, by simp, fun g hg => ?_⟩
    cases hg
    exact ⟨_, _, hnew, size_madeCells _ _, by rw [hmade, ← hl, List.take_length], .inl rfl⟩
  · intro k hk
    simp [Seg.row] at hk; subst hk
    exact ⟨Nat.le_refl _, by simp⟩
/-- A known block is no block of the rows. -/
theorem notKey {S : Base} {g t : Nat} {cs : List Value} {bx : Bx} {s : Seg} {hp : List Seg} {w : World} (h : WOk S ((g, t, cs) :: bx) (s :: hp) w) : g ∉ kys [] [s] := by
  intro hk
  have hnd := h.nd
  simp only [kys, List.map_cons, List.cons_append, List.nodup_cons] at hnd
  apply hnd.1
  apply List.mem_append_right
  simp only [kys, List.map_nil, List.nil_append, List.flatMap_cons, List.flatMap_nil, List.append_nil] at hk
  exact List.mem_flatMap.2 ⟨s, List.mem_cons_self .., hk⟩
/-- A block that lay there is no block of the rows, where nothing of old is owned. -/
theorem baseKey {w0 : World} {bx : Bx} {s : Seg} {hp : List Seg} {w : World} {k : Nat} (h : WOk ⟨w0, kys [] []⟩ bx (s :: hp) w) (hk : k < w0.heap.size) : k ∉ kys [] [s] := by
  intro hk2
  have hmem : k ∈ kys bx (s :: hp) := by
    simp only [kys, List.map_nil, List.nil_append, List.flatMap_cons, List.flatMap_nil, List.append_nil] at hk2
    exact mem_kys_hp (List.mem_cons_self ..) hk2
  rcases h.own k hmem with h1 | h1
  · simp [kys] at h1
  · have : w0.heap.size ≤ k := h1
    omega
end Go.Eng

/-
  Engine, part 18: regions that draw their order: reading operations come first, though one of them may come late.
-/
namespace Go.Eng
open Go

section
variable {P : Program} {ops : Array Oper} {md : Region.Mode} {W : World → Prop} {Q' : Exit → Act → World → Prop}

/-- Whatever order from here on; and the quiet operations that may come next yield the same in every world. -/
def qTo (P : Program) (md : Region.Mode) (ops : Array Oper) (W : World → Prop) (Q' : Exit → Act → World → Prop) (q : Nat → Bool) : Nat → Array Bool → Act → Prop
  | 0, listed, a => Region.ready md ops listed = [] ∧ ∀ w, W w → wpAny P md ops Q' 0 listed a w
  | f + 1, listed, a => (∀ w, W w → wpAny P md ops Q' (f + 1) listed a w) ∧ ∀ j, j ∈ Region.ready md ops listed → q j = true → qOp P ops W j (qTo P md ops W Q' q f (listed.setIfInBounds j true)) a
theorem qTo_wp {q : Nat → Bool} : ∀ {f : Nat} {listed : Array Bool} {a : Act} {w : World}, qTo P md ops W Q' q f listed a → W w → wpAny P md ops Q' f listed a w
  | 0, _, _, _, h, hw => h.2 _ hw
  | _ + 1, _, _, _, h, hw => h.1 _ hw

theorem qTo_first {q : Nat → Bool} {i : Nat} {oi : Oper} {v : Value} {Cl : Array Bool} (hi : ops[i]? = some oi) (hsel : ∀ (j : Nat) (o : Oper) cs b, ops[j]? = some o → o.op ≠ .select cs b)
    (hsz : Cl.size = ops.size) (hCl : ∀ j, j ∈ Region.ready md ops Cl → j = i) (hq : ∀ j, Cl.getD j false = true → q j = true) :
    ∀ (f : Nat) (listed : Array Bool) (a : Act), (∀ j, listed.getD j false = true → Cl.getD j false = true) →
      (∀ j oj, ops[j]? = some oj → j ≠ i → listed.getD j true = false → (∀ e ∈ oj.after, Region.binds md e = true → e.on ≠ i) → oi.apart ops oj = true) →
      i ∈ Region.ready md ops listed → YieldsIn P ops W oi v a → qTo P md ops W Q' q f (listed.setIfInBounds i true) (a.put oi.dst v) → qTo P md ops W Q' q (f + 1) listed a := by
  have inCl : ∀ (listed : Array Bool), (∀ j, listed.getD j false = true → Cl.getD j false = true) → ∀ j, j ∈ Region.ready md ops listed → j ≠ i → Cl.getD j false = true := by
    intro listed hsub j hj hji
    cases hc : Cl.getD j false with
    | true => rfl
    | false =>
      obtain ⟨_, oj, hoj, hall⟩ := mem_ready.1 hj
      have hlt : j < ops.size := (Array.getElem?_eq_some_iff.1 hoj).1
      exact absurd (hCl j (mem_ready.2 ⟨getD_in (by omega) hc, oj, hoj, fun e he hb => hsub _ (hall e he hb)⟩)) hji
  intro f
  induction f with
  | zero =>
    intro listed a hsub _ hr hy H
    have all : ∀ j, j ∈ Region.ready md ops listed → qOp P ops W j (qTo P md ops W Q' q 0 (listed.setIfInBounds j true)) a := by
      intro j hj
      by_cases hji : j = i
      · subst hji; exact hy.qOp hi H
      · have := ready_mono hj hji
        rw [H.1] at this; cases this
    exact ⟨fun w hw => ⟨fun h => (by rw [h] at hr; cases hr), fun j hj => wpOp_of_qOp hw (fun a' w' hw' h => qTo_wp h hw') (all j hj)⟩, fun j hj _ => all j hj⟩
  | succ f ih =>
    intro listed a hsub hfree hr hy H
    have all : ∀ j, j ∈ Region.ready md ops listed → qOp P ops W j (qTo P md ops W Q' q (f + 1) (listed.setIfInBounds j true)) a := by
      intro j hj
      by_cases hji : j = i
      · subst hji; exact hy.qOp hi H
      · have hjc := inCl listed hsub j hj hji
        have h1 := H.2 j (ready_mono hj hji) (hq j hjc)
        obtain ⟨hjun, oj, hoj, hall⟩ := mem_ready.1 hj
        have hun := (mem_ready.1 hr).1
        have hnot : ∀ e ∈ oj.after, Region.binds md e = true → e.on ≠ i := fun e he hb heq => by
          have h1 := hall e he hb
          rw [heq, getD_both hun] at h1
          cases h1
        have h2 := qOp_put hoj (hfree j oj hoj hji hjun hnot) (fun cs b => hsel i oi cs b hi) (fun cs b => hsel j oj cs b hoj) hy h1
        have hfree' : ∀ k ok, ops[k]? = some ok → k ≠ i → (listed.setIfInBounds j true).getD k true = false → (∀ e ∈ ok.after, Region.binds md e = true → e.on ≠ i) → oi.apart ops ok = true := fun k ok hk hki hun hno => by
          refine hfree k ok hk hki ?_ hno
          by_cases hjk : j = k
          · subst hjk; exact hjun
          · rw [getD_set_ne true hjk] at hun; exact hun
        have hsub' : ∀ k, (listed.setIfInBounds j true).getD k false = true → Cl.getD k false = true := fun k hk => by
          by_cases hjk : j = k
          · subst hjk; exact hjc
          · rw [getD_set_ne false hjk] at hk; exact hsub k hk
        refine qOp_mono (fun a' h3 => ih (listed.setIfInBounds j true) a' hsub' hfree' (ready_mono hr (Ne.symm hji)) h3.1 ?_) h2
        rw [Array.setIfInBounds_comm _ _ hji]
        exact h3.2
    exact ⟨fun w hw => ⟨fun h => (by rw [h] at hr; cases hr), fun j hj => wpOp_of_qOp hw (fun a' w' hw' h => qTo_wp h hw') (all j hj)⟩, fun j hj _ => all j hj⟩

/-- All that may come while i does not. -/
def clo (md : Region.Mode) (ops : Array Oper) (i : Nat) : Nat → Array Bool → Array Bool
  | 0, l => l
  | f + 1, l => clo md ops i f ((Region.ready md ops l).foldl (fun l j => bif Nat.beq j i then l else l.setIfInBounds j true) l)
def subB (a b : Array Bool) : Bool := (List.range a.size).all fun j => !a.getD j false || b.getD j false
def chkQ (md : Region.Mode) (ops : Array Oper) (n : Nat) : Nat → Nat → Array Bool → Bool
  | 0, _, _ => true
  | f + 1, k, listed => (Region.ready md ops listed).contains k && Region.free md ops listed k && Nat.beq (clo md ops k 6 listed).size ops.size && (Region.ready md ops (clo md ops k 6 listed)).all (fun j => Nat.beq j k) &&
      (List.range ops.size).all (fun j => !(clo md ops k 6 listed).getD j false || Nat.ble (j + 1) n) && subB listed (clo md ops k 6 listed) && chkQ md ops n f (k + 1) (listed.setIfInBounds k true)

theorem qTo_lex {n g : Nat} {lst : Array Bool} (hsel : Region.noSelect ops = true) :
    ∀ (l : List Oper) (k : Nat) (listed : Array Bool) (a : Act), (∀ j, j < l.length → l[j]? = ops[k + j]?) → markTo l.length k listed = lst → chkQ md ops n l.length k listed = true →
      wpQuiet P ops W (qTo P md ops W Q' (fun j => Nat.ble (j + 1) n) g lst) l a → qTo P md ops W Q' (fun j => Nat.ble (j + 1) n) (g + l.length) listed a
  | [], k, listed, a, _, hm, _, h => by
    have : listed = lst := hm
    subst this
    exact h
  | o :: l, k, listed, a, hl, hm, hB, h => by
    have h0 : ops[k]? = some o := by simpa using (hl 0 (by simp)).symm
    simp only [List.length_cons, chkQ, Bool.and_eq_true] at hB
    obtain ⟨⟨⟨⟨⟨⟨hr, hf⟩, hs⟩, hc⟩, hq⟩, hsub⟩, hB'⟩ := hB
    have hr' : k ∈ Region.ready md ops listed := by simpa using hr
    have hst : qOp P ops W k (wpQuiet P ops W (qTo P md ops W Q' (fun j => Nat.ble (j + 1) n) g lst) l) a := by unfold qOp; simp only [h0]; exact h
    obtain ⟨v, hy, hK⟩ := yieldsIn_of_qOp h0 hst
    have hsz := Nat.eq_of_beq_eq_true hs
    refine qTo_first h0 (Region.noSelect_spec hsel) hsz (fun j hj => Nat.eq_of_beq_eq_true (List.all_eq_true.1 hc j hj)) (fun j hj => ?_) _ listed a (fun j hj => ?_) (Region.free_spec h0 hf) hr' hy
      (qTo_lex hsel l (k + 1) _ _ (fun j hj => by have := hl (j + 1) (by simp; omega); simpa [Nat.add_assoc, Nat.add_comm 1 j] using this) hm hB' hK)
    · by_cases hjs : j < ops.size
      · have := List.all_eq_true.1 hq j (List.mem_range.2 hjs)
        rw [hj] at this
        simpa using this
      · rw [Array.getD_eq_getD_getElem?, Array.getElem?_eq_none (by omega)] at hj; cases hj
    · by_cases hjs : j < listed.size
      · have := List.all_eq_true.1 hsub j (List.mem_range.2 hjs)
        rw [hj] at this
        simpa using this
      · rw [Array.getD_eq_getD_getElem?, Array.getElem?_eq_none (by omega)] at hj; cases hj
end

/-- What is asked of a region whose operations k.. are read first, where b, one that reads, may come before or behind t. -/
structure LateOk (P : Program) (c : Code) (p : List Nat) (k m b t : Nat) (listed lst : Array Bool) : Prop where
  sel : Region.noSelect (opsOf c p) = true
  le : Nat.ble (k + m) (opsOf c p).size = true
  noStore : ((opsOf c p).toList.take (k + m)).all (fun o => !isStore o.op) = true
  mark : markTo m k listed = lst
  chk : chkQ .any (opsOf c p) (k + m) m k listed = true
  two : Region.ready .any (opsOf c p) lst = [b, t]
  hb : Nat.ble (b + 1) (k + m) = true
  ht : Nat.ble (k + m) t = true
  rest : (Region.ready .any (opsOf c p) (lst.setIfInBounds b true)).all (fun j => Nat.ble (k + m) j) = true

theorem AtD.late {C : Ctx} {p l1 : List Nat} {df : List Deferred} {env env1 env2 : Env} {bx bx1 bx2 : Bx} {hp : List Seg} {S : Base} {ds1 ds2 : List Bool} {hs1' hs2' : List Hint} {ob1 ob2 : Prop} {listed lst : Array Bool} (k m b t g : Nat) (nw : Bool) (ds : List Bool) (hs hs2 : List Hint)
    (hok : LateOk C.P C.body p k m b t listed lst) (hl1 : List.range' k m = l1)
    (h1 : runOps C.P C.nt nw hp S (opsOf C.body p).toList l1 [] ds hs env bx True = ⟨[], ds1, hs1', env1, bx1, ob1⟩) (hm1 : mild hs = true) (ho1 : ob1)
    (h2 : runOps C.P C.nt nw hp S (opsOf C.body p).toList [b] [] [] hs2 env1 bx True = ⟨[], ds2, hs2', env2, bx2, ob2⟩) (hm2 : mild hs2 = true) (ho2 : ob2)
    (hk1 : AtD C p df (g + 1) (lst.setIfInBounds b true) env2 bx hp S) (hk2 : StepD C p df (g + 1) lst env1 bx hp S t) : AtD C p df (g + 2 + m) listed env bx hp S := by
  subst hl1
  intro w hw tm hsz hkn
  have hle : k + m ≤ (opsOf C.body p).size := Nat.le_of_ble_eq_true hok.le
  have hbn : b + 1 ≤ k + m := Nat.le_of_ble_eq_true hok.hb
  have base : ∀ tm, tm.size = C.nt → Knows env1 tm → qTo C.P .any (opsOf C.body p) (WOk S bx hp) (Qf C p df) (fun j => Nat.ble (j + 1) (k + m)) (g + 2) lst ⟨tm, df⟩ := by
    intro tm hsz hkn
    have hqb : qOp C.P (opsOf C.body p) (WOk S bx hp) b (qTo C.P .any (opsOf C.body p) (WOk S bx hp) (Qf C p df) (fun j => Nat.ble (j + 1) (k + m)) (g + 1) (lst.setIfInBounds b true)) ⟨tm, df⟩ := by
      have hr := runOps_qT (df := df) (Q := qTo C.P .any (opsOf C.body p) (WOk S bx hp) (Qf C p df) (fun j => Nat.ble (j + 1) (k + m)) (g + 1) (lst.setIfInBounds b true)) 1 b [] [] hs2 env1 bx True _ (by
        have := hok.noStore
        rw [List.all_eq_true] at this ⊢
        intro o ho
        exact this o ((List.take_sublist_take_left (by omega)).mem ho)) (by omega) h2 rfl hm2 ho2
        (fun tm hsz hkn => ⟨fun w hw => hk1 w hw tm hsz hkn, fun j hj hq => by
          have h3 := Nat.le_of_ble_eq_true (List.all_eq_true.1 hok.rest j hj)
          have h4 := Nat.le_of_ble_eq_true hq
          omega⟩)
      have h5 := hr.2.2 tm hsz hkn
      have hlt : b < (opsOf C.body p).size := by omega
      have hdr : ((opsOf C.body p).toList.drop b).take 1 = [(opsOf C.body p)[b]] := by
        rw [List.drop_eq_getElem_cons (by simpa using hlt)]; simp
      rw [hdr] at h5
      unfold qOp
      simp only [Array.getElem?_eq_getElem hlt]
      exact h5
    have all : ∀ j, j ∈ [b, t] → ∀ w, WOk S bx hp w → wpOp C.P (opsOf C.body p) (Qf C p df) j (wpAny C.P .any (opsOf C.body p) (Qf C p df) (g + 1) (lst.setIfInBounds j true)) ⟨tm, df⟩ w := by
      intro j hj w hw
      simp only [List.mem_cons, List.not_mem_nil, or_false] at hj
      rcases hj with rfl | rfl
      · exact wpOp_of_qOp hw (fun a' w' hw' h => qTo_wp h hw') hqb
      · exact hk2 w hw tm hsz hkn
    refine ⟨fun w hw => wpAny_all hok.two (by simp) (fun j hj => all j hj w hw), fun j hj hq => ?_⟩
    rw [hok.two] at hj
    simp only [List.mem_cons, List.not_mem_nil, or_false] at hj
    rcases hj with rfl | rfl
    · exact hqb
    · have h3 := Nat.le_of_ble_eq_true hok.ht
      have h4 := Nat.le_of_ble_eq_true hq
      omega
  have hr := runOps_qT (df := df) (Q := qTo C.P .any (opsOf C.body p) (WOk S bx hp) (Qf C p df) (fun j => Nat.ble (j + 1) (k + m)) (g + 2) lst) m k [] ds hs env bx True _ hok.noStore hle h1 rfl hm1 ho1 base
  have hq := hr.2.2 tm hsz hkn
  have htl : (((opsOf C.body p).toList.drop k).take m).length = m := by simp; omega
  have H := qTo_lex (P := C.P) (md := .any) (Q' := Qf C p df) (W := WOk S bx hp) (n := k + m) (g := g + 2) (lst := lst) hok.sel (((opsOf C.body p).toList.drop k).take m) k listed ⟨tm, df⟩ (fun j hj => by
    rw [htl] at hj
    rw [List.getElem?_take_of_lt hj, List.getElem?_drop]; simp) (by rw [htl]; exact hok.mark) (by rw [htl]; exact hok.chk) hq
  rw [htl] at H
  exact qTo_wp H hw

/-- A store into a known block, at whatever place. -/
theorem OpOk.storeBlk {C : Ctx} {env : Env} {bx : Bx} {hp : List Seg} {S : Base} {o : Oper} {K : Value → Bx → List Seg → Prop} {t t' : TypeId} {x y : Operand} {v : Value} {l cs : List Value} {b off : Nat} {ob : Prop} (i : Nat)
    (ho : o.op = .store t x y) (hx : Env.ev env x = some (.pointer (some ⟨b, off, none⟩))) (hy : Env.ev env y = some v) (hc : cellsT C.P t v = some (l, ob)) (hob : ob) (hi : nth bx i = some (b, t', cs)) (hl : off + l.length ≤ cs.length)
    (hk : K undef (setL bx i (b, t', putL cs off l)) hp) : OpOk C o env bx hp S K := by
  intro w hw ρ hρ
  have hb : w.heap[b]? = some (.cells cs.toArray t' (0, 0)) := hw.bx _ (nth_mem hi)
  have hst := cellsT_store (P := C.P) hc hob hb hl
  refine .inl ⟨undef, _, _, hp, .inr ⟨?_, rfl⟩, hw.setBlk hi (w' := w.setRow b (putL cs off l).toArray) rfl rfl rfl (by simp) (setRow_heap w b _ _ t' (0, 0) hb) (fun k hk => setRow_other w b k _ hk), hk⟩
  unfold execOp; simp only [ho, hρ _ _ hx, hρ _ _ hy, Sem.run_bind, hst, Result.andThen_ok, Sem.run_pure]
end Go.Eng

/-
  Plain laws of layer 13: columns set into things.
-/
namespace Go.Eng
open Go

theorem rowsT_snoc (sz n : Nat) (cs : List (List Int)) : rowsT sz (n + 1) cs = rowsT sz n cs ++ [rowAt sz cs n] := by simp [rowsT, List.range_succ]
theorem flat_rows_len (sz n : Nat) (cs : List (List Int)) : ((rowsT sz n cs).flatMap i64s).length = n * sz := by
  induction n with
  | zero => simp [rowsT]
  | succ n ih => rw [rowsT_snoc, List.flatMap_append, List.length_append, ih]; simp [i64s, rowAt_len, Nat.succ_mul]
theorem flat_rows_get (sz : Nat) (cs : List (List Int)) : ∀ (n k f : Nat), k < n → f < sz → ((rowsT sz n cs).flatMap i64s)[k * sz + f]? = some (.int .i64 (nthI ((cs[f]?).getD []) k))
  | 0, k, f, hk, _ => by omega
  | n + 1, k, f, hk, hf => by
    rw [rowsT_snoc, List.flatMap_append]
    by_cases hkn : k < n
    · have : k * sz + f < n * sz := by
        have : (k + 1) * sz ≤ n * sz := Nat.mul_le_mul_right _ (by omega)
        rw [Nat.succ_mul] at this; omega
      rw [List.getElem?_append_left (by rw [flat_rows_len]; exact this)]
      exact flat_rows_get sz cs n k f hkn hf
    · have : k = n := by omega
      subst this
      rw [List.getElem?_append_right (by rw [flat_rows_len]; omega), flat_rows_len, Nat.add_sub_cancel_left]
      simp [i64s, rowAt, hf]
theorem putL_one {α : Type} (l : List α) (i : Nat) (y : α) : putL l i [y] = l.set i y := by simp [putL, setL_eq]
theorem putL_one_len {α : Type} (l : List α) (i : Nat) (y : α) : (putL l i [y]).length = l.length := by simp [putL_one]

theorem snoc_get {α : Type} (cs : List α) (c : α) (f : Nat) : (cs ++ [c])[f]? = if f = cs.length then some c else cs[f]? := by
  by_cases h : f = cs.length
  · subst h; simp
  · rw [if_neg h]
    by_cases h2 : f < cs.length
    · exact List.getElem?_append_left h2
    · rw [List.getElem?_append_right (by omega), List.getElem?_eq_none (by simp; omega), List.getElem?_eq_none (by omega)]

/-- One number more of a column set. -/
theorem rowsT_set {sz n j : Nat} {cs : List (List Int)} {c : List Int} {x : Int} (hi : cs.length < sz) (hj : j < n) (hx : c[j]? = some x) :
    putL ((rowsT sz n (cs ++ [c.take j])).flatMap i64s) (j * sz + cs.length) [.int .i64 x] = (rowsT sz n (cs ++ [c.take (j + 1)])).flatMap i64s := by
  rw [putL_one]
  apply List.ext_getElem?
  intro m
  by_cases hm : m < n * sz
  · have hsz : 0 < sz := by omega
    have hk : m / sz < n := Nat.div_lt_of_lt_mul (by rw [Nat.mul_comm]; exact hm)
    have hf : m % sz < sz := Nat.mod_lt _ hsz
    have hmd : m / sz * sz + m % sz = m := by rw [Nat.mul_comm]; exact Nat.div_add_mod m sz
    have h1 := flat_rows_get sz (cs ++ [c.take j]) n (m / sz) (m % sz) hk hf
    have h2 := flat_rows_get sz (cs ++ [c.take (j + 1)]) n (m / sz) (m % sz) hk hf
    rw [hmd] at h1 h2
    rw [h2, List.getElem?_set]
    have hjl : j < c.length := (List.getElem?_eq_some_iff.1 hx).1
    by_cases he : j * sz + cs.length = m
    · rw [if_pos he, if_pos (by rw [flat_rows_len]; omega)]
      have hf' : m % sz = cs.length := by rw [← he, Nat.mul_comm, Nat.mul_add_mod]; exact Nat.mod_eq_of_lt hi
      have hk' : m / sz = j := by rw [← he, Nat.mul_comm, Nat.mul_add_div hsz, Nat.div_eq_of_lt hi, Nat.add_zero]
      rw [hf', hk', snoc_get, if_pos rfl]
      simp [nthI, hx]
    · rw [if_neg he, h1, snoc_get, snoc_get]
      by_cases hf' : m % sz = cs.length
      · have hk' : m / sz ≠ j := fun h => he (by rw [← hmd, h, hf'])
        rw [if_pos hf', if_pos hf']
        simp only [Option.getD_some, nthI, List.getElem?_take, Option.some.injEq, Value.int.injEq, true_and]
        by_cases hlt : m / sz < j
        · rw [if_pos hlt, if_pos (by omega)]
        · rw [if_neg hlt, if_neg (by omega)]
      · rw [if_neg hf', if_neg hf']
  · rw [List.getElem?_eq_none (by rw [List.length_set, flat_rows_len]; omega), List.getElem?_eq_none (by rw [flat_rows_len]; omega)]
theorem rowsT_nil_snoc (sz n : Nat) (cs : List (List Int)) : rowsT sz n (cs ++ [[]]) = rowsT sz n cs := by
  unfold rowsT
  apply List.map_congr_left
  intro k _
  unfold rowAt
  apply List.map_congr_left
  intro f _
  rw [snoc_get]
  split
  · rename_i h; subst h; simp [nthI]
  · rfl
theorem rowsT_zero (sz n : Nat) : (rowsT sz n []).flatMap i64s = List.replicate (n * sz) (.int .i64 0) := by
  have h : rowsT sz n [] = List.replicate n (List.replicate sz 0) := by
    unfold rowsT
    rw [List.eq_replicate_iff]
    refine ⟨by simp, fun b hb => ?_⟩
    simp only [List.mem_map] at hb
    obtain ⟨k, _, rfl⟩ := hb
    rw [List.eq_replicate_iff]
    refine ⟨by simp [rowAt], fun b hb => ?_⟩
    simp only [rowAt, List.mem_map] at hb
    obtain ⟨f, _, rfl⟩ := hb
    simp [nthI]
  rw [h]
  induction n with
  | zero => simp
  | succ n ih =>
    have ih := ih (by rw [rowsT_snoc] at h; rw [List.replicate_succ'] at h; exact (List.append_inj' h rfl).1)
    rw [List.replicate_succ', List.flatMap_append, ih, Nat.succ_mul, ← List.replicate_append_replicate]
    simp [i64s]

theorem even_snoc (cs : List (List Int)) (c : List Int) : evenB (cs ++ [c]) = (evenB cs && (cs.isEmpty || decide (c.length = firstN cs))) := by
  cases cs with
  | nil => simp [evenB]
  | cons d ds => simp [evenB, firstN] <;> rfl
theorem firstN_snoc {cs : List (List Int)} {c : List Int} (h : cs ≠ []) : firstN (cs ++ [c]) = firstN cs := by
  cases cs with
  | nil => exact (h rfl).elim
  | cons d ds => rfl

theorem getCols_snoc {most : Nat} : ∀ {i : Nat} {s : List UInt8} {cs : List (List Int)} {r : List UInt8}, getCols most i s = (cs, r, 0) →
    getCols most (i + 1) s = if (colG r most).2.2 ≠ 0 then (cs, r, (colG r most).2.2) else (cs ++ [(colG r most).1], r.drop (colG r most).2.1, 0)
  | 0, s, cs, r, h => by
    simp only [getCols, Prod.mk.injEq, and_true] at h
    obtain ⟨rfl, rfl⟩ := h
    simp [getCols]
  | i + 1, s, cs, r, h => by
    rw [getCols] at h
    split at h
    · rename_i he
      simp only [Prod.mk.injEq] at h; exact (he h.2.2).elim
    · rename_i he
      obtain ⟨cs', r', e', hR⟩ : ∃ a b c, getCols most i (s.drop (colG s most).2.1) = (a, b, c) := ⟨_, _, _, rfl⟩
      rw [hR] at h
      simp only [Prod.mk.injEq] at h
      obtain ⟨rfl, rfl, rfl⟩ := h
      rw [getCols, if_neg he, getCols_snoc hR]
      split <;> simp
theorem getCols_bad {most : Nat} : ∀ {i n : Nat} {s : List UInt8}, (getCols most i s).2.2 ≠ 0 → i ≤ n → (getCols most n s).2.2 = (getCols most i s).2.2
  | 0, n, s, h, _ => by simp [getCols] at h
  | i + 1, 0, s, h, hn => by omega
  | i + 1, n + 1, s, h, hn => by
    rw [getCols, getCols]
    rw [getCols] at h
    split
    · rfl
    · rename_i he
      rw [if_neg he] at h
      exact getCols_bad h (by omega)
theorem colLoop_err (l : List UInt8) : ∀ (fuel a lack : Nat) (was : Option Int) (last : Int) (out : List Int), (colLoop l fuel a lack was last out).2.2 ≠ 0 → (colLoop l fuel a lack was last out).2.1 = 0
  | 0, a, lack, was, last, out, h => by simp [colLoop] at h
  | fuel + 1, a, lack, was, last, out, h => by
    rw [colLoop] at h ⊢
    split at h
    · simp at h
    · rename_i h1
      rw [if_neg h1]
      split at h
      · rename_i h2; rw [if_pos h2]
      · rename_i h2
        rw [if_neg h2]
        split at h
        · rename_i h3; rw [if_pos h3]
        · rename_i h3; rw [if_neg h3]; exact colLoop_err l _ _ _ _ _ _ h
theorem colG_err {l : List UInt8} {most : Nat} (h : (colG l most).2.2 ≠ 0) : (colG l most).2.1 ≤ l.length := by
  have : (colG l most).2.1 = 0 := by
    unfold colG at h ⊢
    split at h
    · rename_i h1; rw [if_pos h1]
    · rename_i h1; rw [if_neg h1]; exact colLoop_err _ _ _ _ _ _ _ h
  omega
theorem colG_a (l : List UInt8) (most : Nat) : (colG l most).2.1 ≤ l.length := by
  obtain ⟨xs, n, e, hG⟩ : ∃ a b c, colG l most = (a, b, c) := ⟨_, _, _, rfl⟩
  by_cases he : e = 0
  · subst he
    obtain ⟨h1, h2, _⟩ := colG_get hG
    rw [hG]
    have := congrArg List.length h1
    rw [List.length_take] at this
    show n ≤ _
    omega
  · exact colG_err (by rw [hG]; exact he)
/-- Within the reading of a list: behind i columns. -/
structure GetI (most sz : Nat) (s : List UInt8) (e : Int) (u : Bool) (i : Nat) (a : Option Nat) (m : Nat) (xs : List Value) (s' : List UInt8) (e' : Int) (u' : Bool) : Prop where
  len : xs.length = m * sz
  le : m ≤ most
  slen : s'.length ≤ s.length
  has : 0 < i → ∃ g, a = some g
  not : i = 0 → a = none ∧ m = 0 ∧ xs = []
  ok : e' = 0 → e = 0 ∧ ∃ cs, getCols most i s = (cs, s', 0) ∧ cs.length = i ∧ u' = (u || !evenB cs) ∧ (0 < i → evenB cs = true → m = firstN cs ∧ xs = (rowsT sz m cs).flatMap i64s)
  bad : e' ≠ 0 → e' = if e ≠ 0 then e else (getCols most sz s).2.2
/-- A list read. -/
structure GetR (most sz : Nat) (s : List UInt8) (e : Int) (u : Bool) (m : Nat) (xs : List Value) (s' : List UInt8) (e' : Int) (u' : Bool) : Prop where
  len : xs.length = m * sz
  le : m ≤ most
  slen : s'.length ≤ s.length
  err : e' = if e ≠ 0 then e else (getCols most sz s).2.2
  good : e' = 0 → s' = (getCols most sz s).2.1 ∧ u' = (u || !evenB (getCols most sz s).1) ∧ (evenB (getCols most sz s).1 = true → m = firstN (getCols most sz s).1 ∧ xs = (listT sz (getCols most sz s).1).flatMap i64s)
/-- The list that a column is set into. -/
def GetC (most sz i m : Nat) (cs : List (List Int)) (c : List Int) (xs : List Value) : Prop := xs.length = m * sz ∧ m ≤ most ∧ (evenB cs = true → m = (if i = 0 then c.length else firstN cs) ∧ xs = (rowsT sz m cs).flatMap i64s)

theorem GetI.zero (most sz : Nat) (s : List UInt8) (e : Int) (u : Bool) : GetI most sz s e u 0 none 0 [] s e u where
  len := by simp
  le := Nat.zero_le _
  slen := Nat.le_refl _
  has := fun h => absurd h (Nat.lt_irrefl _)
  not := fun _ => ⟨rfl, rfl, rfl⟩
  ok := fun h => ⟨h, [], rfl, rfl, by simp [evenB], fun h => absurd h (Nat.lt_irrefl _)⟩
  bad := fun h => by rw [if_pos h]
theorem GetI.stop {most sz : Nat} {s : List UInt8} {e : Int} {u : Bool} {i : Nat} {a : Option Nat} {m : Nat} {xs : List Value} {s' : List UInt8} {e' : Int} {u' : Bool} (h : GetI most sz s e u i a m xs s' e' u') (he : e' ≠ 0) :
    GetR most sz s e u 0 [] s' e' u' := ⟨by simp, Nat.zero_le _, h.slen, h.bad he, fun h0 => absurd h0 he⟩
theorem GetI.fin {most sz : Nat} {s : List UInt8} {e : Int} {u : Bool} {a : Option Nat} {m : Nat} {xs : List Value} {s' : List UInt8} {e' : Int} {u' : Bool} (h : GetI most sz s e u sz a m xs s' e' u') (hsz : 0 < sz) :
    GetR most sz s e u m xs s' e' u' := by
  refine ⟨h.len, h.le, h.slen, ?_, fun he => ?_⟩
  · by_cases he : e' = 0
    · obtain ⟨rfl, cs, hc, _⟩ := h.ok he
      rw [hc, he]; simp
    · exact h.bad he
  · obtain ⟨rfl, cs, hc, hl, hu, hx⟩ := h.ok he
    rw [hc]
    refine ⟨rfl, hu, fun hev => ?_⟩
    obtain ⟨h1, h2⟩ := hx hsz hev
    exact ⟨h1, by rw [h2, h1]; rfl⟩
theorem GetI.bad' {most sz : Nat} {s : List UInt8} {i : Nat} {s' : List UInt8} {cs : List (List Int)} {c : List Int} {k : Nat} {ee : Int} (hi : i < sz) (hc : getCols most i s = (cs, s', 0)) (hG : colG s' most = (c, k, ee)) (he : ee ≠ 0) : ee = (getCols most sz s).2.2 := by
  have h1 := getCols_snoc hc
  rw [hG] at h1
  simp only at h1
  rw [if_pos he] at h1
  have := getCols_bad (i := i + 1) (n := sz) (s := s) (most := most) (by rw [h1]; exact he) (by omega)
  rw [this, h1]
theorem GetI.ok' {most : Nat} {s : List UInt8} {i : Nat} {s' : List UInt8} {cs : List (List Int)} {c : List Int} {k : Nat} (hc : getCols most i s = (cs, s', 0)) (hG : colG s' most = (c, k, 0)) : getCols most (i + 1) s = (cs ++ [c], s'.drop k, 0) := by
  have h1 := getCols_snoc hc
  rw [hG] at h1
  simpa using h1
theorem GetI.even {most sz : Nat} {s : List UInt8} {u : Bool} {i : Nat} {a : Option Nat} {m : Nat} {xs : List Value} {s' : List UInt8} {u' : Bool} (h : GetI most sz s 0 u i a m xs s' 0 u') (hi : i < sz) {cs : List (List Int)} (hc : getCols most i s = (cs, s', 0)) {c : List Int} {k : Nat} {ee : Int}
    (hG : colG s' most = (c, k, ee)) {m' : Nat} {xs1 xs' : List Value} (hC : GetC most sz i m' cs c xs1) (hm : c.length = m') (hl : xs'.length = m' * sz) (hx : evenB cs = true → xs' = (rowsT sz m' (cs ++ [c])).flatMap i64s) (g : Nat) :
    GetI most sz s 0 u (i + 1) (some g) m' xs' (s'.drop k) ee u' := by
  obtain ⟨h1, h2, h3⟩ := hC
  obtain ⟨-, cs0, hc0, hcl, hu, -⟩ := h.ok rfl
  rw [hc] at hc0
  simp only [Prod.mk.injEq, and_true] at hc0
  obtain rfl := hc0
  have hev : evenB (cs ++ [c]) = evenB cs := by
    rw [even_snoc]
    cases hE : evenB cs with
    | false => rfl
    | true =>
      obtain ⟨h4, -⟩ := h3 hE
      rw [Bool.true_and]
      cases cs with
      | nil => rfl
      | cons d ds =>
        simp only [List.length_cons] at hcl
        rw [if_neg (by omega)] at h4
        simp [hm, h4]
  refine ⟨hl, h2, by have := h.slen; rw [List.length_drop]; omega, fun _ => ⟨g, rfl⟩, fun h => by omega, fun he => ?_, fun he => by rw [if_neg (by simp)]; exact GetI.bad' hi hc hG he⟩
  subst he
  refine ⟨rfl, cs ++ [c], GetI.ok' hc hG, by simp [hcl], by rw [hev]; exact hu, fun _ hE => ?_⟩
  rw [hev] at hE
  obtain ⟨h4, -⟩ := h3 hE
  refine ⟨?_, hx hE⟩
  cases cs with
  | nil => simp [firstN, hm]
  | cons d ds =>
    simp only [List.length_cons] at hcl
    rw [if_neg (by omega)] at h4
    exact h4
theorem GetI.odd {most sz : Nat} {s : List UInt8} {u : Bool} {i : Nat} {a : Option Nat} {m : Nat} {xs : List Value} {s' : List UInt8} {u' : Bool} (h : GetI most sz s 0 u i a m xs s' 0 u') (hi : i < sz) {cs : List (List Int)} (hc : getCols most i s = (cs, s', 0)) {c : List Int} {k : Nat} {ee : Int}
    (hG : colG s' most = (c, k, ee)) {m' : Nat} {xs1 : List Value} (hC : GetC most sz i m' cs c xs1) (hm : c.length ≠ m') (g : Nat) :
    GetI most sz s 0 u (i + 1) (some g) m' xs1 (s'.drop k) ee true := by
  obtain ⟨h1, h2, h3⟩ := hC
  obtain ⟨-, cs0, hc0, hcl, hu, -⟩ := h.ok rfl
  rw [hc] at hc0
  simp only [Prod.mk.injEq, and_true] at hc0
  obtain rfl := hc0
  have hev : evenB (cs ++ [c]) = false := by
    rw [even_snoc]
    cases hE : evenB cs with
    | false => rfl
    | true =>
      obtain ⟨h4, -⟩ := h3 hE
      rw [Bool.true_and]
      cases cs with
      | nil => rw [if_pos (by simpa using hcl.symm)] at h4; exact absurd h4.symm hm
      | cons d ds =>
        simp only [List.length_cons] at hcl
        rw [if_neg (by omega)] at h4
        simp only [List.isEmpty_cons, Bool.false_or, decide_eq_false_iff_not]
        rw [← h4]; exact hm
  refine ⟨h1, h2, by have := h.slen; rw [List.length_drop]; omega, fun _ => ⟨g, rfl⟩, fun h => by omega, fun he => ?_, fun he => by rw [if_neg (by simp)]; exact GetI.bad' hi hc hG he⟩
  subst he
  refine ⟨rfl, cs ++ [c], GetI.ok' hc hG, by simp [hcl], by rw [hev]; simp, fun _ hE => ?_⟩
  rw [hev] at hE; cases hE
theorem rep_get {x : Value} {n j m : Nat} (hn : 0 < n) (hj : j < m) : (List.replicate m x)[j]? = (List.replicate n x)[j % (List.replicate n x).length]? := by
  rw [List.getElem?_replicate, if_pos hj, List.getElem?_replicate, List.length_replicate, if_pos (Nat.mod_lt _ hn)]
theorem GetR.e0 {most sz : Nat} {s : List UInt8} {e : Int} {u : Bool} {m : Nat} {xs : List Value} {s' : List UInt8} {e' : Int} {u' : Bool} (h : GetR most sz s e u m xs s' e' u') (he : e' = 0) : e = 0 ∧ (getCols most sz s).2.2 = 0 := by
  have h1 := h.err
  by_cases h0 : e = 0
  · subst h0; rw [if_neg (by simp)] at h1; exact ⟨rfl, by rw [← h1, he]⟩
  · rw [if_pos h0] at h1; exact absurd (h1 ▸ he) h0

/-- The parts of a book that were read, one behind the other. -/
theorem getBk_chain {s : List UInt8} {n a : Nat} {e0 : Int} (hN : rdN s 0 0 1099511627776 = (n, a, e0)) {m1 m2 m3 m4 : Nat} {x1 x2 x3 x4 : List Value} {s1 s2 s3 s4 : List UInt8} {e1 e2 e3 e4 : Int} {u1 u2 u3 u4 : Bool}
    (h1 : GetR 32 4 (s.drop a) e0 false m1 x1 s1 e1 u1) (h2 : GetR 1024 3 s1 e1 u1 m2 x2 s2 e2 u2) (h3 : GetR 64 6 s2 e2 u2 m3 x3 s3 e3 u3) (h4 : GetR 32 2 s3 e3 u3 m4 x4 s4 e4 u4) :
    (e4 ≠ 0 → getBk s = (zeroBk, e4)) ∧ (e4 = 0 → (s4 ≠ [] ∨ u4 = true) → getBk s = (zeroBk, 3)) ∧
    (e4 = 0 → s4 = [] → u4 = false → ∃ b : Bk, BkIn b ∧ b.S.length ≤ 1024 ∧ b.c = n ∧ m1 = b.H.length ∧ m2 = b.S.length ∧ m3 = b.O.length ∧ m4 = b.R.length ∧ x1 = b.H.flatMap i64s ∧ x2 = b.S.flatMap i64s ∧ x3 = b.O.flatMap i64s ∧ x4 = b.R.flatMap i64s ∧
      getBk s = if mayB b = true then (b, 0) else (zeroBk, 3)) := by
  have g1 := rdN_lt s 0 0 1099511627776
  rw [hN] at g1
  simp only at g1
  refine ⟨fun he => ?_, fun he hor => ?_, fun he hs hu => ?_⟩
  · unfold getBk
    rw [hN]
    simp only
    by_cases h0 : e0 = 0
    · subst h0
      rw [if_neg (by simp)]
      have r1 := h1.err
      rw [if_neg (by simp)] at r1
      by_cases z1 : e1 = 0
      · rw [if_neg (by rw [← r1, z1]; simp), ← (h1.good z1).1]
        have r2 := h2.err
        rw [if_neg (by rw [z1]; simp)] at r2
        by_cases z2 : e2 = 0
        · rw [if_neg (by rw [← r2, z2]; simp), ← (h2.good z2).1]
          have r3 := h3.err
          rw [if_neg (by rw [z2]; simp)] at r3
          by_cases z3 : e3 = 0
          · rw [if_neg (by rw [← r3, z3]; simp), ← (h3.good z3).1]
            have r4 := h4.err
            rw [if_neg (by rw [z3]; simp)] at r4
            rw [if_pos (by rw [← r4]; exact he), ← r4]
          · have r4 := h4.err
            rw [if_pos z3] at r4
            rw [if_pos (by rw [← r3]; exact z3), ← r3, r4]
        · have r3 := h3.err
          rw [if_pos z2] at r3
          have r4 := h4.err
          rw [if_pos (by rw [r3]; exact z2), r3] at r4
          rw [if_pos (by rw [← r2]; exact z2), ← r2, r4]
      · have r2 := h2.err
        rw [if_pos z1] at r2
        have r3 := h3.err
        rw [if_pos (by rw [r2]; exact z1), r2] at r3
        have r4 := h4.err
        rw [if_pos (by rw [r3]; exact z1), r3] at r4
        rw [if_pos (by rw [← r1]; exact z1), ← r1, r4]
    · rw [if_pos h0]
      have r1 := h1.err
      rw [if_pos h0] at r1
      have r2 := h2.err
      rw [if_pos (by rw [r1]; exact h0), r1] at r2
      have r3 := h3.err
      rw [if_pos (by rw [r2]; exact h0), r2] at r3
      have r4 := h4.err
      rw [if_pos (by rw [r3]; exact h0), r3] at r4
      rw [r4]
  · obtain ⟨z3, y4⟩ := h4.e0 he
    obtain ⟨z2, y3⟩ := h3.e0 z3
    obtain ⟨z1, y2⟩ := h2.e0 z2
    obtain ⟨z0, y1⟩ := h1.e0 z1
    unfold getBk
    rw [hN]
    simp only
    rw [if_neg (by rw [z0]; simp), if_neg (by rw [y1]; simp), ← (h1.good z1).1, if_neg (by rw [y2]; simp), ← (h2.good z2).1, if_neg (by rw [y3]; simp), ← (h3.good z3).1, if_neg (by rw [y4]; simp), ← (h4.good he).1]
    rw [if_neg]
    rintro ⟨v0, v1, v2, v3, v4, -⟩
    have w1 := (h1.good z1).2.1
    have w2 := (h2.good z2).2.1
    have w3 := (h3.good z3).2.1
    have w4 := (h4.good he).2.1
    rw [v1] at w1; rw [v2] at w2; rw [v3] at w3; rw [v4] at w4
    rw [w1] at w2; rw [w2] at w3; rw [w3] at w4
    rcases hor with h | h
    · exact h v0
    · rw [h] at w4; simp at w4
  · obtain ⟨z3, y4⟩ := h4.e0 he
    obtain ⟨z2, y3⟩ := h3.e0 z3
    obtain ⟨z1, y2⟩ := h2.e0 z2
    obtain ⟨z0, y1⟩ := h1.e0 z1
    have w1 := (h1.good z1).2.1
    have w2 := (h2.good z2).2.1
    have w3 := (h3.good z3).2.1
    have w4 := (h4.good he).2.1
    rw [hu, w3, w2, w1] at w4
    have v : evenB (getCols 32 4 (s.drop a)).1 = true ∧ evenB (getCols 1024 3 s1).1 = true ∧ evenB (getCols 64 6 s2).1 = true ∧ evenB (getCols 32 2 s3).1 = true := by
      revert w4
      cases evenB (getCols 32 4 (s.drop a)).1 <;> cases evenB (getCols 1024 3 s1).1 <;> cases evenB (getCols 64 6 s2).1 <;> cases evenB (getCols 32 2 s3).1 <;> simp
    obtain ⟨v1, v2, v3, v4⟩ := v
    obtain ⟨p1, q1⟩ := (h1.good z1).2.2 v1
    obtain ⟨p2, q2⟩ := (h2.good z2).2.2 v2
    obtain ⟨p3, q3⟩ := (h3.good z3).2.2 v3
    obtain ⟨p4, q4⟩ := (h4.good he).2.2 v4
    have i1 := (getCols_get (most := 32) (n := 4) (s := s.drop a) (Prod.ext rfl (Prod.ext rfl y1))).2.2.2
    have i2 := (getCols_get (most := 1024) (n := 3) (s := s1) (Prod.ext rfl (Prod.ext rfl y2))).2.2.2
    have i3 := (getCols_get (most := 64) (n := 6) (s := s2) (Prod.ext rfl (Prod.ext rfl y3))).2.2.2
    have i4 := (getCols_get (most := 32) (n := 2) (s := s3) (Prod.ext rfl (Prod.ext rfl y4))).2.2.2
    have k1 := h1.le
    have k2 := h2.le
    have k3 := h3.le
    have k4 := h4.le
    refine ⟨⟨listT 4 (getCols 32 4 (s.drop a)).1, listT 3 (getCols 1024 3 s1).1, listT 6 (getCols 64 6 s2).1, listT 2 (getCols 32 2 s3).1, n⟩, ⟨rowsT_recs i1, rowsT_recs i2, rowsT_recs i3, rowsT_recs i4, ?_, ?_, ?_, ?_, ?_⟩, ?_, rfl, ?_, ?_, ?_, ?_, q1, q2, q3, q4, ?_⟩
    all_goals first | (simp only [listT, rowsT_len]; omega) | (simp only [inK]; omega) | skip
    unfold getBk
    rw [hN]
    simp only
    rw [if_neg (by rw [z0]; simp), if_neg (by rw [y1]; simp), ← (h1.good z1).1, if_neg (by rw [y2]; simp), ← (h2.good z2).1, if_neg (by rw [y3]; simp), ← (h3.good z3).1, if_neg (by rw [y4]; simp), ← (h4.good he).1]
    split
    · rename_i hc; rw [if_pos hc.2.2.2.2.2]
    · rename_i hc; rw [if_neg (fun hm => hc ⟨hs, v1, v2, v3, v4, hm⟩)]
end Go.Eng

/-
  Plain laws of layer 13: a book's columns one by one.
-/
namespace Go.Eng
open Go

def mosts : List Nat := [32, 32, 32, 32, 1024, 1024, 1024, 64, 64, 64, 64, 64, 64, 32, 32]
/-- Columns read, each with its most. -/
def getSeq : List Nat → List UInt8 → List (List Int) × List UInt8 × Int
  | [], s => ([], s, 0)
  | m :: ms, s => if (colG s m).2.2 ≠ 0 then ([], s, (colG s m).2.2) else ((colG s m).1 :: (getSeq ms (s.drop (colG s m).2.1)).1, (getSeq ms (s.drop (colG s m).2.1)).2)

theorem getSeq_rep (m : Nat) (ms : List Nat) : ∀ (n : Nat) (s : List UInt8), getSeq (List.replicate n m ++ ms) s =
    if (getCols m n s).2.2 ≠ 0 then getCols m n s else ((getCols m n s).1 ++ (getSeq ms (getCols m n s).2.1).1, (getSeq ms (getCols m n s).2.1).2)
  | 0, s => by simp [getCols]
  | n + 1, s => by
    rw [List.replicate_succ, List.cons_append, getSeq, getCols]
    split
    · rfl
    · rename_i he
      rw [getSeq_rep m ms n]
      simp only
      by_cases hb : (getCols m n (s.drop (colG s m).2.1)).2.2 = 0
      · rw [if_neg (by simpa using hb), if_neg (by simpa using hb)]; rfl
      · rw [if_pos hb, if_pos hb]
theorem getSeq_snoc (m : Nat) : ∀ {ms : List Nat} {s : List UInt8} {cs : List (List Int)} {r : List UInt8}, getSeq ms s = (cs, r, 0) →
    getSeq (ms ++ [m]) s = if (colG r m).2.2 ≠ 0 then (cs, r, (colG r m).2.2) else (cs ++ [(colG r m).1], r.drop (colG r m).2.1, 0)
  | [], s, cs, r, h => by
    simp only [getSeq, Prod.mk.injEq, and_true] at h
    obtain ⟨rfl, rfl⟩ := h
    simp [getSeq]
  | k :: ms, s, cs, r, h => by
    rw [getSeq] at h
    split at h
    · rename_i he
      simp only [Prod.mk.injEq] at h; exact (he h.2.2).elim
    · rename_i he
      obtain ⟨cs', r', e', hR⟩ : ∃ a b c, getSeq ms (s.drop (colG s k).2.1) = (a, b, c) := ⟨_, _, _, rfl⟩
      rw [hR] at h
      simp only [Prod.mk.injEq] at h
      obtain ⟨rfl, rfl, rfl⟩ := h
      rw [List.cons_append, getSeq, if_neg he, getSeq_snoc m hR]
      split <;> simp
theorem getSeq_bad (ms' : List Nat) : ∀ {ms : List Nat} {s : List UInt8}, (getSeq ms s).2.2 ≠ 0 → (getSeq (ms ++ ms') s).2.2 = (getSeq ms s).2.2
  | [], s, h => by simp [getSeq] at h
  | k :: ms, s, h => by
    rw [List.cons_append, getSeq, getSeq]
    rw [getSeq] at h
    split
    · rfl
    · rename_i he
      rw [if_neg he] at h
      exact getSeq_bad ms' h
theorem getSeq_in : ∀ {ms : List Nat} {s : List UInt8} {cs : List (List Int)} {r : List UInt8}, getSeq ms s = (cs, r, 0) → cs.length = ms.length ∧ r.length ≤ s.length ∧ ∀ (j : Nat) (c : List Int), cs[j]? = some c → c.length ≤ (ms[j]?).getD 0
  | [], s, cs, r, h => by
    simp only [getSeq, Prod.mk.injEq, and_true] at h
    obtain ⟨rfl, rfl⟩ := h
    simp
  | k :: ms, s, cs, r, h => by
    rw [getSeq] at h
    split at h
    · rename_i he
      simp only [Prod.mk.injEq] at h; exact (he h.2.2).elim
    · rename_i he
      obtain ⟨cs', r', e', hR⟩ : ∃ a b c, getSeq ms (s.drop (colG s k).2.1) = (a, b, c) := ⟨_, _, _, rfl⟩
      rw [hR] at h
      simp only [Prod.mk.injEq] at h
      obtain ⟨rfl, rfl, rfl⟩ := h
      obtain ⟨h1, h2, h3⟩ := getSeq_in hR
      refine ⟨by simp [h1], by rw [List.length_drop] at h2; omega, fun j c hj => ?_⟩
      cases j with
      | zero => simp only [List.getElem?_cons_zero, Option.some.injEq] at hj; subst hj; simpa using colG_len s k
      | succ j => simpa using h3 j c (by simpa using hj)

/-- A book's columns, all read. -/
theorem getBk_seq {s : List UInt8} {n a : Nat} (hN : rdN s 0 0 1099511627776 = (n, a, 0)) {cs : List (List Int)} {r : List UInt8} {e : Int} (h : getSeq mosts (s.drop a) = (cs, r, e)) :
    (e ≠ 0 → getBk s = (zeroBk, e)) ∧ (e = 0 → ∃ x0 x1 x2 x3 y0 y1 y2 z0 z1 z2 z3 z4 z5 v0 v1 : List Int, cs = [x0, x1, x2, x3, y0, y1, y2, z0, z1, z2, z3, z4, z5, v0, v1] ∧
      (∀ c, c ∈ cs → ∀ x, x ∈ c → inK .i64 x) ∧
      getBk s = if r = [] ∧ evenB [x0, x1, x2, x3] = true ∧ evenB [y0, y1, y2] = true ∧ evenB [z0, z1, z2, z3, z4, z5] = true ∧ evenB [v0, v1] = true ∧ mayB ⟨listT 4 [x0, x1, x2, x3], listT 3 [y0, y1, y2], listT 6 [z0, z1, z2, z3, z4, z5], listT 2 [v0, v1], n⟩ = true
        then (⟨listT 4 [x0, x1, x2, x3], listT 3 [y0, y1, y2], listT 6 [z0, z1, z2, z3, z4, z5], listT 2 [v0, v1], n⟩, 0) else (zeroBk, 3)) := by
  have hm : mosts = List.replicate 4 32 ++ (List.replicate 3 1024 ++ (List.replicate 6 64 ++ (List.replicate 2 32 ++ []))) := rfl
  rw [hm, getSeq_rep] at h
  obtain ⟨c1, r1, e1, hR1⟩ : ∃ x y z, getCols 32 4 (s.drop a) = (x, y, z) := ⟨_, _, _, rfl⟩
  obtain ⟨c2, r2, e2, hR2⟩ : ∃ x y z, getCols 1024 3 r1 = (x, y, z) := ⟨_, _, _, rfl⟩
  obtain ⟨c3, r3, e3, hR3⟩ : ∃ x y z, getCols 64 6 r2 = (x, y, z) := ⟨_, _, _, rfl⟩
  obtain ⟨c4, r4, e4, hR4⟩ : ∃ x y z, getCols 32 2 r3 = (x, y, z) := ⟨_, _, _, rfl⟩
  have hB : getBk s = if e1 ≠ 0 then (zeroBk, e1) else if e2 ≠ 0 then (zeroBk, e2) else if e3 ≠ 0 then (zeroBk, e3) else if e4 ≠ 0 then (zeroBk, e4) else
      if r4 = [] ∧ evenB c1 = true ∧ evenB c2 = true ∧ evenB c3 = true ∧ evenB c4 = true ∧ mayB ⟨listT 4 c1, listT 3 c2, listT 6 c3, listT 2 c4, n⟩ = true then (⟨listT 4 c1, listT 3 c2, listT 6 c3, listT 2 c4, n⟩, 0) else (zeroBk, 3) := by
    unfold getBk
    rw [hN]
    simp only
    rw [if_neg (by simp), hR1]
    simp only
    rw [hR2]
    simp only
    rw [hR3]
    simp only
    rw [hR4]
  rw [hR1] at h
  simp only at h
  by_cases z1 : e1 = 0
  · subst z1
    rw [if_neg (by simp), getSeq_rep, hR2] at h
    rw [if_neg (by simp)] at hB
    simp only at h
    by_cases z2 : e2 = 0
    · subst z2
      rw [if_neg (by simp), getSeq_rep, hR3] at h
      rw [if_neg (by simp)] at hB
      simp only at h
      by_cases z3 : e3 = 0
      · subst z3
        rw [if_neg (by simp), getSeq_rep, hR4] at h
        rw [if_neg (by simp)] at hB
        simp only at h
        by_cases z4 : e4 = 0
        · subst z4
          rw [if_neg (by simp)] at h hB
          simp only [getSeq, List.append_nil, Prod.mk.injEq] at h
          obtain ⟨rfl, rfl, rfl⟩ := h
          refine ⟨fun h => absurd rfl h, fun _ => ?_⟩
          obtain ⟨-, l1, -, i1⟩ := getCols_get hR1
          obtain ⟨-, l2, -, i2⟩ := getCols_get hR2
          obtain ⟨-, l3, -, i3⟩ := getCols_get hR3
          obtain ⟨-, l4, -, i4⟩ := getCols_get hR4
          match c1, l1, c2, l2, c3, l3, c4, l4 with
          | [x0, x1, x2, x3], _, [y0, y1, y2], _, [z0, z1, z2, z3, z4, z5], _, [v0, v1], _ =>
            refine ⟨x0, x1, x2, x3, y0, y1, y2, z0, z1, z2, z3, z4, z5, v0, v1, rfl, fun c hc => ?_, hB⟩
            simp only [List.mem_append] at hc
            rcases hc with hc | hc | hc | hc
            · exact i1 c hc
            · exact i2 c hc
            · exact i3 c hc
            · exact i4 c hc
        · rw [if_pos z4] at h hB
          simp only [Prod.mk.injEq] at h
          obtain ⟨-, -, rfl⟩ := h
          exact ⟨fun _ => hB, fun h => absurd h z4⟩
      · rw [if_pos z3] at h hB
        simp only [Prod.mk.injEq] at h
        obtain ⟨-, -, rfl⟩ := h
        exact ⟨fun _ => hB, fun h => absurd h z3⟩
    · rw [if_pos z2] at h hB
      simp only [Prod.mk.injEq] at h
      obtain ⟨-, -, rfl⟩ := h
      exact ⟨fun _ => hB, fun h => absurd h z2⟩
  · rw [if_pos z1] at h hB
    simp only [Prod.mk.injEq] at h
    obtain ⟨-, -, rfl⟩ := h
    exact ⟨fun _ => hB, fun h => absurd h z1⟩

/-- The group's first column. -/
def grp (k : Nat) : Nat := if k < 4 then 0 else if k < 7 then 4 else if k < 13 then 7 else 13
def lenK (cs : List (List Int)) (k : Nat) : Nat := ((cs[k]?).getD []).length
def cellG (cs : List (List Int)) (g : Nat → Option Nat) (c : Nat → Nat) (i : Nat) : List Value := (List.range 15).map fun k => if k < i then sv (g k) (lenK cs k) (c k) else sv none 0 0
theorem cellG_len (cs : List (List Int)) (g : Nat → Option Nat) (c : Nat → Nat) (i : Nat) : (cellG cs g c i).length = 15 := by simp [cellG]
theorem cellG_get {cs : List (List Int)} {g : Nat → Option Nat} {c : Nat → Nat} {i k : Nat} (hk : k < i) (hi : i ≤ 15) : (cellG cs g c i)[k]? = some (sv (g k) (lenK cs k) (c k)) := by
  simp [cellG, show k < 15 by omega, hk]
theorem cellG_set {cs : List (List Int)} {x : List Int} {g : Nat → Option Nat} {c : Nat → Nat} {i : Nat} (hl : cs.length = i) (hi : i < 15) (g' : Option Nat) (c' : Nat) :
    putL (cellG cs g c i) i [sv g' x.length c'] = cellG (cs ++ [x]) (fun k => if k = i then g' else g k) (fun k => if k = i then c' else c k) (i + 1) := by
  rw [putL_one]
  apply List.ext_getElem?
  intro k
  rw [List.getElem?_set]
  by_cases hk : k < 15
  · by_cases hki : i = k
    · subst hki
      rw [if_pos rfl, if_pos (by rw [cellG_len]; omega), cellG_get (by omega) (by omega)]
      simp [lenK, snoc_get, hl]
    · rw [if_neg hki]
      by_cases hlt : k < i
      · rw [cellG_get hlt (by omega), cellG_get (by omega) (by omega)]
        simp [lenK, snoc_get, hl, Ne.symm hki]
      · simp [cellG, hk, hlt, show ¬ k < i + 1 by omega]
  · rw [if_neg (by omega), List.getElem?_eq_none (by rw [cellG_len]; omega), List.getElem?_eq_none (by rw [cellG_len]; omega)]
def rowsG (t : Nat) (cs : List (List Int)) (g : Nat → Option Nat) (c : Nat → Nat) : Nat → List Seg
  | 0 => []
  | i + 1 => Seg.row (g i) t 1 (lenK cs i) (c i) (i64s ((cs[i]?).getD [])) :: rowsG t cs g c i
theorem rowsG_congr {t : Nat} {cs cs' : List (List Int)} {g g' : Nat → Option Nat} {c c' : Nat → Nat} : ∀ {i : Nat}, (∀ k, k < i → cs[k]? = cs'[k]? ∧ g k = g' k ∧ c k = c' k) → rowsG t cs g c i = rowsG t cs' g' c' i
  | 0, _ => rfl
  | i + 1, h => by
    obtain ⟨h1, h2, h3⟩ := h i (by omega)
    rw [rowsG, rowsG, rowsG_congr (fun k hk => h k (by omega)), lenK, lenK, h1, h2, h3]
theorem rowsG_snoc {t : Nat} {cs : List (List Int)} {x : List Int} {g : Nat → Option Nat} {c : Nat → Nat} {i : Nat} (hl : cs.length = i) (g' : Option Nat) (c' : Nat) :
    Seg.row g' t 1 x.length c' (i64s x) :: rowsG t cs g c i = rowsG t (cs ++ [x]) (fun k => if k = i then g' else g k) (fun k => if k = i then c' else c k) (i + 1) := by
  rw [rowsG]
  have e1 : (cs ++ [x])[i]? = some x := by rw [snoc_get, if_pos hl.symm]
  rw [lenK, e1]
  simp only [Option.getD_some, if_true]
  rw [rowsG_congr (cs' := cs ++ [x]) (g' := fun k => if k = i then g' else g k) (c' := fun k => if k = i then c' else c k)]
  intro k hk
  rw [snoc_get, if_neg (by omega)]
  simp [show k ≠ i by omega]
theorem mosts_get {i : Nat} (hi : i < 15) : mosts[i]? = some (if 4 ≤ i ∧ i < 7 then 1024 else if 7 ≤ i ∧ i < 13 then 64 else 32) := by
  match i, hi with
  | 0, _ | 1, _ | 2, _ | 3, _ | 4, _ | 5, _ | 6, _ | 7, _ | 8, _ | 9, _ | 10, _ | 11, _ | 12, _ | 13, _ | 14, _ => rfl
theorem mosts_take {i m : Nat} (h : mosts[i]? = some m) : mosts.take (i + 1) = mosts.take i ++ [m] := by rw [List.take_add_one, h]; rfl
end Go.Eng

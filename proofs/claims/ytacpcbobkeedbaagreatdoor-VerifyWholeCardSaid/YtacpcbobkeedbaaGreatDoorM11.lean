/-
  Engine, part 17: slices that are made.
-/
import Derived.Test.YtacpcbobkeedbaaGreatDoorM10
import Derived.Laws.MakeOwn
/-
  Engine, part 17: slices that are made.
-/
namespace Go.Eng
open Go

end Go.Eng

/-
  Engine, part 18: regions that draw their order: reading operations come first, though one of them may come late.
-/
namespace Go.Eng
open Go

section
variable {P : Program} {ops : Array Oper} {md : Region.Mode} {W : World → Prop} {Q' : Exit → Act → World → Prop}

/-- Whatever order from here on; and the quiet operations that may come next yield the same in every world. -/
def qTo (P : Program) (md : Region.Mode) (ops : Array Oper) (W : World → Prop) (Q' : Exit → Act → World → Prop) (q : Nat → Bool) : Nat → Array Bool → Act → Prop
  | 0, listed, a => Region.ready md ops listed = [] ∧ ∀ w, W w → wpAny P md ops Q' 0 listed a w
  | f + 1, listed, a => (∀ w, W w → wpAny P md ops Q' (f + 1) listed a w) ∧ ∀ j, j ∈ Region.ready md ops listed → q j = true → qOp P ops W j (qTo P md ops W Q' q f (listed.setIfInBounds j true)) a
theorem qTo_wp {q : Nat → Bool} : ∀ {f : Nat} {listed : Array Bool} {a : Act} {w : World}, qTo P md ops W Q' q f listed a → W w → wpAny P md ops Q' f listed a w
  | 0, _, _, _, h, hw => h.2 _ hw
  | _ + 1, _, _, _, h, hw => h.1 _ hw

theorem qTo_first {q : Nat → Bool} {i : Nat} {oi : Oper} {v : Value} {Cl : Array Bool} (hi : ops[i]? = some oi) (hsel : ∀ (j : Nat) (o : Oper) cs b, ops[j]? = some o → o.op ≠ .select cs b)
    (hsz : Cl.size = ops.size) (hCl : ∀ j, j ∈ Region.ready md ops Cl → j = i) (hq : ∀ j, Cl.getD j false = true → q j = true) :
    ∀ (f : Nat) (listed : Array Bool) (a : Act), (∀ j, listed.getD j false = true → Cl.getD j false = true) →
      (∀ j oj, ops[j]? = some oj → j ≠ i → listed.getD j true = false → (∀ e ∈ oj.after, Region.binds md e = true → e.on ≠ i) → oi.apart ops oj = true) →
      i ∈ Region.ready md ops listed → YieldsIn P ops W oi v a → qTo P md ops W Q' q f (listed.setIfInBounds i true) (a.put oi.dst v) → qTo P md ops W Q' q (f + 1) listed a := by
  have inCl : ∀ (listed : Array Bool), (∀ j, listed.getD j false = true → Cl.getD j false = true) → ∀ j, j ∈ Region.ready md ops listed → j ≠ i → Cl.getD j false = true := by
    intro listed hsub j hj hji
    cases hc : Cl.getD j false with
    | true => rfl
    | false =>
      obtain ⟨_, oj, hoj, hall⟩ := mem_ready.1 hj
      have hlt : j < ops.size := (Array.getElem?_eq_some_iff.1 hoj).1
      exact absurd (hCl j (mem_ready.2 ⟨getD_in (by omega) hc, oj, hoj, fun e he hb => hsub _ (hall e he hb)⟩)) hji
  intro f
  induction f with
  | zero =>
    intro listed a hsub _ hr hy H
    have all : ∀ j, j ∈ Region.ready md ops listed → qOp P ops W j (qTo P md ops W Q' q 0 (listed.setIfInBounds j true)) a := by
      intro j hj
      by_cases hji : j = i
      · subst hji; exact hy.qOp hi H
      · have := ready_mono hj hji
        rw [H.1] at this; cases this
    exact ⟨fun w hw => ⟨fun h => (by rw [h] at hr; cases hr), fun j hj => wpOp_of_qOp hw (fun a' w' hw' h => qTo_wp h hw') (all j hj)⟩, fun j hj _ => all j hj⟩
  | succ f ih =>
    intro listed a hsub hfree hr hy H
    have all : ∀ j, j ∈ Region.ready md ops listed → qOp P ops W j (qTo P md ops W Q' q (f + 1) (listed.setIfInBounds j true)) a := by
      intro j hj
      by_cases hji : j = i
      · subst hji; exact hy.qOp hi H
      · have hjc := inCl listed hsub j hj hji
        have h1 := H.2 j (ready_mono hj hji) (hq j hjc)
        obtain ⟨hjun, oj, hoj, hall⟩ := mem_ready.1 hj
        have hun := (mem_ready.1 hr).1
        have hnot : ∀ e ∈ oj.after, Region.binds md e = true → e.on ≠ i := fun e he hb heq => by
          have h1 := hall e he hb
          rw [heq, getD_both hun] at h1
          cases h1
        have h2 := qOp_put hoj (hfree j oj hoj hji hjun hnot) (fun cs b => hsel i oi cs b hi) (fun cs b => hsel j oj cs b hoj) hy h1
        have hfree' : ∀ k ok, ops[k]? = some ok → k ≠ i → (listed.setIfInBounds j true).getD k true = false → (∀ e ∈ ok.after, Region.binds md e = true → e.on ≠ i) → oi.apart ops ok = true := fun k ok hk hki hun hno => by
          refine hfree k ok hk hki ?_ hno
          by_cases hjk : j = k
          · subst hjk; exact hjun
          · rw [getD_set_ne true hjk] at hun; exact hun
        have hsub' : ∀ k, (listed.setIfInBounds j true).getD k false = true → Cl.getD k false = true := fun k hk => by
          by_cases hjk : j = k
          · subst hjk; exact hjc
          · rw [getD_set_ne false hjk] at hk; exact hsub k hk
        refine qOp_mono (fun a' h3 => ih (listed.setIfInBounds j true) a' hsub' hfree' (ready_mono hr (Ne.symm hji)) h3.1 ?_) h2
        rw [Array.setIfInBounds_comm _ _ hji]
        exact h3.2
    exact ⟨fun w hw => ⟨fun h => (by rw [h] at hr; cases hr), fun j hj => wpOp_of_qOp hw (fun a' w' hw' h => qTo_wp h hw') (all j hj)⟩, fun j hj _ => all j hj⟩

/-- All that may come while i does not. -/
def clo (md : Region.Mode) (ops : Array Oper) (i : Nat) : Nat → Array Bool → Array Bool
  | 0, l => l
  | f + 1, l => clo md ops i f ((Region.ready md ops l).foldl (fun l j => bif Nat.beq j i then l else l.setIfInBounds j true) l)
def subB (a b : Array Bool) : Bool := (List.range a.size).all fun j => !a.getD j false || b.getD j false
def chkQ (md : Region.Mode) (ops : Array Oper) (n : Nat) : Nat → Nat → Array Bool → Bool
  | 0, _, _ => true
  | f + 1, k, listed => (Region.ready md ops listed).contains k && Region.free md ops listed k && Nat.beq (clo md ops k 6 listed).size ops.size && (Region.ready md ops (clo md ops k 6 listed)).all (fun j => Nat.beq j k) &&
      (List.range ops.size).all (fun j => !(clo md ops k 6 listed).getD j false || Nat.ble (j + 1) n) && subB listed (clo md ops k 6 listed) && chkQ md ops n f (k + 1) (listed.setIfInBounds k true)

theorem qTo_lex {n g : Nat} {lst : Array Bool} (hsel : Region.noSelect ops = true) :
    ∀ (l : List Oper) (k : Nat) (listed : Array Bool) (a : Act), (∀ j, j < l.length → l[j]? = ops[k + j]?) → markTo l.length k listed = lst → chkQ md ops n l.length k listed = true →
      wpQuiet P ops W (qTo P md ops W Q' (fun j => Nat.ble (j + 1) n) g lst) l a → qTo P md ops W Q' (fun j => Nat.ble (j + 1) n) (g + l.length) listed a
  | [], k, listed, a, _, hm, _, h => by
    have : listed = lst := hm
    subst this
    exact h
  | o :: l, k, listed, a, hl, hm, hB, h => by
    have h0 : ops[k]? = some o := by simpa using (hl 0 (by simp)).symm
    simp only [List.length_cons, chkQ, Bool.and_eq_true] at hB
    obtain ⟨⟨⟨⟨⟨⟨hr, hf⟩, hs⟩, hc⟩, hq⟩, hsub⟩, hB'⟩ := hB
    have hr' : k ∈ Region.ready md ops listed := by simpa using hr
    have hst : qOp P ops W k (wpQuiet P ops W (qTo P md ops W Q' (fun j => Nat.ble (j + 1) n) g lst) l) a := by unfold qOp; simp only [h0]; exact h
    obtain ⟨v, hy, hK⟩ := yieldsIn_of_qOp h0 hst
    have hsz := Nat.eq_of_beq_eq_true hs
    refine qTo_first h0 (Region.noSelect_spec hsel) hsz (fun j hj => Nat.eq_of_beq_eq_true (List.all_eq_true.1 hc j hj)) (fun j hj => ?_) _ listed a (fun j hj => ?_) (Region.free_spec h0 hf) hr' hy
      (qTo_lex hsel l (k + 1) _ _ (fun j hj => by have := hl (j + 1) (by simp; omega); simpa [Nat.add_assoc, Nat.add_comm 1 j] using this) hm hB' hK)
    · by_cases hjs : j < ops.size
      · have := List.all_eq_true.1 hq j (List.mem_range.2 hjs)
        rw [hj] at this
        simpa using this
      · rw [Array.getD_eq_getD_getElem?, Array.getElem?_eq_none (by omega)] at hj; cases hj
    · by_cases hjs : j < listed.size
      · have := List.all_eq_true.1 hsub j (List.mem_range.2 hjs)
        rw [hj] at this
        simpa using this
      · rw [Array.getD_eq_getD_getElem?, Array.getElem?_eq_none (by omega)] at hj; cases hj
end

/-- What is asked of a region whose operations k.. are read first, where b, one that reads, may come before or behind t. -/
structure LateOk (P : Program) (c : Code) (p : List Nat) (k m b t : Nat) (listed lst : Array Bool) : Prop where
  sel : Region.noSelect (opsOf c p) = true
  le : Nat.ble (k + m) (opsOf c p).size = true
  noStore : ((opsOf c p).toList.take (k + m)).all (fun o => !isStore o.op) = true
  mark : markTo m k listed = lst
  chk : chkQ .any (opsOf c p) (k + m) m k listed = true
  two : Region.ready .any (opsOf c p) lst = [b, t]
  hb : Nat.ble (b + 1) (k + m) = true
  ht : Nat.ble (k + m) t = true
  rest : (Region.ready .any (opsOf c p) (lst.setIfInBounds b true)).all (fun j => Nat.ble (k + m) j) = true

/-- A store into a known block, at whatever place. -/
theorem OpOk.storeBlk {C : Ctx} {env : Env} {bx : Bx} {hp : List Seg} {S : Base} {o : Oper} {K : Value → Bx → List Seg → Prop} {t t' : TypeId} {x y : Operand} {v : Value} {l cs : List Value} {b off : Nat} {ob : Prop} (i : Nat)
    (ho : o.op = .store t x y) (hx : Env.ev env x = some (.pointer (some ⟨b, off, none⟩))) (hy : Env.ev env y = some v) (hc : cellsT C.P t v = some (l, ob)) (hob : ob) (hi : nth bx i = some (b, t', cs)) (hl : off + l.length ≤ cs.length)
    (hk : K undef (setL bx i (b, t', putL cs off l)) hp) : OpOk C o env bx hp S K := by
  intro w hw ρ hρ
  have hb : w.heap[b]? = some (.cells cs.toArray t' (0, 0)) := hw.bx _ (nth_mem hi)
  have hst := cellsT_store (P := C.P) hc hob hb hl
  refine .inl ⟨undef, _, _, hp, .inr ⟨?_, rfl⟩, hw.setBlk hi (w' := w.setRow b (putL cs off l).toArray) rfl rfl rfl (by simp) (setRow_heap w b _ _ t' (0, 0) hb) (fun k hk => setRow_other w b k _ hk), hk⟩
  unfold execOp; simp only [ho, hρ _ _ hx, hρ _ _ hy, Sem.run_bind, hst, Result.andThen_ok, Sem.run_pure]
end Go.Eng

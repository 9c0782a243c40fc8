/-
  Engine, part 1: places in a function's code, what is known of a frame, and runs from a place.
-/
import Derived.WalkKit
namespace Go.Eng
open Go

/-- What is known of a frame's slots; the first entry of a slot counts. -/
abbrev Env := List (Nat × Value)

def Env.get : List (Nat × Value) → Nat → Option Value
  | [], _ => none
  | (i, v) :: e, j => bif Nat.beq i j then some v else Env.get e j

def Env.ev (env : Env) : Operand → Option Value
  | .tmp t => Env.get env t
  | .const v => some v
  | .global g => some (.pointer (some ⟨g, 0, none⟩))
  | .func f => some (.func (.func f) #[] #[])

def Knows (env : Env) (tm : Array Value) : Prop := ∀ i v, Env.get env i = some v → tm[i]? = some v

theorem Knows.nil (tm : Array Value) : Knows [] tm := by intro i v h; simp [Env.get] at h

theorem Knows.put {env : Env} {tm : Array Value} (h : Knows env tm) (d : Nat) (v : Value) (hd : d < tm.size) : Knows ((d, v) :: env) (tm.setIfInBounds d v) := by
  intro i u hi
  simp only [Env.get] at hi
  rw [Array.getElem?_setIfInBounds]
  cases hb : Nat.beq d i with
  | true =>
    have : d = i := Nat.eq_of_beq_eq_true hb
    subst this
    rw [hb] at hi; simp only [cond_true, Option.some.injEq] at hi
    subst hi
    rw [if_pos rfl, if_pos hd]
  | false =>
    have hne : d ≠ i := by intro e; subst e; simp at hb
    rw [hb] at hi; simp only [cond_false] at hi
    rw [if_neg hne]; exact h i u hi

/-- The operand's value in a frame. -/
def fev (tm : Array Value) : Operand → Value
  | .tmp t => tm.getD t undef
  | .const v => v
  | .global g => .pointer (some ⟨g, 0, none⟩)
  | .func f => .func (.func f) #[] #[]

theorem Knows.ev {env : Env} {tm : Array Value} (h : Knows env tm) {x : Operand} {v : Value} (hx : Env.ev env x = some v) : fev tm x = v := by
  cases x with
  | tmp t =>
    have := h t v hx
    simp only [fev, Array.getD_eq_getD_getElem?, this, Option.getD_some]
  | const u => simpa [Env.ev, fev] using hx
  | «global» g => simpa [Env.ev, fev] using hx
  | func f => simpa [Env.ev, fev] using hx

/-- One list of entries is part of what another one knows. -/
def Sub : Env → Env → Prop
  | [], _ => True
  | (i, v) :: l, e => Env.get e i = some v ∧ Sub l e

theorem Sub.get {l e : Env} (h : Sub l e) {i : Nat} {v : Value} (hi : Env.get l i = some v) : Env.get e i = some v := by
  induction l with
  | nil => simp [Env.get] at hi
  | cons x l ih =>
    obtain ⟨j, u⟩ := x
    simp only [Env.get] at hi
    cases hb : Nat.beq j i with
    | true =>
      rw [hb] at hi; simp only [cond_true, Option.some.injEq] at hi
      have : j = i := Nat.eq_of_beq_eq_true hb
      subst this; subst hi; exact h.1
    | false => rw [hb] at hi; exact ih h.2 hi

theorem Knows.sub {l e : Env} {tm : Array Value} (h : Knows e tm) (hs : Sub l e) : Knows l tm := fun _ _ hi => h _ _ (hs.get hi)

/-- A place in code: a child of a piece of code. -/
def child : Code → Nat → Code
  | .seq a b, i => match i with | 0 => a | _ => b
  | .cond _ a b, i => match i with | 0 => a | _ => b
  | .block _ c, _ => c
  | .loop c, _ => c
  | .scope c, _ => c
  | c, _ => c

def sub (c : Code) : List Nat → Code
  | [] => c
  | i :: p => child (sub c p) i

def kont (c : Code) (tl : List Item) : List Nat → List Item
  | [] => tl
  | i :: p => match sub c p with
    | .seq _ b => (match i with | 0 => [Item.code b] | _ => []) ++ kont c tl p
    | .block id _ => .inBlock id :: kont c tl p
    | .loop b => .inLoop b :: kont c tl p
    | .scope b => .inScope b :: kont c tl p
    | _ => kont c tl p

/-- t = 0: ahead of the code at p; 1: behind it; 2: at the loop's end at p, ahead of a further round; 3: in the region at p, with the operations l to come. -/
structure Loc where
  t : Nat
  p : List Nat
  l : List Nat

def items (c : Code) (tl : List Item) (x : Loc) : List Item :=
  match x.t with
  | 0 => .code (sub c x.p) :: kont c tl x.p
  | 1 => kont c tl x.p
  | 2 => (match sub c x.p with | .loop b => [Item.inLoop b] | _ => []) ++ kont c tl x.p
  | _ => (match sub c x.p with | .region _ ops _ => [Item.inRegion ops x.l] | _ => []) ++ kont c tl x.p

def exitPos (c : Code) (id : Nat) : List Nat → Option (List Nat)
  | [] => none
  | _ :: p => match sub c p with
    | .block id' _ => bif Nat.beq id' id then some p else exitPos c id p
    | _ => exitPos c id p

theorem kont_seq0 {c : Code} {tl : List Item} {p : List Nat} {a b : Code} (h : sub c p = .seq a b) : kont c tl (0 :: p) = .code b :: kont c tl p := by simp [kont, h]
theorem kont_seqS {c : Code} {tl : List Item} {p : List Nat} {a b : Code} {n : Nat} (h : sub c p = .seq a b) : kont c tl ((n + 1) :: p) = kont c tl p := by simp [kont, h]
theorem kont_block {c : Code} {tl : List Item} {p : List Nat} {a : Code} {id n : Nat} (h : sub c p = .block id a) : kont c tl (n :: p) = .inBlock id :: kont c tl p := by simp [kont, h]
theorem kont_loop {c : Code} {tl : List Item} {p : List Nat} {a : Code} {n : Nat} (h : sub c p = .loop a) : kont c tl (n :: p) = .inLoop a :: kont c tl p := by simp [kont, h]
theorem kont_scope {c : Code} {tl : List Item} {p : List Nat} {a : Code} {n : Nat} (h : sub c p = .scope a) : kont c tl (n :: p) = .inScope a :: kont c tl p := by simp [kont, h]
theorem kont_cond {c : Code} {tl : List Item} {p : List Nat} {a b : Code} {x : Operand} {n : Nat} (h : sub c p = .cond x a b) : kont c tl (n :: p) = kont c tl p := by simp [kont, h]
theorem kont_else {c : Code} {tl : List Item} {i : Nat} {p : List Nat} (h1 : ∀ a b, sub c p = .seq a b → False) (h2 : ∀ id b, sub c p = .block id b → False)
    (h3 : ∀ b, sub c p = .loop b → False) (h4 : ∀ b, sub c p = .scope b → False) : kont c tl (i :: p) = kont c tl p := by
  rw [kont]
  split
  · rename_i a b e; exact (h1 a b e).elim
  · rename_i a b e; exact (h2 a b e).elim
  · rename_i b e; exact (h3 b e).elim
  · rename_i b e; exact (h4 b e).elim
  · rfl

theorem exitTo_kont (c : Code) (tl : List Item) (id : Nat) : ∀ (p q : List Nat), exitPos c id p = some q → exitTo id (kont c tl p) = some (kont c tl q)
  | [], q, h => by simp [exitPos] at h
  | i :: p, q, h => by
    have ih := exitTo_kont c tl id p q
    rw [exitPos] at h
    split at h
    · rename_i id' b hs
      rw [kont_block hs]
      cases hb : Nat.beq id' id with
      | true =>
        rw [hb] at h; simp only [cond_true, Option.some.injEq] at h
        have e : id' = id := Nat.eq_of_beq_eq_true hb
        subst e; subst h
        simp [exitTo]
      | false =>
        rw [hb] at h; simp only [cond_false] at h
        have hne : ¬ (id' = id) := by intro e; subst e; simp at hb
        simp only [exitTo, beq_iff_eq, hne, if_false]
        exact ih h
    · rename_i hnb
      have := ih h
      cases hs : sub c p with
      | seq a b => cases i with
        | zero => rw [kont_seq0 hs]; exact this
        | succ n => rw [kont_seqS hs]; exact this
      | block id' b => exact (hnb id' b hs).elim
      | loop b => rw [kont_loop hs]; exact this
      | scope b => rw [kont_scope hs]; exact this
      | _ => rw [kont_else (by simp [hs]) (by simp [hs]) (by simp [hs]) (by simp [hs])]; exact this

/-- The frame whose runs are spoken of, and what is to hold of the machine. -/
structure Ctx where
  P : Program
  fn : FuncId
  rd : Option Nat
  body : Code
  tl : List Item
  nt : Nat
  Φ : List Frame → Machine → Prop
  back : ∀ cs m m', step P m = .next m' → Φ cs m' → Φ cs m

def Ctx.fr (C : Ctx) (tm : Array Value) (df : List Deferred) (todo : List Item) : Frame :=
  { fn := C.fn, tmps := tm, todo, defers := df, mode := .run, kind := .normal, roundOf := C.rd }

/-- From this list of items on, with these slots known, in this world: it comes to what is to hold. -/
def St (C : Ctx) (todo : List Item) (df : List Deferred) (env : Env) (w : World) : Prop :=
  ∀ tm : Array Value, tm.size = C.nt → Knows env tm → ∀ cs, C.Φ cs (lone (C.fr tm df todo) cs w)

section steps
variable {C : Ctx} {tm : Array Value} {df : List Deferred} {k : List Item} {cs : List Frame} {w : World}

theorem stp {todo todo' : List Item} (h : ∀ cs, step C.P (lone (C.fr tm df todo) cs w) = .next (lone (C.fr tm df todo') cs w)) (hk : C.Φ cs (lone (C.fr tm df todo') cs w)) :
    C.Φ cs (lone (C.fr tm df todo) cs w) := C.back _ _ _ (h cs) hk

theorem s_skip : step C.P (lone (C.fr tm df (.code .skip :: k)) cs w) = .next (lone (C.fr tm df k) cs w) :=
  step_lone_go (by simp [stepG, stepG.exec, Ctx.fr])
theorem s_label {l : Nat} : step C.P (lone (C.fr tm df (.code (.label l) :: k)) cs w) = .next (lone (C.fr tm df k) cs w) :=
  step_lone_go (by simp [stepG, stepG.exec, Ctx.fr])
theorem s_inBlock {id : Nat} : step C.P (lone (C.fr tm df (.inBlock id :: k)) cs w) = .next (lone (C.fr tm df k) cs w) :=
  step_lone_go (by simp [stepG, stepG.exec, Ctx.fr])
theorem s_inScope {b : Code} : step C.P (lone (C.fr tm df (.inScope b :: k)) cs w) = .next (lone (C.fr tm df k) cs w) :=
  step_lone_go (by simp [stepG, stepG.exec, Ctx.fr])
theorem s_seq {x y : Code} : step C.P (lone (C.fr tm df (.code (.seq x y) :: k)) cs w) = .next (lone (C.fr tm df (.code x :: .code y :: k)) cs w) :=
  step_lone_go (by simp [stepG, stepG.exec, Ctx.fr])
theorem s_block {id : Nat} {c : Code} : step C.P (lone (C.fr tm df (.code (.block id c) :: k)) cs w) = .next (lone (C.fr tm df (.code c :: .inBlock id :: k)) cs w) :=
  step_lone_go (by simp [stepG, stepG.exec, Ctx.fr])
theorem s_scope {c : Code} : step C.P (lone (C.fr tm df (.code (.scope c) :: k)) cs w) = .next (lone (C.fr tm df (.code c :: .inScope c :: k)) cs w) :=
  step_lone_go (by simp [stepG, stepG.exec, Ctx.fr])
theorem s_loop {c : Code} : step C.P (lone (C.fr tm df (.code (.loop c) :: k)) cs w) = .next (lone (C.fr tm df (.code c :: .inLoop c :: k)) cs w) :=
  step_lone_go (by simp [stepG, stepG.exec, Ctx.fr])
theorem s_inLoop {c : Code} : step C.P (lone (C.fr tm df (.inLoop c :: k)) cs w) = .next (lone (C.fr tm df (.code c :: .inLoop c :: k)) cs w) :=
  step_lone_go (by simp [stepG, stepG.exec, Ctx.fr])
theorem s_exit {id : Nat} {k' : List Item} (h : exitTo id k = some k') : step C.P (lone (C.fr tm df (.code (.exit id) :: k)) cs w) = .next (lone (C.fr tm df k') cs w) :=
  step_lone_go (by simp [stepG, stepG.exec, Ctx.fr, h])
theorem s_region {id : Nat} {ops : Array Oper} : step C.P (lone (C.fr tm df (.code (.region id ops false) :: k)) cs w) = .next (lone (C.fr tm df (.inRegion ops (List.range ops.size) :: k)) cs w) :=
  step_lone_go (by simp [stepG, stepG.exec, Ctx.fr])
theorem s_regionEnd {ops : Array Oper} : step C.P (lone (C.fr tm df (.inRegion ops [] :: k)) cs w) = .next (lone (C.fr tm df k) cs w) :=
  step_lone_go (by simp [stepG, stepG.exec, Ctx.fr])
theorem s_cond {c : Operand} {x y : Code} {t : Bool} (h : fev tm c = .bool t) :
    step C.P (lone (C.fr tm df (.code (.cond c x y) :: k)) cs w) = .next (lone (C.fr tm df (.code (if t then x else y) :: k)) cs w) :=
  step_lone_go (by
    have : Frame.eval (C.fr tm df (.code (.cond c x y) :: k)) c = .bool t := by rw [← h]; cases c <;> rfl
    simp only [Ctx.fr] at this
    simp [stepG, stepG.exec, Ctx.fr, this])
end steps

/-- Steps of control alone, that no slot decides. -/
def adv (c : Code) : Loc → Option Loc
  | ⟨t, p, l⟩ => match t with
    | 0 => match sub c p with
      | .seq _ _ => some ⟨0, 0 :: p, []⟩
      | .block _ _ => some ⟨0, 0 :: p, []⟩
      | .scope _ => some ⟨0, 0 :: p, []⟩
      | .skip => some ⟨1, p, []⟩
      | .label _ => some ⟨1, p, []⟩
      | .exit id => match exitPos c id p with
        | some q => some ⟨1, q, []⟩
        | none => none
      | .region _ ops d => match d with
        | false => some ⟨3, p, List.range ops.size⟩
        | true => none
      | _ => none
    | 1 => match p with
      | [] => none
      | i :: p => match sub c p with
        | .seq _ _ => match i with
          | 0 => some ⟨0, 1 :: p, []⟩
          | _ => some ⟨1, p, []⟩
        | .loop _ => some ⟨2, p, []⟩
        | .block _ _ => some ⟨1, p, []⟩
        | .scope _ => some ⟨1, p, []⟩
        | _ => some ⟨1, p, []⟩
    | 2 => none
    | _ => match sub c p with
      | .region _ _ _ => match l with
        | [] => some ⟨1, p, []⟩
        | _ => none
      | _ => none

theorem sub_seq0 {c : Code} {p : List Nat} {a b : Code} (h : sub c p = .seq a b) : sub c (0 :: p) = a := by simp [sub, h, child]
theorem sub_seq1 {c : Code} {p : List Nat} {a b : Code} (h : sub c p = .seq a b) : sub c (1 :: p) = b := by simp [sub, h, child]
theorem sub_block {c : Code} {p : List Nat} {a : Code} {id n : Nat} (h : sub c p = .block id a) : sub c (n :: p) = a := by simp [sub, h, child]
theorem sub_loop {c : Code} {p : List Nat} {a : Code} {n : Nat} (h : sub c p = .loop a) : sub c (n :: p) = a := by simp [sub, h, child]
theorem sub_scope {c : Code} {p : List Nat} {a : Code} {n : Nat} (h : sub c p = .scope a) : sub c (n :: p) = a := by simp [sub, h, child]
theorem sub_cond0 {c : Code} {p : List Nat} {a b : Code} {x : Operand} (h : sub c p = .cond x a b) : sub c (0 :: p) = a := by simp [sub, h, child]
theorem sub_cond1 {c : Code} {p : List Nat} {a b : Code} {x : Operand} (h : sub c p = .cond x a b) : sub c (1 :: p) = b := by simp [sub, h, child]
theorem adv_ok {C : Ctx} {x y : Loc} (h : adv C.body x = some y) {df : List Deferred} {env : Env} {w : World}
    (hk : St C (items C.body C.tl y) df env w) : St C (items C.body C.tl x) df env w := by
  intro tm hs hn cs
  have hk' := hk tm hs hn cs
  clear hk
  obtain ⟨t, p, l⟩ := x
  match t, h, hk' with
  | 0, h, hk' =>
    simp only [adv] at h
    simp only [items]
    split at h
    · rename_i a b hsub
      cases h
      simp only [items, kont_seq0 hsub, sub_seq0 hsub] at hk'
      rw [hsub]; exact C.back _ _ _ s_seq hk'
    · rename_i id b hsub
      cases h
      simp only [items, kont_block hsub, sub_block hsub] at hk'
      rw [hsub]; exact C.back _ _ _ s_block hk'
    · rename_i b hsub
      cases h
      simp only [items, kont_scope hsub, sub_scope hsub] at hk'
      rw [hsub]; exact C.back _ _ _ s_scope hk'
    · rename_i hsub
      cases h
      rw [hsub]; exact C.back _ _ _ s_skip hk'
    · rename_i l hsub
      cases h
      rw [hsub]; exact C.back _ _ _ s_label hk'
    · rename_i id hsub
      split at h
      · rename_i q hq
        cases h
        rw [hsub]; exact C.back _ _ _ (s_exit (exitTo_kont _ _ _ _ _ hq)) hk'
      · cases h
    · rename_i id ops d hsub
      split at h
      · cases h
        simp only [items, hsub, List.cons_append, List.nil_append] at hk'
        rw [hsub]; exact C.back _ _ _ s_region hk'
      · cases h
    · cases h
  | 1, h, hk' =>
    cases p with
    | nil => simp [adv] at h
    | cons i p =>
      simp only [adv] at h
      simp only [items]
      split at h
      · rename_i a b hsub
        cases i with
        | zero =>
          cases h
          simp only [items, sub_seq1 hsub, kont_seqS (n := 0) hsub] at hk'
          rw [kont_seq0 hsub]; exact hk'
        | succ n =>
          cases h
          rw [kont_seqS hsub]; exact hk'
      · rename_i b hsub
        cases h
        simp only [items, hsub, List.cons_append, List.nil_append] at hk'
        rw [kont_loop hsub]; exact hk'
      · rename_i id b hsub
        cases h
        rw [kont_block hsub]; exact C.back _ _ _ s_inBlock hk'
      · rename_i b hsub
        cases h
        rw [kont_scope hsub]; exact C.back _ _ _ s_inScope hk'
      · rename_i h1 h2 h3 h4
        cases h
        rw [kont_else h1 h3 h2 h4]; exact hk'
  | 2, h, _ => simp [adv] at h
  | t + 3, h, hk' =>
    simp only [adv] at h
    split at h
    · rename_i id ops d hsub
      split at h
      · cases h
        simp only [items, hsub, List.cons_append, List.nil_append]
        exact C.back _ _ _ s_regionEnd hk'
      · cases h
    · cases h
end Go.Eng

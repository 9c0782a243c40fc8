/-
  Engine, part 5: the executor.
-/
import Derived.Test.YtfpoclhenokhhaaE4
namespace Go.Eng
open Go

def forceN {α β : Type} : Nat → List α → (List α → β) → β
  | 0, l, k => k l
  | _ + 1, [], k => k []
  | n + 1, x :: l, k => forceN n l fun l' => k (x :: l')
theorem forceN_eq {α β : Type} : ∀ (n : Nat) (l : List α) (k : List α → β), forceN n l k = k l
  | 0, _, _ => rfl
  | _ + 1, [], _ => rfl
  | n + 1, x :: l, k => by simp [forceN, forceN_eq n l]

/-- A value's lists written out. -/
def forceV {β : Type} (v : Value) (k : Value → β) : β := match v with
  | .agg ⟨l⟩ => forceL l fun l' => k (.agg ⟨l'⟩)
  | .func f ⟨a⟩ ⟨b⟩ => forceL a fun a' => forceL b fun b' => k (.func f ⟨a'⟩ ⟨b'⟩)
  | v => k v
theorem forceV_eq {β : Type} (v : Value) (k : Value → β) : forceV v k = k v := by
  unfold forceV
  split
  · rw [forceL_eq]
  · rw [forceL_eq, forceL_eq]
  · rfl

def forced : Op → Bool
  | .field _ _ _ => true
  | .build _ _ => true
  | .makeFunc _ _ _ => true
  | .load _ _ => true
  | _ => false

/-- Hints to the executor. hB i: a load or store in the known block number i; hR cs: a load that finds these cells; hC v: a call that hands back v and leaves all as it was; hU v i cs: a call that writes the known block i anew. -/
structure Hint where
  k : Nat
  i : Nat
  cs : List Value
  up : List Value
abbrev hB (i : Nat) : Hint := ⟨0, i, [], []⟩
abbrev hR (cs : List Value) : Hint := ⟨1, 0, cs, []⟩
abbrev hC (v : Value) : Hint := ⟨2, 0, [v], []⟩
abbrev hL (v : Value) : Hint := ⟨4, 0, [v], []⟩
abbrev hU (v : Value) (i : Nat) (cs : List Value) : Hint := ⟨3, i, [v], cs⟩

/-- What is owed for a call that a hint answers. -/
def CallOb (P : Program) (S : Base) (bx : Bx) (hp : List Seg) (f : FuncId) (args : List Value) (V : Value) : Prop := ∀ w, WOk S bx hp w → Fun P f args w V
/-- What is owed for a look into a map that a hint answers. -/
def LookOb (P : Program) (S : Base) (bx : Bx) (hp : List Seg) (t : TypeId) (x y : Value) (ok : Bool) (V : Value) : Prop := ∀ w, WOk S bx hp w → (Instr.lookup t x y ok).run P w = .ok V w
def CallU (P : Program) (S : Base) (bx : Bx) (hp : List Seg) (f : FuncId) (args : List Value) (V : Value) (e : Nat × TypeId × List Value) : Prop := ∀ w, WOk S bx hp w → FunU P f args w V e

/-- All arguments of a call of a function value. -/
def allArgs (fi as ca : List Value) : List Value := match fi with
  | [] => match ca with
    | [] => as
    | _ => as ++ ca
  | _ => fi ++ as ++ ca
theorem allArgs_eq (fi as ca : List Value) : allArgs fi as ca = fi ++ as ++ ca := by
  cases fi <;> cases ca <;> simp [allArgs]

structure R where
  l : List Nat
  ds : List Bool
  hs : List Hint
  env : Env
  bx : Bx
  ob : Prop

def look (dec : List (Nat × Bool)) (s : Nat) : Option Bool := match dec with
  | [] => none
  | (t, b) :: r => bif Nat.beq t s then some b else look r s

/-- A guard: is the operation wanted; by decisions made before, or the next one. -/
def guardOf (ops : List Oper) (g : Option (Nat × Bool)) (dec : List (Nat × Bool)) (ds : List Bool) (env : Env) : Option (Bool × List (Nat × Bool) × List Bool × Prop) := match g with
  | none => some (true, dec, ds, True)
  | some (j, want) => match nth ops j with
    | none => none
    | some oj => match oj.dst with
      | none => none
      | some s => match Env.get env s with
        | some (.bool b) => match look dec s with
          | some d => some (d == want, dec, ds, b = d)
          | none => match ds with
            | d :: ds => some (d == want, (s, d) :: dec, ds, b = d)
            | [] => none
        | some (.tuple _) => some (false, dec, ds, True)
        | _ => none

/-- The cells of a value of a type. -/
def cellsT (P : Program) (t : TypeId) (v : Value) : Option (List Value × Prop) := match aggT P t with
  | some true => match v with
    | .agg ⟨l⟩ => match szT P t with
      | some n => bif Nat.beq l.length n then some (l, ∀ u, u ∈ l → u.oneCell' = true) else none
      | none => none
    | _ => none
  | some false => match szT P t with
    | some n => bif Nat.beq n 1 then some ([v], v.oneCell' = true) else none
    | none => none
  | none => none

/-- The value of a type that these cells make. -/
def valT (P : Program) (t : TypeId) (cs : List Value) : Option Value := match aggT P t with
  | some true => match szT P t with
    | some n => bif Nat.beq cs.length n then some (.agg ⟨cs⟩) else none
    | none => none
  | some false => match cs with
    | [v] => some v
    | _ => none
  | none => none

/-- How many cells a load of a type takes. -/
def lenT (P : Program) (t : TypeId) : Option Nat := match aggT P t with
  | some true => szT P t
  | some false => some 1
  | none => none

def pick1 (env : Env) (c a b : Operand) (dec : List (Nat × Bool)) (ds : List Bool) : Option (Value × List Bool × Prop) := match Env.ev env c with
  | some (.bool x) => match (match c with
      | .tmp s => look dec s
      | _ => none) with
    | some d => match Env.ev env (match d with | true => a | false => b) with
      | some v => some (v, ds, x = d)
      | none => none
    | none => match ds with
      | d :: ds => match Env.ev env (match d with | true => a | false => b) with
        | some v => some (v, ds, x = d)
        | none => none
      | [] => none
  | _ => none

section
variable (P : Program) (nt : Nat) (nw : Bool) (hp : List Seg) (S : Base)

/-- One operation that is wanted: what it puts, decisions and hints that are left, the known blocks, what is owed. -/
def one1 (op : Op) (dec : List (Nat × Bool)) (ds : List Bool) (hs : List Hint) (env : Env) (bx : Bx) : Option (Value × List Bool × List Hint × Bx × Prop) := match op with
  | .pick c a b => match pick1 env c a b dec ds with
    | some (v, ds, o) => some (v, ds, hs, bx, o)
    | none => none
  | .load t x => match Env.ev env x with
    | some (.pointer (some ⟨b, off, none⟩)) => match hs with
      | ⟨k, h, cs, _⟩ :: hs => match k with
        | 0 => match nth bx h with
          | some (b', _, cs) => match lenT P t with
            | some n => match valT P t (takeL n (dropL off cs)) with
              | some v => some (v, ds, hs, bx, b = b')
              | none => none
            | none => none
          | none => none
        | 1 => match lenT P t with
          | some n => bif Nat.beq cs.length n then match valT P t cs with
              | some v => some (v, ds, hs, bx, RdW S bx hp b off cs)
              | none => none
            else none
          | none => none
        | _ => none
      | [] => none
    | _ => none
  | .store t x y => match Env.ev env x with
    | some (.pointer (some ⟨b, off, none⟩)) => match Env.ev env y with
      | some v => match hs with
        | ⟨k, h, _, _⟩ :: hs => match k with
          | 0 => match nth bx h with
            | some (b', t', cs) => match cellsT P t v with
              | some (l, o) => bif Nat.ble (off + l.length) cs.length then
                  forceL (putL cs off l) fun cs' => forceN (h + 1) (setL bx h (b', t', cs')) fun bx' => some (undef, ds, hs, bx', b = b' ∧ o)
                else none
              | none => none
            | none => none
          | _ => none
        | _ => none
      | none => none
    | _ => none
  | .lookup t x y ok => match Env.ev env x with
    | some xv => match Env.ev env y with
      | some yv => match hs with
        | ⟨k, _, cs, _⟩ :: hs => match k with
          | 4 => match cs with
            | [V] => some (V, ds, hs, bx, LookOb P S bx hp t xv yv ok V)
            | _ => none
          | _ => none
        | [] => none
      | none => none
    | none => none
  | .call c => match c.callee with
    | .value fv => match Env.ev env fv with
      | some (.func fn ⟨fi⟩ ⟨ca⟩) => match fn with
        | .func f => match evs env c.args.toList with
          | some as => match hs with
            | ⟨k, i, cs, up⟩ :: hs => match cs with
              | [V] => match k with
                | 2 => some (V, ds, hs, bx, CallOb P S bx hp f (allArgs fi as ca) V)
                | 3 => match nth bx i with
                  | some (b, t, _) => forceN (i + 1) (setL bx i (b, t, up)) fun bx' => some (V, ds, hs, bx', CallU P S bx hp f (allArgs fi as ca) V (b, t, up))
                  | none => none
                | _ => none
              | _ => none
            | [] => none
          | none => none
        | _ => none
      | _ => none
    | _ => match pure1 P nw env op with
      | some (v, o) => some (v, ds, hs, bx, o)
      | none => none
  | op => match pure1 P nw env op with
    | some (v, o) => some (v, ds, hs, bx, o)
    | none => none

def putE (dst : Option Nat) (v : Value) (env : Env) : Env := match dst with
  | some d => (d, v) :: env
  | none => env

def putK (dst : Option Nat) (v : Value) (env : Env) (k : Env → R) : R := match dst with
  | some d => k ((d, v) :: env)
  | none => k env
theorem putK_eq (dst : Option Nat) (v : Value) (env : Env) (k : Env → R) : putK dst v env k = k (putE dst v env) := by cases dst <;> rfl

/-- Operations that owe nothing. -/
def triv (nw : Bool) : Op → Bool
  | .move _ => true
  | .assign _ => true
  | .nilCheck _ => true
  | .makeFunc _ _ _ => true
  | .fieldAddr _ _ _ => true
  | .field _ _ _ => true
  | .extract _ _ => true
  | .build _ _ => true
  | .call c => match c.callee with
    | .builtin _ => true
    | _ => false
  | .convert _ _ _ => match nw with
    | true => false
    | false => true
  | .binOp op t _ _ _ => match op with
    | .and => true
    | .or => true
    | .xor => true
    | .andNot => true
    | .eql => match aggT P t with
      | some true => false
      | _ => true
    | .neq => match aggT P t with
      | some true => false
      | _ => true
    | .lss => true
    | .leq => true
    | .gtr => true
    | .geq => true
    | _ => false
  | .unOp op _ _ => match op with
    | .not => true
    | _ => false
  | _ => false

def andG (g : Option (Nat × Bool)) (o1 ob : Prop) : Prop := match g with
  | none => ob
  | some _ => o1 ∧ ob

def addOb (b : Bool) (o ob : Prop) (k : Prop → R) : R := match b with
  | true => k ob
  | false => k (o ∧ ob)
def addG (g : Option (Nat × Bool)) (o ob : Prop) (k : Prop → R) : R := match g with
  | none => k ob
  | some _ => k (o ∧ ob)

def fits (dst : Option Nat) : Bool := match dst with
  | some d => Nat.ble (d + 1) nt
  | none => true

def runOps (ops : List Oper) : List Nat → List (Nat × Bool) → List Bool → List Hint → Env → Bx → Prop → R
  | [], _, ds, hs, env, bx, ob => ⟨[], ds, hs, env, bx, ob⟩
  | i :: l, dec, ds, hs, env, bx, ob => match nth ops i with
    | none => ⟨i :: l, ds, hs, env, bx, ob⟩
    | some o => match fits nt o.dst with
      | false => ⟨i :: l, ds, hs, env, bx, ob⟩
      | true => match guardOf ops o.guard dec ds env with
        | none => ⟨i :: l, ds, hs, env, bx, ob⟩
        | some (wanted, dec, ds, o1) => addG o.guard o1 ob fun ob => match wanted with
          | false => putK o.dst undef env fun env => runOps ops l dec ds hs env bx ob
          | true => match one1 P nw hp S o.op dec ds hs env bx with
            | none => ⟨i :: l, ds, hs, env, bx, ob⟩
            | some (v, ds, hs, bx, o2) => addOb (triv P nw o.op) o2 ob fun ob => match forced o.op with
              | true => forceV v fun v => putK o.dst v env fun env => runOps ops l dec ds hs env bx ob
              | false => putK o.dst v env fun env => runOps ops l dec ds hs env bx ob

structure X where
  x : Loc
  env : Env
  bx : Bx
  ob : Prop

def exec (c : Code) : Nat → Loc → List Bool → List Hint → Env → Bx → Prop → X
  | 0, x, _, _, env, bx, ob => ⟨x, env, bx, ob⟩
  | n + 1, ⟨t, p, l⟩, ds, hs, env, bx, ob => match adv c ⟨t, p, l⟩ with
    | some y => exec c n y ds hs env bx ob
    | none => match t with
      | 0 => match sub c p with
        | .cond e _ _ => match ds with
          | d :: ds' => match Env.ev env e with
            | some (.bool b) => match d with
              | true => exec c n ⟨0, 0 :: p, []⟩ ds' hs env bx ((b = true) ∧ ob)
              | false => exec c n ⟨0, 1 :: p, []⟩ ds' hs env bx ((b = false) ∧ ob)
            | _ => ⟨⟨0, p, l⟩, env, bx, ob⟩
          | [] => ⟨⟨0, p, l⟩, env, bx, ob⟩
        | _ => ⟨⟨0, p, l⟩, env, bx, ob⟩
      | 3 => match sub c p with
        | .region _ ops _ => match runOps P nt nw hp S ops.toList l [] ds hs env bx ob with
          | ⟨l, ds, hs, env, bx, ob⟩ => match l with
            | [] => exec c n ⟨1, p, []⟩ ds hs env bx ob
            | i :: l => ⟨⟨3, p, i :: l⟩, env, bx, ob⟩
        | _ => ⟨⟨3, p, l⟩, env, bx, ob⟩
      | t => ⟨⟨t, p, l⟩, env, bx, ob⟩
end

def putT (dst : Option Nat) (v : Value) (tm : Array Value) : Array Value := match dst with
  | some d => tm.setIfInBounds d v
  | none => tm

/-- The machine's step at an operation that leaves a value. -/
theorem s_op {C : Ctx} {tm : Array Value} {df : List Deferred} {k : List Item} {cs : List Frame} {w w' : World} {ops : Array Oper} {i : Nat} {l : List Nat} {o : Oper} {v : Value}
    (ho : ops[i]? = some o) (hw : Region.wanted o (yielded ops tm) = true) (hd : ∀ c, o.op ≠ .defer c) (hr : (execOp (fev tm) o).run C.P w = .ok (.value v) w') :
    step C.P (lone (C.fr tm df (.inRegion ops (i :: l) :: k)) cs w) = .next (lone (C.fr (putT o.dst v tm) df (.inRegion ops l :: k)) cs w') := by
  refine step_lone_go ?_
  have he : Frame.eval (C.fr tm df (.inRegion ops (i :: l) :: k)) = fev tm := by funext x; cases x <;> rfl
  simp only [Ctx.fr] at he
  have hex : stepG.oper C.P true { fn := C.fn, tmps := tm, todo := .inRegion ops (i :: l) :: k, defers := df, mode := .run, kind := .normal, roundOf := C.rd } cs none w =
      stepG.apply C.P true { fn := C.fn, tmps := tm, todo := .inRegion ops (i :: l) :: k, defers := df, mode := .run, kind := .normal, roundOf := C.rd } cs none (execOp (fev tm) o) w := by
    simp only [stepG.oper, Frame.oper?, ho]
    split
    · rename_i l' c _ e; exact absurd e (hd c)
    · rw [he]
  simp only [stepG, stepG.exec, Ctx.fr, ho, Option.map_some, Option.getD_some, hw, if_true]
  rw [hex]
  simp only [stepG.apply, Sem.runT_eq, hr, GStep.bare_after, if_true]
  simp only [Frame.finish, ho, Option.bind_some]
  unfold putT; cases o.dst <;> rfl

theorem s_opSkip {C : Ctx} {tm : Array Value} {df : List Deferred} {k : List Item} {cs : List Frame} {w w' : World} {ops : Array Oper} {i : Nat} {l : List Nat} {o : Oper}
    (ho : ops[i]? = some o) (hw : Region.wanted o (yielded ops tm) = true) (hd : ∀ c, o.op ≠ .defer c) (hr : (execOp (fev tm) o).run C.P w = .ok .skip w') :
    step C.P (lone (C.fr tm df (.inRegion ops (i :: l) :: k)) cs w) = .next (lone (C.fr (putT o.dst undef tm) df (.inRegion ops l :: k)) cs w') := by
  refine step_lone_go ?_
  have he : Frame.eval (C.fr tm df (.inRegion ops (i :: l) :: k)) = fev tm := by funext x; cases x <;> rfl
  simp only [Ctx.fr] at he
  have hex : stepG.oper C.P true { fn := C.fn, tmps := tm, todo := .inRegion ops (i :: l) :: k, defers := df, mode := .run, kind := .normal, roundOf := C.rd } cs none w =
      stepG.apply C.P true { fn := C.fn, tmps := tm, todo := .inRegion ops (i :: l) :: k, defers := df, mode := .run, kind := .normal, roundOf := C.rd } cs none (execOp (fev tm) o) w := by
    simp only [stepG.oper, Frame.oper?, ho]
    split
    · rename_i l' c _ e; exact absurd e (hd c)
    · rw [he]
  simp only [stepG, stepG.exec, Ctx.fr, ho, Option.map_some, Option.getD_some, hw, if_true]
  rw [hex]
  simp only [stepG.apply, Sem.runT_eq, hr, GStep.bare_after, if_true]
  simp only [Frame.finish, ho, Option.bind_some]
  unfold putT; cases o.dst <;> rfl

theorem s_enter {C : Ctx} {tm : Array Value} {df : List Deferred} {k : List Item} {cs : List Frame} {w w' : World} {ops : Array Oper} {i : Nat} {l : List Nat} {o : Oper} {f : FuncId} {args : Array Value}
    (ho : ops[i]? = some o) (hw : Region.wanted o (yielded ops tm) = true) (hd : ∀ c, o.op ≠ .defer c) (hr : (execOp (fev tm) o).run C.P w = .ok (.enter f args) w') :
    step C.P (lone (C.fr tm df (.inRegion ops (i :: l) :: k)) cs w) = .next (lone (Frame.enter C.P f args .normal) (C.fr tm df (.inRegion ops (i :: l) :: k) :: cs) w') := by
  refine step_lone_go ?_
  have he : Frame.eval (C.fr tm df (.inRegion ops (i :: l) :: k)) = fev tm := by funext x; cases x <;> rfl
  simp only [Ctx.fr] at he
  have hex : stepG.oper C.P true { fn := C.fn, tmps := tm, todo := .inRegion ops (i :: l) :: k, defers := df, mode := .run, kind := .normal, roundOf := C.rd } cs none w =
      stepG.apply C.P true { fn := C.fn, tmps := tm, todo := .inRegion ops (i :: l) :: k, defers := df, mode := .run, kind := .normal, roundOf := C.rd } cs none (execOp (fev tm) o) w := by
    simp only [stepG.oper, Frame.oper?, ho]
    split
    · rename_i l' c _ e; exact absurd e (hd c)
    · rw [he]
  simp only [stepG, stepG.exec, Ctx.fr, ho, Option.map_some, Option.getD_some, hw, if_true]
  rw [hex]
  simp only [stepG.apply, Sem.runT_eq, hr, GStep.bare_after, if_true]
  rfl

theorem s_row {C : Ctx} {tm : Array Value} {df : List Deferred} {k : List Item} {cs : List Frame} {w w' : World} {ops : Array Oper} {i : Nat} {l : List Nat} {o : Oper} {f : String} {args : Array Value}
    (ho : ops[i]? = some o) (hw : Region.wanted o (yielded ops tm) = true) (hd : ∀ c, o.op ≠ .defer c) (hr : (execOp (fev tm) o).run C.P w = .ok (.row f args) w') :
    step C.P (lone (C.fr tm df (.inRegion ops (i :: l) :: k)) cs w) = .next (lone (Frame.ofRow C.P f args .normal) (C.fr tm df (.inRegion ops (i :: l) :: k) :: cs) w') := by
  refine step_lone_go ?_
  have he : Frame.eval (C.fr tm df (.inRegion ops (i :: l) :: k)) = fev tm := by funext x; cases x <;> rfl
  simp only [Ctx.fr] at he
  have hex : stepG.oper C.P true { fn := C.fn, tmps := tm, todo := .inRegion ops (i :: l) :: k, defers := df, mode := .run, kind := .normal, roundOf := C.rd } cs none w =
      stepG.apply C.P true { fn := C.fn, tmps := tm, todo := .inRegion ops (i :: l) :: k, defers := df, mode := .run, kind := .normal, roundOf := C.rd } cs none (execOp (fev tm) o) w := by
    simp only [stepG.oper, Frame.oper?, ho]
    split
    · rename_i l' c _ e; exact absurd e (hd c)
    · rw [he]
  simp only [stepG, stepG.exec, Ctx.fr, ho, Option.map_some, Option.getD_some, hw, if_true]
  rw [hex]
  simp only [stepG.apply, Sem.runT_eq, hr, GStep.bare_after, if_true]
  rfl

/-- A call of a function that returns, and what comes behind it. -/
theorem Φ_call {C : Ctx} {tm : Array Value} {df : List Deferred} {k : List Item} {cs : List Frame} {w w' : World} {ops : Array Oper} {i : Nat} {l : List Nat} {o : Oper} {f : FuncId} {args : Array Value} {R : Value → World → Prop}
    (ho : ops[i]? = some o) (hw : Region.wanted o (yielded ops tm) = true) (hd : ∀ c, o.op ≠ .defer c) (hr : (execOp (fev tm) o).run C.P w = .ok (.enter f args) w')
    (hc : Calls C.P f args w' (fun e w'' => ∃ v, e = .returned v ∧ R v w''))
    (hk : ∀ v w'', R v w'' → C.Φ cs (lone (C.fr (putT o.dst v tm) df (.inRegion ops l :: k)) cs w'')) : C.Φ cs (lone (C.fr tm df (.inRegion ops (i :: l) :: k)) cs w) := by
  obtain ⟨e, w'', fr, ⟨v, rfl, hR⟩, hsteps, -, hleave⟩ := hc (C.fr tm df (.inRegion ops (i :: l) :: k) :: cs)
  have h1 := s_enter (cs := cs) ho hw hd hr (k := k) (l := l) (df := df)
  have h2 := step_leave_returned (c := C.fr tm df (.inRegion ops (i :: l) :: k)) (cs := cs) hleave
  have hfin : (C.fr tm df (.inRegion ops (i :: l) :: k)).finish v = C.fr (putT o.dst v tm) df (.inRegion ops l :: k) := by
    simp only [Frame.finish, Ctx.fr, ho, Option.bind_some]
    unfold putT; cases o.dst <;> rfl
  rw [hfin] at h2
  have hs : Steps C.P (lone (C.fr tm df (.inRegion ops (i :: l) :: k)) cs w) (lone (C.fr (putT o.dst v tm) df (.inRegion ops l :: k)) cs w'') := .head h1 (Steps.trans hsteps (.one h2))
  have back : ∀ {m m' : Machine}, Steps C.P m m' → C.Φ cs m' → C.Φ cs m := by
    intro m m' ⟨n, hn⟩ hΦ
    induction n generalizing m with
    | zero => simp [runN] at hn; exact hn ▸ hΦ
    | succ n ih =>
      simp only [runN] at hn
      cases hst : step C.P m with
      | next m1 => rw [hst] at hn; exact C.back _ _ _ hst (ih hn)
      | ended o w => rw [hst] at hn; simp at hn
  exact back hs (hk v w'' hR)

theorem s_opNot {C : Ctx} {tm : Array Value} {df : List Deferred} {k : List Item} {cs : List Frame} {w : World} {ops : Array Oper} {i : Nat} {l : List Nat} {o : Oper}
    (ho : ops[i]? = some o) (hw : Region.wanted o (yielded ops tm) = false) :
    step C.P (lone (C.fr tm df (.inRegion ops (i :: l) :: k)) cs w) = .next (lone (C.fr (putT o.dst undef tm) df (.inRegion ops l :: k)) cs w) := by
  refine step_lone_go ?_
  simp only [stepG, stepG.exec, Ctx.fr, ho, Option.map_some, Option.getD_some, hw, Bool.false_eq_true, if_false]
  simp only [Frame.finish, ho, Option.bind_some]
  unfold putT; cases o.dst <;> rfl

end Go.Eng

/-
  Engine, part 7: contracts, entering and leaving a function, calls, loops, new blocks.
-/
import Derived.Test.YtfpoclhenokhhaaE6
namespace Go.Eng
open Go

def fnCtx (P : Program) (f : FuncId) (fn : Func) (R : Ending → World → Prop) : Ctx where
  P := P
  fn := f
  rd := none
  body := fn.body.getD .skip
  tl := []
  nt := fn.ntmps
  Φ := fun cs m => ∃ e w' fr, R e w' ∧ Comes P m (lone fr cs w') e ∧ fr.fn = f ∧ fr.leaving P w' e
  back := fun _ _ _ h ⟨e, w', fr, hr, hc, h1, h2⟩ => ⟨e, w', fr, hr, Comes.of_steps (.one h) hc, h1, h2⟩

def triCtx (P : Program) (f : FuncId) (fn : Func) (w : World) (m : List Nat) (Q : Value → Bx → List Seg → Prop) : Ctx := fnCtx P f fn (TriR w m Q)

def argsEnv : Nat → List Value → Env
  | _, [] => []
  | i, v :: l => (i, v) :: argsEnv (i + 1) l

theorem argsEnv_get : ∀ (l : List Value) (i j : Nat) (v : Value), Env.get (argsEnv i l) j = some v → i ≤ j ∧ l[j - i]? = some v
  | [], i, j, v, h => by simp [argsEnv, Env.get] at h
  | u :: l, i, j, v, h => by
    simp only [argsEnv, Env.get] at h
    cases hb : Nat.beq i j with
    | true =>
      rw [hb] at h; simp only [cond_true, Option.some.injEq] at h
      have := Nat.eq_of_beq_eq_true hb
      subst this; subst h
      simp
    | false =>
      rw [hb] at h; simp only [cond_false] at h
      have hne : i ≠ j := by intro e; subst e; simp at hb
      obtain ⟨h1, h2⟩ := argsEnv_get l (i + 1) j v h
      refine ⟨by omega, ?_⟩
      rw [show j - i = (j - (i + 1)) + 1 by omega]
      simpa using h2

theorem Tri.enter {P : Program} {f : FuncId} {fn : Func} {args : List Value} {w : World} {Q : Value → Bx → List Seg → Prop} (hf : P.funcs[f]? = some fn) (hb : fn.body.isSome = true) (hnm : (fn.name == "runtime.NumGoroutine") = false) (hn : Nat.ble args.length fn.ntmps = true)
    {bx : Bx} {hp : List Seg} (hown : Own bx hp w) (hk : At (triCtx P f fn w (kys bx hp) Q) ⟨0, [], []⟩ [] (argsEnv 0 args) bx hp ⟨w, kys bx hp⟩) : Tri P f args w (kys bx hp) Q := by
  refine ⟨⟨fn, hf, hb, hnm⟩, ?_⟩
  intro cs
  have hn' := Nat.le_of_ble_eq_true hn
  have h := hk w hown.wok (⟨args⟩ ++ Array.replicate (fn.ntmps - args.length) undef) (by simp [triCtx, fnCtx]; omega) (by
    intro i v hi
    obtain ⟨-, h2⟩ := argsEnv_get _ _ _ _ hi
    simp only [Nat.sub_zero] at h2
    have hlt := (List.getElem?_eq_some_iff.1 h2).1
    rw [Array.getElem?_append_left (by simpa using hlt)]
    simpa using h2) cs
  obtain ⟨c, hc⟩ := Option.isSome_iff_exists.1 hb
  simpa [triCtx, fnCtx, Ctx.fr, items, sub, kont, Frame.enter, hf, hc] using h

/-- What a function hands back. -/
def resL (P : Program) (hp : List Seg) (S : Base) (env : Env) (bx : Bx) : List ResultVar → List Hint → Option (List Value × Prop)
  | [], _ => some ([], True)
  | .tmp t :: r, hs => match Env.get env t with
    | some v => match resL P hp S env bx r hs with
      | some (vs, o) => some (v :: vs, o)
      | none => none
    | none => none
  | .cell a t :: r, hs => match one1 P false hp S (.load t (.tmp a)) [] [] hs env bx with
    | some (v, _, hs, _, o1) => match resL P hp S env bx r hs with
      | some (vs, o) => some (v :: vs, o1 ∧ o)
      | none => none
    | none => none

def tupV : List Value → Value
  | [v] => v
  | vs => .tuple ⟨vs⟩

theorem one1_load_bx {P : Program} {hp : List Seg} {S : Base} {t : TypeId} {x : Operand} {dec : List (Nat × Bool)} {ds ds' : List Bool} {hs hs' : List Hint} {env : Env} {bx bx' : Bx} {v : Value} {ob : Prop} {nw : Bool}
    (h : one1 P nw hp S (.load t x) dec ds hs env bx = some (v, ds', hs', bx', ob)) (ho : ob) {w : World} (hw : WOk S bx hp w) {ρ : Operand → Value} (hρ : Agree env ρ) :
    ∃ a, ρ x = .pointer (some a) ∧ (loadVar t a).run P w = .ok v w := by
  simp only [one1] at h
  split at h
  · rename_i b off hx
    refine ⟨_, hρ _ _ hx, ?_⟩
    have key : ∀ {cs : List Value}, valT P t cs = some v → (∀ j u, cs[j]? = some u → w.cell? ⟨b, off + j, none⟩ = some u) → (loadVar t ⟨b, off, none⟩).run P w = .ok v w := by
      intro cs hv hc
      have := valT_load (P := P) hv hc
      simpa [Instr.loadAt, Instr.sureAddr] using this
    split at h
    · split at h
      · split at h
        · rename_i hn
          split at h
          · split at h
            · rename_i hval
              simp only [Option.some.injEq, Prod.mk.injEq] at h
              obtain ⟨rfl, -, -, rfl, rfl⟩ := h
              subst ho
              exact key hval (fun j u hu => cell_known (hw.bx _ (nth_mem hn)) hu)
            · cases h
          · cases h
        · cases h
      · split at h
        · rename_i n hlen
          revert h
          cases hb : Nat.beq (List.length _) n with
          | false => intro h; cases h
          | true =>
            intro h
            simp only [cond_true] at h
            split at h
            · rename_i hval
              simp only [Option.some.injEq, Prod.mk.injEq] at h
              obtain ⟨rfl, -, -, rfl, rfl⟩ := h
              exact key hval (fun j u hu => ho w hw j u hu)
            · cases h
        · cases h
      · cases h
    · cases h
  · cases h

def resOne (tm : Array Value) : ResultVar → Sem Value
  | .tmp t => pure (tm.getD t undef)
  | .cell a t => do loadVar t (← asAddr (tm.getD a undef))

theorem resL_ok {P : Program} {hp : List Seg} {S : Base} {env : Env} {bx : Bx} {w : World} (hw : WOk S bx hp w) {tm : Array Value} (hk : Knows env tm) :
    ∀ (rs : List ResultVar) (hs : List Hint) (vs : List Value) (ob : Prop), resL P hp S env bx rs hs = some (vs, ob) → ob →
      (rs.mapM (resOne tm)).run P w = .ok vs w
  | [], hs, vs, ob, h, ho => by simp [resL] at h; simp [h.1]
  | .tmp t :: r, hs, vs, ob, h, ho => by
    simp only [resL] at h
    split at h
    · rename_i v hv
      split at h
      · rename_i us o hr
        cases h
        have ih := resL_ok hw hk r hs us _ hr ho
        have e : tm.getD t undef = v := by simp only [Array.getD_eq_getD_getElem?, hk _ _ hv, Option.getD_some]
        simp only [List.mapM_cons, Sem.run_bind, resOne, Sem.run_pure, Result.andThen_ok, e, ih]
      · cases h
    · cases h
  | .cell a t :: r, hs, vs, ob, h, ho => by
    simp only [resL] at h
    split at h
    · rename_i v x1 hs' x2 o1 h1
      split at h
      · rename_i us o hr
        cases h
        have ih := resL_ok hw hk r hs' us _ hr ho.2
        obtain ⟨ad, had, hl⟩ := one1_load_bx h1 ho.1 hw hk.agree
        have e : tm.getD a undef = .pointer (some ad) := had
        simp only [List.mapM_cons, Sem.run_bind, resOne, Sem.run_pure, Result.andThen_ok, e, show asAddr (.pointer (some ad)) = pure ad from rfl, hl, ih]
      · cases h
    · cases h

theorem run_results {P : Program} {fn : Func} {tm : Array Value} {w : World} {vs : List Value}
    (h : (fn.results.toList.mapM (resOne tm)).run P w = .ok vs w) :
    (results fn tm).run P w = .ok (tupV vs) w := by
  have hu : results fn tm = (do
      let vs ← fn.results.mapM (resOne tm)
      pure (if h : vs.size = 1 then vs[0] else .tuple vs)) := by
    unfold results
    congr 1
  rw [hu, Sem.run_bind]
  have hm : (fn.results.mapM (resOne tm)).run P w = .ok vs.toArray w := by
    rw [Array.mapM_eq_mapM_toList, Sem.run_map, h]; rfl
  rw [hm]
  simp only [Result.andThen_ok, Sem.run_pure]
  match vs with
  | [] => rfl
  | [v] => simp [tupV]
  | v :: u :: l => simp [tupV]

theorem s_ret {C : Ctx} {tm : Array Value} {k : List Item} {cs : List Frame} {w : World} (hr : C.rd = none) :
    step C.P (lone (C.fr tm [] (.code .ret :: k)) cs w) = .next (lone { C.fr tm [] (.code .ret :: k) with mode := .returning } cs w) :=
  step_lone_go (by simp [stepG, stepG.exec, Ctx.fr, hr])
theorem s_end {C : Ctx} {tm : Array Value} {cs : List Frame} {w : World} (hr : C.rd = none) :
    step C.P (lone (C.fr tm [] []) cs w) = .next (lone { C.fr tm [] [] with mode := .returning } cs w) :=
  step_lone_go (by simp [stepG, stepG.exec, Ctx.fr, hr])

def isRet : Code → Bool
  | .ret => true
  | _ => false
/-- A place at which a function ends. -/
def atEnd (c : Code) (x : Loc) : Bool := match x.t with
  | 0 => isRet (sub c x.p)
  | 1 => match x.p with
    | [] => true
    | _ => false
  | _ => false

theorem At.ret {P : Program} {f : FuncId} {fn : Func} {w0 : World} {m : List Nat} {Q : Value → Bx → List Seg → Prop} {x : Loc} {env : Env} {bx : Bx} {hp : List Seg} (hs : List Hint)
    (he : atEnd (fn.body.getD .skip) x = true) (hf : P.funcs[f]? = some fn) {vs : List Value} {ob : Prop} (h : resL P hp ⟨w0, m⟩ env bx fn.results.toList hs = some (vs, ob)) (ho : ob) (hQ : Q (tupV vs) bx hp) :
    At (triCtx P f fn w0 m Q) x [] env bx hp ⟨w0, m⟩ := by
  intro w hw tm hsz hk cs
  have hres := run_results (P := P) (resL_ok hw hk _ _ _ _ h ho)
  have hR : TriR w0 m Q (.returned (tupV vs)) w := ⟨_, bx, hp, rfl, hQ, hw.ext, hw.toOwn, hw.own⟩
  obtain ⟨t, p, l⟩ := x
  match t, he with
  | 0, he =>
    have hsub : sub (fn.body.getD .skip) p = .ret := by
      simp only [atEnd, isRet] at he
      split at he
      · assumption
      · cases he
    have hst := s_ret (C := triCtx P f fn w0 m Q) (tm := tm) (k := kont (fn.body.getD .skip) [] p) (cs := cs) (w := w) rfl
    refine (triCtx P f fn w0 m Q).back _ _ _ (by simpa [items, triCtx, fnCtx, hsub] using hst) ?_
    exact ⟨_, _, _, hR, Steps.refl _ _, rfl, rfl, rfl, rfl, fn, hf, hres⟩
  | 1, he =>
    have hp0 : p = [] := by
      simp only [atEnd] at he
      split at he
      · rfl
      · cases he
    subst hp0
    have hst := s_end (C := triCtx P f fn w0 m Q) (tm := tm) (cs := cs) (w := w) rfl
    refine (triCtx P f fn w0 m Q).back _ _ _ (by simpa [items, triCtx, fnCtx, kont] using hst) ?_
    exact ⟨_, _, _, hR, Steps.refl _ _, rfl, rfl, rfl, rfl, fn, hf, hres⟩
  | 2, he => simp [atEnd] at he
  | t + 3, he => simp [atEnd] at he

theorem At.weak {C : Ctx} {x : Loc} {df : List Deferred} {env env' : Env} {bx : Bx} {hp : List Seg} {S : Base} (hk : At C x df env' bx hp S) (h : Sub env' env) : At C x df env bx hp S :=
  fun w hw tm hs hkn cs => hk w hw tm hs (hkn.sub h) cs

def isLoop : Code → Bool
  | .loop _ => true
  | _ => false

/-- A LOOP: a word that holds at each round's head, with a number that each round lowers. -/
theorem At.loop {C : Ctx} {p l : List Nat} {df : List Deferred} {env : Env} {bx : Bx} {hp : List Seg} {S : Base} (Inv : Nat → Env → Bx → List Seg → Prop) (hl : isLoop (sub C.body p) = true)
    {n : Nat} {env0 : Env} (h0 : Inv n env0 bx hp) (hsub : Sub env0 env)
    (hstep : ∀ n env bx hp, Inv n env bx hp → (∀ n' env' bx' hp', n' < n → Inv n' env' bx' hp' → At C ⟨2, p, []⟩ df env' bx' hp' S) → At C ⟨0, 0 :: p, []⟩ df env bx hp S) :
    At C ⟨0, p, l⟩ df env bx hp S := by
  obtain ⟨b, hb⟩ : ∃ b, sub C.body p = .loop b := by
    unfold isLoop at hl
    split at hl
    · exact ⟨_, by assumption⟩
    · cases hl
  have main : ∀ n, ∀ env bx hp, Inv n env bx hp → At C ⟨0, 0 :: p, []⟩ df env bx hp S := by
    intro n
    induction n using Nat.strongRecOn with
    | _ n ih =>
      intro env bx hp hI
      refine hstep n env bx hp hI (fun n' env' bx' hp' hlt hI' w hw tm hs hkn cs => ?_)
      have := ih n' hlt env' bx' hp' hI' w hw tm hs hkn cs
      simp only [items, sub_loop hb, kont_loop hb] at this
      simp only [items, hb, List.cons_append, List.nil_append]
      exact C.back _ _ _ s_inLoop this
  intro w hw tm hs hkn cs
  have := main n env0 bx hp h0 w hw tm hs (hkn.sub hsub) cs
  simp only [items, sub_loop hb, kont_loop hb] at this
  simp only [items, hb]
  exact C.back _ _ _ s_loop this

/-- The operation that stands next. -/
def opAt (c : Code) (p : List Nat) (i : Nat) : Option Oper := match sub c p with
  | .region _ ops _ => nth ops.toList i
  | _ => none

theorem opAt_items {c : Code} {tl : List Item} {p : List Nat} {i : Nat} {o : Oper} (h : opAt c p i = some o) :
    ∃ ops : Array Oper, ops[i]? = some o ∧ ∀ l, items c tl ⟨3, p, l⟩ = .inRegion ops l :: kont c tl p := by
  unfold opAt at h
  split at h
  · rename_i id ops d hs
    refine ⟨ops, by rw [nth_eq] at h; simpa using h, fun l => ?_⟩
    simp [items, hs]
  · cases h

/-- What one operation comes to, in a world that fits. -/
def OpRes (P : Program) (S : Base) (K : Value → Bx → List Seg → Prop) (r : Result Next) : Prop :=
  (∃ v w' bx' hp', (r = .ok (.value v) w' ∨ (r = .ok .skip w' ∧ v = undef)) ∧ WOk S bx' hp' w' ∧ K v bx' hp') ∨
  (∃ f args w1, r = .ok (.enter f args) w1 ∧ Calls P f args w1 (fun e w' => ∃ u, e = .returned u ∧ ∃ bx' hp', WOk S bx' hp' w' ∧ K u bx' hp'))

/-- An operation leads to K. -/
def OpOk (C : Ctx) (o : Oper) (env : Env) (bx : Bx) (hp : List Seg) (S : Base) (K : Value → Bx → List Seg → Prop) : Prop :=
  ∀ w, WOk S bx hp w → ∀ ρ, Agree env ρ → OpRes C.P S K ((execOp ρ o).run C.P w)

def notDefer : Op → Bool
  | .defer _ => false
  | _ => true
theorem notDefer_ok {op : Op} (h : notDefer op = true) : ∀ c, op ≠ .defer c := by
  intro c e; subst e; cases h

/-- The guard of an operation, decided. -/
def guardAt (c : Code) (p : List Nat) (o : Oper) (ds : List Bool) (env : Env) : Option Prop := match sub c p with
  | .region _ ops _ => match guardOf ops.toList o.guard [] ds env with
    | some (true, _, _, ob) => some ob
    | _ => none
  | _ => none

theorem Φ_step {C : Ctx} {tm : Array Value} {df : List Deferred} {k : List Item} {cs : List Frame} {w : World} {ops : Array Oper} {i : Nat} {l : List Nat} {o : Oper} {S : Base} {K : Value → Bx → List Seg → Prop}
    (ho : ops[i]? = some o) (hw : Region.wanted o (yielded ops tm) = true) (hd : ∀ c, o.op ≠ .defer c) (hr : OpRes C.P S K ((execOp (fev tm) o).run C.P w))
    (hk : ∀ v bx' hp' w', WOk S bx' hp' w' → K v bx' hp' → C.Φ cs (lone (C.fr (putT o.dst v tm) df (.inRegion ops l :: k)) cs w')) :
    C.Φ cs (lone (C.fr tm df (.inRegion ops (i :: l) :: k)) cs w) := by
  rcases hr with ⟨v, w', bx', hp', hr | ⟨hr, rfl⟩, hok, hK⟩ | ⟨f, args, w1, hr, hc⟩
  · exact C.back _ _ _ (s_op ho hw hd hr) (hk v bx' hp' w' hok hK)
  · exact C.back _ _ _ (s_opSkip ho hw hd hr) (hk undef bx' hp' w' hok hK)
  · exact Φ_call (R := fun u w' => ∃ bx' hp', WOk S bx' hp' w' ∧ K u bx' hp') ho hw hd hr (hc.mono fun e w' ⟨u, he, r⟩ => ⟨u, he, r⟩) (fun u w' ⟨bx', hp', hok, hK⟩ => hk u bx' hp' w' hok hK)

theorem At.stepE {C : Ctx} {p l : List Nat} {i : Nat} {df : List Deferred} {env : Env} {bx : Bx} {hp : List Seg} {S : Base} {o : Oper} {ob : Prop} (ds : List Bool) (ho : opAt C.body p i = some o) (hfit : fits C.nt o.dst = true) (hd : notDefer o.op = true)
    (hg : guardAt C.body p o ds env = some ob) (hob : ob) (h : OpOk C o env bx hp S (fun v bx' hp' => At C ⟨3, p, l⟩ df (putE o.dst v env) bx' hp' S)) : At C ⟨3, p, i :: l⟩ df env bx hp S := by
  intro w hw tm hs hkn cs
  unfold opAt at ho
  unfold guardAt at hg
  split at ho
  · rename_i id ops d hsub
    rw [hsub] at hg
    simp only at hg
    split at hg
    · rename_i dec' ds' ob' hgo
      simp only [Option.some.injEq] at hg
      subst hg
      have hi : ops[i]? = some o := by rw [nth_eq] at ho; simpa using ho
      have hit : ∀ l, items C.body C.tl ⟨3, p, l⟩ = .inRegion ops l :: kont C.body C.tl p := fun l => by simp [items, hsub]
      rw [hit]
      refine Φ_step hi (guardOf_ok hgo hob hkn) (notDefer_ok hd) (h w hw _ hkn.agree) (fun v bx' hp' w' hok hK => ?_)
      have := hK w' hok _ (by rw [size_put]; exact hs) (hkn.putE hs hfit v) cs
      rw [hit] at this; exact this
    · cases hg
  · cases ho

/-- ONE OPERATION, by a rule of its own. -/
theorem At.step {C : Ctx} {p l : List Nat} {i d : Nat} {df : List Deferred} {env : Env} {bx : Bx} {hp : List Seg} {S : Base} {o : Oper} {ob : Prop} (ds : List Bool) (ho : opAt C.body p i = some o) (hdst : o.dst = some d) (hfit : Nat.ble (d + 1) C.nt = true) (hd : notDefer o.op = true)
    (hg : guardAt C.body p o ds env = some ob) (hob : ob) (h : OpOk C o env bx hp S (fun v bx' hp' => At C ⟨3, p, l⟩ df ((d, v) :: env) bx' hp' S)) : At C ⟨3, p, i :: l⟩ df env bx hp S :=
  At.stepE ds ho (by rw [hdst]; exact hfit) hd hg hob (by rw [hdst]; exact h)
theorem At.step0 {C : Ctx} {p l : List Nat} {i : Nat} {df : List Deferred} {env : Env} {bx : Bx} {hp : List Seg} {S : Base} {o : Oper} {ob : Prop} (ds : List Bool) (ho : opAt C.body p i = some o) (hdst : o.dst = none) (hd : notDefer o.op = true)
    (hg : guardAt C.body p o ds env = some ob) (hob : ob) (h : OpOk C o env bx hp S (fun _ bx' hp' => At C ⟨3, p, l⟩ df env bx' hp' S)) : At C ⟨3, p, i :: l⟩ df env bx hp S :=
  At.stepE ds ho (by rw [hdst]; rfl) hd hg hob (by rw [hdst]; exact h)

theorem OpOk.box {C : Ctx} {env : Env} {bx : Bx} {hp : List Seg} {S : Base} {o : Oper} {K : Value → Bx → List Seg → Prop} {t : TypeId} {x : Operand} {v : Value} {cs : List Value}
    (ho : o.op = .box t x) (hx : Env.ev env x = some v) (hc : v.cells = ⟨cs⟩)
    (h : ∀ b, S.w0.heap.size ≤ b → K (.pointer (some ⟨b, 0, none⟩)) ((b, t, cs) :: bx) hp) : OpOk C o env bx hp S K := by
  intro w hw ρ hρ
  refine .inl ⟨.pointer (some ⟨w.heap.size, 0, none⟩), w.alloc (.cells cs.toArray t), _, _, .inl ?_, hw.newBlk rfl rfl rfl (by simp) (heap_alloc_new w _) (fun k hk => RowKit.Below.heap_alloc w _ k hk), h w.heap.size hw.ext.size⟩
  simp [execOp, ho, hρ _ _ hx, Instr.box, newVar, newRow, hc]

def zeroL (P : Program) (t : TypeId) : Option (List Value) := match P.info? t with
  | some i => match i.zero with
    | some z => match z with
      | .agg ⟨l⟩ => some l
      | .tuple _ => none
      | v => some [v]
    | none => none
  | none => none
theorem zeroL_ok {P : Program} {t : TypeId} {l : List Value} {w : World} (h : zeroL P t = some l) : ∃ z, (zeroValue t).run P w = .ok z w ∧ z.cells = ⟨l⟩ := by
  unfold zeroL at h
  split at h
  · rename_i i hi
    split at h
    · rename_i z hz
      refine ⟨z, by simp [zeroValue, typeInfo, hi, hz], ?_⟩
      split at h
      · cases h; rfl
      · cases h
      · rename_i hna _
        cases h
        cases z <;> first | rfl | exact (hna _ rfl).elim
    · cases h
  · cases h

theorem OpOk.alloc {C : Ctx} {env : Env} {bx : Bx} {hp : List Seg} {S : Base} {o : Oper} {K : Value → Bx → List Seg → Prop} {t : TypeId} {cs : List Value}
    (ho : o.op = .alloc t) (hz : zeroL C.P t = some cs)
    (h : ∀ b, S.w0.heap.size ≤ b → K (.pointer (some ⟨b, 0, none⟩)) ((b, t, cs) :: bx) hp) : OpOk C o env bx hp S K := by
  intro w hw ρ hρ
  obtain ⟨z, hz1, hz2⟩ := zeroL_ok (w := w) hz
  refine .inl ⟨.pointer (some ⟨w.heap.size, 0, none⟩), w.alloc (.cells cs.toArray t), _, _, .inl ?_, hw.newBlk rfl rfl rfl (by simp) (heap_alloc_new w _) (fun k hk => RowKit.Below.heap_alloc w _ k hk), h w.heap.size hw.ext.size⟩
  simp [execOp, ho, Instr.alloc, hz1, newVar, newRow, hz2]

/-- The masked entries of a list, and the others. -/
def selL {α : Type} : List Bool → List α → List α
  | _, [] => []
  | [], _ => []
  | b :: m, x :: l => match b with
    | true => x :: selL m l
    | false => selL m l
def remL {α : Type} : List Bool → List α → List α
  | _, [] => []
  | [], l => l
  | b :: m, x :: l => match b with
    | true => remL m l
    | false => x :: remL m l
theorem selL_perm {α : Type} : ∀ (m : List Bool) (l : List α), l.Perm (selL m l ++ remL m l)
  | m, [] => by cases m <;> simp [selL, remL]
  | [], x :: l => by simp [selL, remL]
  | true :: m, x :: l => by simp only [selL, remL, List.cons_append]; exact (selL_perm m l).cons x
  | false :: m, x :: l => by
    simp only [selL, remL]
    exact ((selL_perm m l).cons x).trans List.perm_middle.symm

theorem kys_perm {bx bx1 bx2 : Bx} {hp hp1 hp2 : List Seg} (hb : bx.Perm (bx1 ++ bx2)) (hh : hp.Perm (hp1 ++ hp2)) : (kys bx hp).Perm (kys bx1 hp1 ++ kys bx2 hp2) := by
  unfold kys
  have h1 := (hb.map (·.1)).append (hh.flatMap_right (·.keys))
  refine h1.trans ?_
  simp only [List.map_append, List.flatMap_append, List.append_assoc]
  refine List.Perm.append_left _ ?_
  rw [← List.append_assoc, ← List.append_assoc]
  exact List.Perm.append_right _ List.perm_append_comm

theorem kys_append (bx1 bx2 : Bx) (hp1 hp2 : List Seg) : (kys (bx1 ++ bx2) (hp1 ++ hp2)).Perm (kys bx1 hp1 ++ kys bx2 hp2) := kys_perm (List.Perm.refl _) (List.Perm.refl _)

/-- Behind a call that was handed some of the blocks. -/
theorem WOk.join {S : Base} {bx bm br bx' : Bx} {hp hm hr hp' : List Seg} {w w' : World} (h : WOk S bx hp w) (hb : bx.Perm (bm ++ br)) (hh : hp.Perm (hm ++ hr)) (he : Ext (kys bm hm) w w') (ho : Own bx' hp' w')
    (hk : ∀ k, k ∈ kys bx' hp' → k ∈ kys bm hm ∨ w.heap.size ≤ k) : WOk S (bx' ++ br) (hp' ++ hr) w' := by
  have hp0 := kys_perm hb hh
  have hnd := hp0.nodup_iff.1 h.nd
  have hnd' := List.nodup_append.1 hnd
  have hin : ∀ k, k ∈ kys bm hm → k ∈ kys bx hp := fun k hm' => hp0.mem_iff.2 (List.mem_append.2 (.inl hm'))
  have hin2 : ∀ k, k ∈ kys br hr → k ∈ kys bx hp := fun k hm' => hp0.mem_iff.2 (List.mem_append.2 (.inr hm'))
  have hdis : ∀ k, k ∈ kys br hr → k ∉ kys bm hm := fun k h1 h2 => hnd'.2.2 k h2 k h1 rfl
  have hpj := kys_append bx' br hp' hr
  refine ⟨?_, ?_, ?_, ?_, ?_, ?_⟩
  · exact h.ext.then he (fun k hk' => h.own k (hin k hk'))
  · refine hpj.nodup_iff.2 (List.nodup_append.2 ⟨ho.nd, hnd'.2.1, ?_⟩)
    intro a ha b hb' e
    subst e
    rcases hk a ha with h1 | h1
    · exact hdis a hb' h1
    · have := h.lt a (hin2 a hb'); omega
  · intro k hk'
    rcases List.mem_append.1 (hpj.mem_iff.1 hk') with h1 | h1
    · exact ho.lt k h1
    · exact Nat.lt_of_lt_of_le (h.lt k (hin2 k h1)) he.size
  · intro k hk'
    rcases List.mem_append.1 (hpj.mem_iff.1 hk') with h1 | h1
    · rcases hk k h1 with h2 | h2
      · exact h.own k (hin k h2)
      · exact .inr (Nat.le_trans h.ext.size h2)
    · exact h.own k (hin2 k h1)
  · intro e hm
    rcases List.mem_append.1 hm with h1 | h1
    · exact ho.bx e h1
    · have hb1 : e ∈ bx := hb.mem_iff.2 (List.mem_append.2 (.inr h1))
      have hk1 : e.1 ∈ kys br hr := mem_kys_bx h1
      rw [he.block _ (h.lt _ (mem_kys_bx hb1)) (hdis _ hk1)]
      exact h.bx e hb1
  · intro s hs
    rcases List.mem_append.1 hs with h1 | h1
    · exact ho.hp s h1
    · have hb1 : s ∈ hp := hh.mem_iff.2 (List.mem_append.2 (.inr h1))
      exact s.loc w w' (fun k hk' => he.block _ (h.lt _ (mem_kys_hp hb1 hk')) (hdis _ (mem_kys_hp h1 hk'))) (h.hp s hb1)

/-- A call's function and arguments. -/
def callOf (env : Env) : Op → Option (FuncId × List Value)
  | .call c => match c.callee with
    | .value fv => match Env.ev env fv with
      | some (.func fn ⟨fi⟩ ⟨ca⟩) => match fn with
        | .func f => match evs env c.args.toList with
          | some as => some (f, allArgs fi as ca)
          | none => none
        | _ => none
      | _ => none
    | _ => none
  | _ => none

theorem callOf_ok {P : Program} {env : Env} {o : Oper} {f : FuncId} {args : List Value} (h : callOf env o.op = some (f, args)) (hcb : Callable P f) {ρ : Operand → Value} (hρ : Agree env ρ) {w : World} :
    (execOp ρ o).run P w = .ok (.enter f ⟨args⟩) w := by
  unfold callOf at h
  split at h
  · rename_i c hop
    split at h
    · rename_i fv hcal
      split at h
      · rename_i fn fi ca hfv
        split at h
        · rename_i f'
          split at h
          · rename_i as has
            simp only [Option.some.injEq, Prod.mk.injEq] at h
            obtain ⟨rfl, rfl⟩ := h
            unfold execOp
            rw [hop, allArgs_eq, ← callFunc_ok hcb]
            exact resolve_value hcal (hρ _ _ hfv) (evs_ok hρ has)
          · cases h
        · cases h
      · cases h
    · cases h
  · cases h

/-- A CALL: of the known blocks those that the masks name are handed over. -/
theorem OpOk.callM {C : Ctx} {env : Env} {bx : Bx} {hp : List Seg} {S : Base} {o : Oper} {K : Value → Bx → List Seg → Prop} {f : FuncId} {args : List Value} {Q : Value → Bx → List Seg → Prop} (mb mh : List Bool) {bm br : Bx} {hm hr : List Seg}
    (hcall : callOf env o.op = some (f, args)) (hsel : forceL (selL mb bx) (fun a => forceL (selL mh hp) fun b => forceL (remL mb bx) fun c => forceL (remL mh hp) fun d => (a, b, c, d)) = (bm, hm, br, hr))
    (hc : ∀ w, WOk S bx hp w → Tri C.P f args w (kys bm hm) Q) (hk : ∀ v bx' hp', Q v bx' hp' → K v (bx' ++ br) (hp' ++ hr)) : OpOk C o env bx hp S K := by
  simp only [forceL_eq, Prod.mk.injEq] at hsel
  obtain ⟨rfl, rfl, rfl, rfl⟩ := hsel
  intro w hw ρ hρ
  obtain ⟨hcb, hcl⟩ := hc w hw
  refine .inr ⟨f, ⟨args⟩, w, callOf_ok hcall hcb hρ, hcl.mono ?_⟩
  rintro e w' ⟨v, bx', hp', he, hQ, hext, hown, hkk⟩
  exact ⟨v, he, _, _, hw.join (selL_perm mb bx) (selL_perm mh hp) hext hown hkk, hk v bx' hp' hQ⟩

/-- A CALL that is handed nothing. -/
theorem OpOk.call {C : Ctx} {env : Env} {bx : Bx} {hp : List Seg} {S : Base} {o : Oper} {K : Value → Bx → List Seg → Prop} {f : FuncId} {args : List Value} {Q : Value → Bx → List Seg → Prop}
    (hcall : callOf env o.op = some (f, args)) (hc : ∀ w, WOk S bx hp w → Tri C.P f args w [] Q) (hk : ∀ v bx' hp', Q v bx' hp' → K v (bx' ++ bx) (hp' ++ hp)) : OpOk C o env bx hp S K := by
  intro w hw ρ hρ
  obtain ⟨hcb, hcl⟩ := hc w hw
  refine .inr ⟨f, ⟨args⟩, w, callOf_ok hcall hcb hρ, hcl.mono ?_⟩
  rintro e w' ⟨v, bx', hp', he, hQ, hext, hown, hkk⟩
  exact ⟨v, he, _, _, hw.join (bm := []) (hm := []) (List.Perm.refl _) (List.Perm.refl _) hext hown hkk, hk v bx' hp' hQ⟩

/-- What is known may be forgotten, and told in another order. -/
theorem At.keep {C : Ctx} {x : Loc} {df : List Deferred} {env : Env} {bx br : Bx} {hp hr : List Seg} {S : Base} (mb mh : List Bool)
    (hsel : forceL (selL mb bx) (fun a => forceL (selL mh hp) fun b => (a, b)) = (br, hr)) (hk : At C x df env br hr S) : At C x df env bx hp S := by
  simp only [forceL_eq, Prod.mk.injEq] at hsel
  obtain ⟨rfl, rfl⟩ := hsel
  intro w hw
  have hp1 := selL_perm mb bx
  have hp2 := selL_perm mh hp
  have hkp := kys_perm hp1 hp2
  refine hk w ⟨hw.ext, (List.nodup_append.1 (hkp.nodup_iff.1 hw.nd)).1, fun k hk' => hw.lt k (hkp.mem_iff.2 (List.mem_append.2 (.inl hk'))), fun k hk' => hw.own k (hkp.mem_iff.2 (List.mem_append.2 (.inl hk'))),
    fun e he => hw.bx e (hp1.mem_iff.2 (List.mem_append.2 (.inl he))), fun s hs => hw.hp s (hp2.mem_iff.2 (List.mem_append.2 (.inl hs)))⟩
theorem At.perm {C : Ctx} {x : Loc} {df : List Deferred} {env : Env} {bx br : Bx} {hp hr : List Seg} {S : Base} (hb : bx.Perm br) (hh : hp.Perm hr) (hk : At C x df env br hr S) : At C x df env bx hp S := by
  intro w hw
  have hkp : (kys bx hp).Perm (kys br hr) := by unfold kys; exact (hb.map (·.1)).append (hh.flatMap_right (·.keys))
  exact hk w ⟨hw.ext, hkp.nodup_iff.1 hw.nd, fun k hk' => hw.lt k (hkp.mem_iff.2 hk'), fun k hk' => hw.own k (hkp.mem_iff.2 hk'), fun e he => hw.bx e (hb.mem_iff.2 he), fun s hs => hw.hp s (hh.mem_iff.2 hs)⟩
end Go.Eng

/-
  Engine, part 10: ranges over functions: the record, the rounds, the iterator's contract.
-/
import Derived.Test.YtfpoclhenokhhaaE9
import Derived.RangeFuncRecord
namespace Go.Eng
open Go

/-- The loop's record. -/
def loopSeg (l : Nat) (st : LoopState) (f : FuncId) (tm : Array Value) (ps : Array Tmp) (assign body : Code) (D : Nat) : Seg where
  keys := [l]
  ok w := w.heap[l]? = some (.loop { state := st, pending := none, fn := f, tmps := tm, params := ps, assign, body, defers := D })
  loc w w' h hk := by rw [h l (by simp)]; exact hk
/-- The block of the calls that the rounds put off: none. -/
def markSeg (D : Nat) : Seg where
  keys := [D]
  ok w := w.heap[D]? = some (.deferred (some []))
  loc w w' h hk := by rw [h D (by simp)]; exact hk

theorem WOk.turnSeg {S : Base} {bx : Bx} {s s' : Seg} {hp : List Seg} {w w' : World} (h : WOk S bx (s :: hp) w) (hkeys : s'.keys = s.keys) (hos : w'.os = w.os) (htape : w'.tape = w.tape) (hout : w'.output = w.output)
    (hsz : w'.heap.size = w.heap.size) (ho : ∀ k, k ∉ s.keys → w'.heap[k]? = w.heap[k]?) (hok : s'.ok w') : WOk S bx (s' :: hp) w' := by
  have hk : kys bx (s' :: hp) = kys bx (s :: hp) := by simp [kys, hkeys]
  have hin : ∀ k, k ∈ s.keys → k ∈ kys bx (s :: hp) := fun k hm => mem_kys_hp (List.mem_cons_self ..) hm
  have hnd := List.nodup_append.1 h.nd
  refine ⟨h.ext.then (m2 := s.keys) ⟨hos, htape, hout, by omega, fun k _ hn => ho k hn⟩ (fun k hm => h.own k (hin k hm)), by rw [hk]; exact h.nd, fun k hm => ?_, fun k hm => ?_, fun e he => ?_, fun t ht => ?_⟩
  · rw [hk] at hm; rw [hsz]; exact h.lt k hm
  · rw [hk] at hm; exact h.own k hm
  · rw [ho _ (fun hm => hnd.2.2 _ (List.mem_map_of_mem (f := (·.1)) he) _ (by simp only [List.flatMap_cons]; exact List.mem_append.2 (.inl hm)) rfl)]; exact h.bx e he
  · rcases List.mem_cons.1 ht with rfl | ht
    · exact hok
    · refine t.loc w w' (fun k hm => ho k (fun hm' => ?_)) (h.hp t (List.mem_cons_of_mem _ ht))
      have h2 := hnd.2.1
      simp only [List.flatMap_cons] at h2
      exact (List.nodup_append.1 h2).2.2 _ hm' _ (List.mem_flatMap.2 ⟨t, ht, hm⟩) rfl

/-- What a round hands back. -/
def RoundR (w : World) (m : List Nat) (Q : Bx → List Seg → Prop) (w' : World) : Prop :=
  ∃ bx hp, Q bx hp ∧ Ext m w w' ∧ Own bx hp w' ∧ ∀ k, k ∈ kys bx hp → k ∈ m ∨ w.heap.size ≤ k

def roundCtx (P : Program) (l : Nat) (f : FuncId) (c : Code) (tl : List Item) (nt : Nat) (R : World → Prop) : Ctx where
  P := P
  fn := f
  rd := some l
  body := c
  tl := tl
  nt := nt
  Φ := fun cs m => ∀ fr cs0, cs = fr :: cs0 → ∃ w', R w' ∧ Steps P m (lone (fr.finish (.bool true)) cs0 w')
  back := fun _ _ _ h hk fr cs0 e => by
    obtain ⟨w', hr, hs⟩ := hk fr cs0 e
    exact ⟨w', hr, .head h hs⟩

/-- A call of yield comes back, and its answer is yes. -/
def YieldOk (P : Program) (l : Nat) (args : List Value) (w : World) (R : World → Prop) : Prop :=
  ∃ r, w.heap[l]? = some (.loop r) ∧ args.length = r.params.size ∧ ∀ fr cs, ∃ w', R w' ∧
    Steps P (lone (Frame.round l r.fn ((r.params.zip ⟨args⟩).foldl (fun tmps (t, a) => tmps.setIfInBounds t a) r.tmps) r.assign r.body .normal) (fr :: cs) w) (lone (fr.finish (.bool true)) cs w')

def zipEnv : List (Tmp × Value) → Env → Env
  | [], env => env
  | x :: l, env => zipEnv l ((x.1, x.2) :: env)
theorem zipEnv_ok {nt : Nat} : ∀ (l : List (Tmp × Value)) (env : Env) (tm : Array Value), tm.size = nt → (∀ x, x ∈ l → x.1 < nt) → Knows env tm →
    Knows (zipEnv l env) (l.foldl (fun t x => t.setIfInBounds x.1 x.2) tm) ∧ (l.foldl (fun t x => t.setIfInBounds x.1 x.2) tm).size = nt
  | [], env, tm, hs, _, hk => ⟨hk, hs⟩
  | x :: l, env, tm, hs, hb, hk => by
    simp only [zipEnv, List.foldl_cons]
    exact zipEnv_ok l _ _ (by simpa using hs) (fun y hy => hb y (List.mem_cons_of_mem _ hy)) (hk.put x.1 x.2 (by rw [hs]; exact hb x (List.mem_cons_self ..)))

theorem YieldOk.of {P : Program} {l : Nat} {f : FuncId} {tm : Array Value} {ps : Array Tmp} {assign body : Code} {D nt : Nat} {bx : Bx} {hp : List Seg} {w : World} {args : List Value} {env : Env} {Q : Bx → List Seg → Prop}
    (hown : Own bx (loopSeg l .ready f tm ps assign body D :: hp) w) (hlen : args.length = ps.size) (hn : tm.size = nt) (hb : ∀ t, t ∈ ps.toList → t < nt) (hkn : Knows env tm)
    (hk : At (roundCtx P l f assign [.beginRound, .code body] nt (RoundR w (kys bx (loopSeg l .ready f tm ps assign body D :: hp)) Q)) ⟨0, [], []⟩ [] (zipEnv (ps.toList.zip args) env) bx (loopSeg l .ready f tm ps assign body D :: hp) ⟨w, kys bx (loopSeg l .ready f tm ps assign body D :: hp)⟩) :
    YieldOk P l args w (RoundR w (kys bx (loopSeg l .ready f tm ps assign body D :: hp)) Q) := by
  refine ⟨_, hown.hp _ (List.mem_cons_self ..), hlen, fun fr cs => ?_⟩
  obtain ⟨hz, hsz⟩ := zipEnv_ok (ps.toList.zip args) env tm hn (fun x hx => hb _ (List.of_mem_zip hx).1) hkn
  have h := hk w hown.wok _ hsz hz (fr :: cs) fr cs rfl
  obtain ⟨w', hr, hs⟩ := h
  refine ⟨w', hr, ?_⟩
  have e : (ps.zip ⟨args⟩).foldl (fun tmps (x : Tmp × Value) => tmps.setIfInBounds x.1 x.2) tm = (ps.toList.zip args).foldl (fun t x => t.setIfInBounds x.1 x.2) tm := by
    rw [← Array.foldl_toList]; simp
  simp only [Frame.round]
  rw [show (fun (tmps : Array Value) (x : Tmp × Value) => match x with | (t, a) => tmps.setIfInBounds t a) = (fun tmps x => tmps.setIfInBounds x.1 x.2) from rfl, e]
  simpa [roundCtx, Ctx.fr, items, sub, kont] using hs

theorem At.begin {P : Program} {l : Nat} {f : FuncId} {tm : Array Value} {ps : Array Tmp} {assign body c : Code} {D nt : Nat} {R : World → Prop} {env : Env} {bx : Bx} {hp : List Seg} {S : Base}
    (hk : At (roundCtx P l f body [] nt R) ⟨0, [], []⟩ [] env bx (loopSeg l .busy f tm ps assign body D :: hp) S) :
    At (roundCtx P l f c [.beginRound, .code body] nt R) ⟨1, [], []⟩ [] env bx (loopSeg l .ready f tm ps assign body D :: hp) S := by
  intro w hw t hs hkn cs
  have hl : w.heap[l]? = some _ := hw.hp _ (List.mem_cons_self ..)
  have hlt := (Array.getElem?_eq_some_iff.1 hl).1
  have hb := run_beginRound (P := P) hl rfl
  refine (roundCtx P l f c [.beginRound, .code body] nt R).back _ _ (lone ((roundCtx P l f body [] nt R).fr t [] [.code body]) cs _) ?_
    (hk _ (hw.turnSeg (s' := loopSeg l .busy f tm ps assign body D) (w' := w.putObj l (.loop { state := .busy, pending := none, fn := f, tmps := tm, params := ps, assign, body, defers := D })) rfl rfl rfl rfl World.putObj_size (fun k hn => World.putObj_heap_other (by simpa [loopSeg] using hn)) (World.putObj_heap_same hlt)) t hs hkn cs)
  simp only [items, kont, roundCtx, Ctx.fr]
  exact step_lone_go (by simp [stepG, stepG.exec, stepG.apply, Sem.runT_eq, Sem.run_bind, hb, Result.andThen, GStep.bare_after, Frame.finish])

theorem At.roundEnd {P : Program} {l : Nat} {f : FuncId} {tm : Array Value} {ps : Array Tmp} {assign body c : Code} {D nt : Nat} {w0 : World} {m : List Nat} {Q : Bx → List Seg → Prop} {env : Env} {bx : Bx} {hp : List Seg}
    (hQ : Q bx (loopSeg l .ready f tm ps assign body D :: hp)) :
    At (roundCtx P l f c [] nt (RoundR w0 m Q)) ⟨1, [], []⟩ [] env bx (loopSeg l .busy f tm ps assign body D :: hp) ⟨w0, m⟩ := by
  intro w hw t hs hkn cs fr cs0 e
  subst e
  have hl : w.heap[l]? = some _ := hw.hp _ (List.mem_cons_self ..)
  have hlt := (Array.getElem?_eq_some_iff.1 hl).1
  have hb := run_endRound (P := P) none hl
  have hw' := hw.turnSeg (s' := loopSeg l .ready f tm ps assign body D) (w' := w.putObj l (.loop { state := .ready, pending := none, fn := f, tmps := tm, params := ps, assign, body, defers := D })) rfl rfl rfl rfl World.putObj_size
    (fun k hn => World.putObj_heap_other (by simpa [loopSeg] using hn)) (World.putObj_heap_same hlt)
  refine ⟨_, ⟨bx, _, hQ, hw'.ext, hw'.toOwn, hw'.own⟩, .one ?_⟩
  simp only [items, kont, roundCtx, Ctx.fr]
  exact step_lone_go (by simp [stepG, stepG.exec, Sem.runT_eq, hb, GStep.bare_after, doReturn])

/-- A call of yield. -/
def yieldOf (env : Env) : Op → Option (Nat × List Value)
  | .call c => match c.callee with
    | .value fv => match Env.ev env fv with
      | some (.func fn ⟨fi⟩ ⟨ca⟩) => match fn with
        | .yield l => match fi with
          | [] => match ca with
            | [] => match evs env c.args.toList with
              | some as => some (l, as)
              | none => none
            | _ => none
          | _ => none
        | _ => none
      | _ => none
    | _ => none
  | _ => none
theorem yieldOf_ok {P : Program} {env : Env} {o : Oper} {l : Nat} {args : List Value} (h : yieldOf env o.op = some (l, args)) {ρ : Operand → Value} (hρ : Agree env ρ) {w : World} :
    (execOp ρ o).run P w = (Instr.yield l ⟨args⟩).run P w := by
  unfold yieldOf at h
  split at h
  · rename_i c hop
    split at h
    · rename_i fv hcal
      split at h
      · rename_i fn fi ca hfv
        split at h
        · rename_i l'
          split at h
          · split at h
            · split at h
              · rename_i as has
                simp only [Option.some.injEq, Prod.mk.injEq] at h
                obtain ⟨rfl, rfl⟩ := h
                unfold execOp
                rw [hop]
                have e : c.args.map ρ = ⟨as⟩ := by apply Array.ext'; simp [evs_ok hρ has]
                simp [resolve, hcal, hρ _ _ hfv, Deferred.ofValue, invoke, e]
              · cases h
            · cases h
          · cases h
        · cases h
      · cases h
    · cases h
  · cases h

theorem s_round {C : Ctx} {tm : Array Value} {df : List Deferred} {k : List Item} {cs : List Frame} {w w' : World} {ops : Array Oper} {i : Nat} {l : List Nat} {o : Oper} {lp : Nat} {f : FuncId} {tmps : Array Value} {assign body : Code}
    (ho : ops[i]? = some o) (hw : Region.wanted o (yielded ops tm) = true) (hd : ∀ c, o.op ≠ .defer c) (hr : (execOp (fev tm) o).run C.P w = .ok (.round lp f tmps assign body) w') :
    step C.P (lone (C.fr tm df (.inRegion ops (i :: l) :: k)) cs w) = .next (lone (Frame.round lp f tmps assign body .normal) (C.fr tm df (.inRegion ops (i :: l) :: k) :: cs) w') := by
  refine step_lone_go ?_
  have he : Frame.eval (C.fr tm df (.inRegion ops (i :: l) :: k)) = fev tm := by funext x; cases x <;> rfl
  simp only [Ctx.fr] at he
  have hex : stepG.oper C.P true { fn := C.fn, tmps := tm, todo := .inRegion ops (i :: l) :: k, defers := df, mode := .run, kind := .normal, roundOf := C.rd } cs none w =
      stepG.apply C.P true { fn := C.fn, tmps := tm, todo := .inRegion ops (i :: l) :: k, defers := df, mode := .run, kind := .normal, roundOf := C.rd } cs none (execOp (fev tm) o) w := by
    simp only [stepG.oper, Frame.oper?, ho]
    split
    · rename_i l' c _ e; exact absurd e (hd c)
    · rw [he]
  simp only [stepG, stepG.exec, Ctx.fr, ho, Option.map_some, Option.getD_some, hw, if_true]
  rw [hex]
  simp only [stepG.apply, Sem.runT_eq, hr, GStep.bare_after, if_true]
  rfl

theorem Ctx.backs (C : Ctx) {cs : List Frame} {m m' : Machine} (h : Steps C.P m m') (hΦ : C.Φ cs m') : C.Φ cs m := by
  obtain ⟨n, hn⟩ := h
  induction n generalizing m with
  | zero => simp [runN] at hn; exact hn ▸ hΦ
  | succ n ih =>
    simp only [runN] at hn
    cases hst : step C.P m with
    | next m1 => rw [hst] at hn; exact C.back _ _ _ hst (ih hn)
    | ended o w => rw [hst] at hn; simp at hn

/-- A CALL OF YIELD: what the masks name is handed over. -/
theorem At.yield {C : Ctx} {p l : List Nat} {i d : Nat} {df : List Deferred} {env : Env} {bx : Bx} {hp : List Seg} {S : Base} {o : Oper} {ob : Prop} (ds : List Bool) (ho : opAt C.body p i = some o) (hdst : o.dst = some d) (hfit : Nat.ble (d + 1) C.nt = true) (hd : notDefer o.op = true)
    (hg : guardAt C.body p o ds env = some ob) (hob : ob) {lp : Nat} {args : List Value} (hy : yieldOf env o.op = some (lp, args)) (mb mh : List Bool) {bm br : Bx} {hm hr : List Seg} {Q : Bx → List Seg → Prop}
    (hsel : forceL (selL mb bx) (fun a => forceL (selL mh hp) fun b => forceL (remL mb bx) fun c => forceL (remL mh hp) fun d => (a, b, c, d)) = (bm, hm, br, hr))
    (hc : ∀ w, WOk S bx hp w → YieldOk C.P lp args w (RoundR w (kys bm hm) Q)) (hk : ∀ bx' hp', Q bx' hp' → At C ⟨3, p, l⟩ df ((d, .bool true) :: env) (bx' ++ br) (hp' ++ hr) S) : At C ⟨3, p, i :: l⟩ df env bx hp S := by
  simp only [forceL_eq, Prod.mk.injEq] at hsel
  obtain ⟨rfl, rfl, rfl, rfl⟩ := hsel
  intro w hw tm hs hkn cs
  unfold opAt at ho
  unfold guardAt at hg
  split at ho
  · rename_i id ops d' hsub
    rw [hsub] at hg
    simp only at hg
    split at hg
    · rename_i dec' ds' ob' hgo
      simp only [Option.some.injEq] at hg
      subst hg
      have hi : ops[i]? = some o := by rw [nth_eq] at ho; simpa using ho
      have hit : ∀ l, items C.body C.tl ⟨3, p, l⟩ = .inRegion ops l :: kont C.body C.tl p := fun l => by simp [items, hsub]
      obtain ⟨r, hr1, hr2, hr3⟩ := hc w hw
      have hex := yieldOf_ok (P := C.P) hy hkn.agree (w := w)
      rw [run_yield hr1 (by simpa using hr2)] at hex
      rw [hit]
      obtain ⟨w', ⟨bx', hp', hQ, hext, hown, hkk⟩, hst⟩ := hr3 (C.fr tm df (.inRegion ops (i :: l) :: kont C.body C.tl p)) cs
      have h1 := s_round (cs := cs) hi (guardOf_ok hgo hob hkn) (notDefer_ok hd) hex (k := kont C.body C.tl p) (l := l) (df := df)
      have hfin : (C.fr tm df (.inRegion ops (i :: l) :: kont C.body C.tl p)).finish (.bool true) = C.fr (putT (some d) (.bool true) tm) df (.inRegion ops l :: kont C.body C.tl p) := by
        simp only [Frame.finish, Ctx.fr, hi, Option.bind_some, hdst, putT]
      rw [hfin] at hst
      refine C.backs (.head h1 hst) ?_
      have hw' := hw.join (selL_perm mb bx) (selL_perm mh hp) hext hown hkk
      have := hk bx' hp' hQ w' hw' (putT (some d) (.bool true) tm) (by rw [size_put]; exact hs) (hkn.putE (dst := some d) hs hfit (.bool true)) cs
      rw [hit] at this
      exact this
    · cases hg
  · cases ho

theorem WOk.laidSeg {S : Base} {bx : Bx} {hp : List Seg} {w : World} (h : WOk S bx hp w) (o : Obj) (s : Seg) (hkeys : s.keys = [w.heap.size]) (hok : s.ok (w.alloc o)) : WOk S bx (s :: hp) (w.alloc o) := by
  have hlt : ∀ k, k < w.heap.size → (w.alloc o).heap[k]? = w.heap[k]? := fun k hk => RowKit.Below.heap_alloc w _ k hk
  have hk : (kys bx (s :: hp)).Perm (w.heap.size :: kys bx hp) := by
    simp only [kys, List.flatMap_cons, hkeys]
    exact List.perm_middle
  refine ⟨h.ext.trans ⟨rfl, rfl, rfl, by simp, fun k hk _ => hlt k hk⟩, hk.nodup_iff.2 (List.nodup_cons.2 ⟨fun hm => Nat.lt_irrefl _ (h.lt _ hm), h.nd⟩), fun k hm => ?_, fun k hm => ?_, fun e he => ?_, fun t ht => ?_⟩
  · rcases List.mem_cons.1 (hk.mem_iff.1 hm) with rfl | hm
    · simp
    · have := h.lt k hm; simp; omega
  · rcases List.mem_cons.1 (hk.mem_iff.1 hm) with rfl | hm
    · exact .inr h.ext.size
    · exact h.own k hm
  · rw [hlt _ (h.lt _ (mem_kys_bx he))]; exact h.bx e he
  · rcases List.mem_cons.1 ht with rfl | ht
    · exact hok
    · exact t.loc w _ (fun k hm => hlt k (h.lt _ (mem_kys_hp ht hm))) (h.hp t ht)

def rangeAt (c : Code) (p : List Nat) : Option (Operand × Array Tmp × Code × Code) := match sub c p with
  | .rangeFunc g ps a b => some (g, ps, a, b)
  | _ => none

/-- A function value without bound parts ahead. -/
def funcOf (env : Env) (g : Operand) : Option (FuncId × List Value) := match Env.ev env g with
  | some (.func fn ⟨fi⟩ ⟨ca⟩) => match fn with
    | .func f => match fi with
      | [] => some (f, ca)
      | _ => none
    | _ => none
  | _ => none

theorem s_range {C : Ctx} {tm : Array Value} {df : List Deferred} {k : List Item} {cs : List Frame} {w : World} {g : Operand} {ps : Array Tmp} {assign body : Code} {f : FuncId} {ca : List Value}
    (hrd : C.rd = none) (hg : fev tm g = .func (.func f) #[] ⟨ca⟩) (hcb : Callable C.P f) :
    step C.P (lone (C.fr tm df (.code (.rangeFunc g ps assign body) :: k)) cs w) = .next (lone (Frame.enter C.P f ⟨.func (.yield (w.heap.size + 1)) #[] #[] :: ca⟩ .normal)
      (C.fr tm ({ target := .collected w.heap.size, args := #[] } :: df) (.inRangeFunc (w.heap.size + 1) :: k) :: cs)
      ((w.alloc (.deferred (some []))).alloc (.loop { state := .ready, pending := none, fn := C.fn, tmps := tm, params := ps, assign, body, defers := w.heap.size }))) := by
  refine step_lone_go ?_
  have he := run_enterLoop_outer (P := C.P) (w := w) C.fn tm ps assign body
  have hcall := callFunc_ok (P := C.P) (f := f) (w := ((w.alloc (.deferred (some []))).alloc (.loop { state := .ready, pending := none, fn := C.fn, tmps := tm, params := ps, assign, body, defers := w.heap.size }))) (args := ⟨.func (.yield (w.heap.size + 1)) #[] #[] :: ca⟩) hcb
  have hev : Frame.eval (C.fr tm ({ target := .collected w.heap.size, args := #[] } :: df) (.inRangeFunc (w.heap.size + 1) :: k)) g = .func (.func f) #[] ⟨ca⟩ := by rw [← hg]; cases g <;> rfl
  have hev2 : ∀ v, Frame.eval (C.fr tm ({ target := .collected w.heap.size, args := #[] } :: df) (.inRangeFunc (w.heap.size + 1) :: k)) (.const v) = v := fun _ => rfl
  simp only [Ctx.fr, hrd] at hev hev2 ⊢
  simp only [stepG, stepG.exec, Sem.runT_eq, he, GStep.bare_after, List.cons_append, List.nil_append]
  have hb : (do let d ← resolve (Frame.eval { fn := C.fn, tmps := tm, todo := .inRangeFunc (w.heap.size + 1) :: k, defers := { target := .collected w.heap.size, args := #[] } :: df, mode := .run, kind := .normal, roundOf := none }) { callee := .value g, args := #[.const (.func (.yield (w.heap.size + 1)) #[] #[])], argTypes := #[] } 0; invoke d.target d.args : Sem Next) = callFunc f ⟨.func (.yield (w.heap.size + 1)) #[] #[] :: ca⟩ := by
    simp [resolve, hev, hev2, Deferred.ofValue, invoke]
  rw [hb]
  simp only [stepG.apply, Sem.runT_eq, hcall, GStep.bare_after, if_true]
  rfl

/-- A RANGE OVER A FUNCTION, at its outermost: the iterator's contract is told of the record; behind it the mark stands among the deferred calls. -/
theorem At.range {C : Ctx} {p l : List Nat} {df : List Deferred} {env : Env} {bx : Bx} {hp : List Seg} {S : Base} {g : Operand} {ps : Array Tmp} {assign body : Code} {f : FuncId} {ca : List Value}
    (hr : rangeAt C.body p = some (g, ps, assign, body)) (hrd : C.rd = none) (hg : funcOf env g = some (f, ca)) (Q : Bx → List Seg → Prop)
    (hiter : ∀ lp D tm w, tm.size = C.nt → Knows env tm → WOk S bx (loopSeg lp .ready C.fn tm ps assign body D :: markSeg D :: hp) w →
      Tri C.P f (.func (.yield lp) #[] #[] :: ca) w (kys bx (loopSeg lp .ready C.fn tm ps assign body D :: hp)) (fun _ bx' hp' => ∃ hp'', hp' = loopSeg lp .ready C.fn tm ps assign body D :: hp'' ∧ Q bx' hp''))
    (hk : ∀ D bx' hp', Q bx' hp' → At C ⟨1, p, []⟩ ({ target := .collected D, args := #[] } :: df) env bx' (hp' ++ [markSeg D]) S) : At C ⟨0, p, l⟩ df env bx hp S := by
  intro w hw tm hs hkn cs
  have hsub : sub C.body p = .rangeFunc g ps assign body := by
    unfold rangeAt at hr
    split at hr
    · rename_i hsub; cases hr; exact hsub
    · cases hr
  have hgv : fev tm g = .func (.func f) #[] ⟨ca⟩ := by
    unfold funcOf at hg
    split at hg
    · rename_i hv
      split at hg
      · split at hg
        · cases hg; exact hkn.ev hv
        · cases hg
      · cases hg
    · cases hg
  have hw1 := hw.laidSeg (.deferred (some [])) (markSeg w.heap.size) rfl (World.alloc_heap_new w _)
  have hw2 := hw1.laidSeg (.loop { state := .ready, pending := none, fn := C.fn, tmps := tm, params := ps, assign, body, defers := w.heap.size }) (loopSeg (w.heap.size + 1) .ready C.fn tm ps assign body w.heap.size) (by simp [loopSeg])
    (by have := World.alloc_heap_new (w.alloc (.deferred (some []))) (.loop { state := .ready, pending := none, fn := C.fn, tmps := tm, params := ps, assign, body, defers := w.heap.size })
        simpa [loopSeg] using this)
  obtain ⟨hcb, hcl⟩ := hiter _ _ tm _ hs hkn hw2
  have h1 := s_range (C := C) (tm := tm) (df := df) (k := kont C.body C.tl p) (cs := cs) (w := w) (g := g) (ps := ps) (assign := assign) (body := body) hrd hgv hcb
  obtain ⟨e, w3, fr, ⟨v, bx', hp', rfl, ⟨hp'', rfl, hQ⟩, hext, hown, hkk⟩, hsteps, -, hleave⟩ := hcl (C.fr tm ({ target := .collected w.heap.size, args := #[] } :: df) (.inRangeFunc (w.heap.size + 1) :: kont C.body C.tl p) :: cs)
  have h2 := step_leave_returned (c := C.fr tm ({ target := .collected w.heap.size, args := #[] } :: df) (.inRangeFunc (w.heap.size + 1) :: kont C.body C.tl p)) (cs := cs) hleave
  have hw3 := hw2.join (bm := bx) (br := []) (hm := loopSeg (w.heap.size + 1) .ready C.fn tm ps assign body w.heap.size :: hp) (hr := [markSeg w.heap.size]) (by simp) (by
    refine (List.Perm.cons _ ?_)
    exact (List.perm_append_singleton (markSeg w.heap.size) hp).symm) hext hown hkk
  simp only [List.append_nil, List.cons_append] at hw3
  have hl : w3.heap[w.heap.size + 1]? = some _ := hw3.hp _ (List.mem_cons_self ..)
  have hlt := (Array.getElem?_eq_some_iff.1 hl).1
  have hend := run_endLoop (P := C.P) hl (by simp)
  have h3 : Go.step C.P (lone (C.fr tm ({ target := .collected w.heap.size, args := #[] } :: df) (.endRangeFunc (w.heap.size + 1) :: kont C.body C.tl p)) cs w3) = .next (lone (C.fr tm ({ target := .collected w.heap.size, args := #[] } :: df) (kont C.body C.tl p)) cs (w3.putObj (w.heap.size + 1) (.loop { state := .exhausted, pending := none, fn := C.fn, tmps := tm, params := ps, assign, body, defers := w.heap.size }))) :=
    step_lone_go (by simp [stepG, stepG.exec, Ctx.fr, Sem.runT_eq, hend, GStep.bare_after])
  have hw4 := hw3.turnSeg (s' := loopSeg (w.heap.size + 1) .exhausted C.fn tm ps assign body w.heap.size) (w' := w3.putObj (w.heap.size + 1) (.loop { state := .exhausted, pending := none, fn := C.fn, tmps := tm, params := ps, assign, body, defers := w.heap.size })) rfl rfl rfl rfl World.putObj_size
    (fun k hn => World.putObj_heap_other (by simpa [loopSeg] using hn)) (World.putObj_heap_same hlt)
  have hw5 : WOk S bx' (hp'' ++ [markSeg w.heap.size]) (w3.putObj (w.heap.size + 1) (.loop { state := .exhausted, pending := none, fn := C.fn, tmps := tm, params := ps, assign, body, defers := w.heap.size })) := by
    have hsubk : ∀ k, k ∈ kys bx' (hp'' ++ [markSeg w.heap.size]) → k ∈ kys bx' (loopSeg (w.heap.size + 1) .exhausted C.fn tm ps assign body w.heap.size :: (hp'' ++ [markSeg w.heap.size])) := by
      intro k hm
      simp only [kys, List.flatMap_cons, List.mem_append] at hm ⊢
      rcases hm with hm | hm
      · exact .inl hm
      · exact .inr (.inr hm)
    refine ⟨hw4.ext, ?_, fun k hm => hw4.lt k (hsubk k hm), fun k hm => hw4.own k (hsubk k hm), hw4.bx, fun s hm => hw4.hp s (List.mem_cons_of_mem _ hm)⟩
    refine List.Nodup.sublist ?_ hw4.nd
    unfold kys
    refine List.Sublist.append_left ?_ _
    simp only [List.flatMap_cons]
    exact List.sublist_append_right _ _
  have := hk w.heap.size bx' hp'' hQ _ hw5 tm hs hkn cs
  simp only [items, hsub] at this ⊢
  exact C.backs (.head h1 (Steps.trans hsteps (.head h2 (.one h3)))) this

/-- A return past a mark: the mark's block is told last. -/
theorem At.retC {P : Program} {f : FuncId} {fn : Func} {w0 : World} {m : List Nat} {Q : Value → Bx → List Seg → Prop} {x : Loc} {env : Env} {bx : Bx} {hp : List Seg} {D : Nat} (hs : List Hint)
    (he : atEnd (fn.body.getD .skip) x = true) (hf : P.funcs[f]? = some fn) {vs : List Value} {ob : Prop} (h : resL P hp ⟨w0, m⟩ env bx fn.results.toList hs = some (vs, ob)) (ho : ob) (hQ : Q (tupV vs) bx hp) :
    At (triCtx P f fn w0 m Q) x [{ target := .collected D, args := #[] }] env bx (hp ++ [markSeg D]) ⟨w0, m⟩ := by
  intro w hw tm hsz hk cs
  have hD : w.heap[D]? = some (.deferred (some [])) := hw.hp (markSeg D) (by simp)
  have hlt := (Array.getElem?_eq_some_iff.1 hD).1
  have htake := run_takeDeferred (P := P) hD
  have hperm : (kys bx (hp ++ [markSeg D])).Perm (D :: kys bx hp) := by
    unfold kys
    simp only [List.flatMap_append, List.flatMap_cons, List.flatMap_nil, List.append_nil, markSeg]
    rw [← List.append_assoc]
    exact List.perm_append_singleton _ _
  have hnd := List.nodup_cons.1 (hperm.nodup_iff.1 hw.nd)
  have hw' : WOk ⟨w0, m⟩ bx hp (w.putObj D (.deferred none)) := by
    have hex : Ext [D] w (w.putObj D (.deferred none)) := ⟨rfl, rfl, rfl, by simp, fun k _ hn => World.putObj_heap_other (by simpa using hn)⟩
    have hin : ∀ k, k ∈ kys bx hp → k ∈ kys bx (hp ++ [markSeg D]) := fun k hm => hperm.mem_iff.2 (List.mem_cons_of_mem _ hm)
    have hne : ∀ k, k ∈ kys bx hp → (w.putObj D (.deferred none)).heap[k]? = w.heap[k]? := fun k hm => World.putObj_heap_other (fun e => hnd.1 (e ▸ hm))
    refine ⟨hw.ext.then hex (fun i hi => by simp only [List.mem_singleton] at hi; subst hi; exact hw.own _ (hperm.mem_iff.2 (List.mem_cons_self ..))), hnd.2, fun k hm => by rw [World.putObj_size]; exact hw.lt k (hin k hm), fun k hm => hw.own k (hin k hm), fun e he => ?_, fun s hs => ?_⟩
    · rw [hne _ (mem_kys_bx he)]; exact hw.bx e he
    · exact s.loc w _ (fun k hm => hne k (mem_kys_hp hs hm)) (hw.hp s (by simp [hs]))
  have hres := run_results (P := P) (resL_ok hw' hk _ _ _ _ h ho)
  have hR : TriR w0 m Q (.returned (tupV vs)) (w.putObj D (.deferred none)) := ⟨_, bx, hp, rfl, hQ, hw'.ext, hw'.toOwn, hw'.own⟩
  obtain ⟨t, p, l⟩ := x
  match t, he with
  | 0, he =>
    have hsub : sub (fn.body.getD .skip) p = .ret := by
      simp only [atEnd, isRet] at he
      split at he
      · assumption
      · cases he
    have hst : Go.step P (lone ((triCtx P f fn w0 m Q).fr tm [{ target := .collected D, args := #[] }] (.code .ret :: kont (fn.body.getD .skip) [] p)) cs w) = .next (lone { (triCtx P f fn w0 m Q).fr tm [{ target := .collected D, args := #[] }] (.code .ret :: kont (fn.body.getD .skip) [] p) with mode := .returning } cs w) :=
      step_lone_go (by simp [stepG, stepG.exec, Ctx.fr, triCtx, fnCtx])
    have hst2 := step_collected (P := P) (cs := cs) (fr := { (triCtx P f fn w0 m Q).fr tm [{ target := .collected D, args := #[] }] (.code .ret :: kont (fn.body.getD .skip) [] p) with mode := .returning }) (by simp) rfl rfl htake
    refine (triCtx P f fn w0 m Q).back _ _ _ (by simpa [items, triCtx, fnCtx, hsub] using hst) ?_
    refine (triCtx P f fn w0 m Q).back _ _ _ hst2 ?_
    exact ⟨_, _, _, hR, Steps.refl _ _, rfl, rfl, rfl, rfl, fn, hf, hres⟩
  | 1, he =>
    have hp0 : p = [] := by
      simp only [atEnd] at he
      split at he
      · rfl
      · cases he
    subst hp0
    have hst : Go.step P (lone ((triCtx P f fn w0 m Q).fr tm [{ target := .collected D, args := #[] }] []) cs w) = .next (lone { (triCtx P f fn w0 m Q).fr tm [{ target := .collected D, args := #[] }] [] with mode := .returning } cs w) :=
      step_lone_go (by simp [stepG, stepG.exec, Ctx.fr, triCtx, fnCtx])
    have hst2 := step_collected (P := P) (cs := cs) (fr := { (triCtx P f fn w0 m Q).fr tm [{ target := .collected D, args := #[] }] [] with mode := .returning }) (by simp) rfl rfl htake
    refine (triCtx P f fn w0 m Q).back _ _ _ (by simpa [items, triCtx, fnCtx, kont] using hst) ?_
    refine (triCtx P f fn w0 m Q).back _ _ _ hst2 ?_
    exact ⟨_, _, _, hR, Steps.refl _ _, rfl, rfl, rfl, rfl, fn, hf, hres⟩
  | 2, he => simp [atEnd] at he
  | t + 3, he => simp [atEnd] at he
end Go.Eng

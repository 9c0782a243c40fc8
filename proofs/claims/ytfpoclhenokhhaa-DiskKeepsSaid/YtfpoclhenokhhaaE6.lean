/-
  Engine, part 6: the executor is right.
-/
import Derived.Test.YtfpoclhenokhhaaE5
namespace Go.Eng
open Go

theorem Knows.agree {env : Env} {tm : Array Value} (h : Knows env tm) : Agree env (fev tm) := fun _ _ hx => h.ev hx

theorem Knows.putE {nt : Nat} {env : Env} {tm : Array Value} (h : Knows env tm) (hs : tm.size = nt) {dst : Option Nat} (hf : fits nt dst = true) (v : Value) :
    Knows (Eng.putE dst v env) (putT dst v tm) := by
  cases dst with
  | none => exact h
  | some d =>
    simp only [fits, Nat.ble_eq] at hf
    exact h.put d v (by omega)

theorem size_put {tm : Array Value} (dst : Option Nat) (v : Value) : (putT dst v tm).size = tm.size := by
  cases dst <;> simp [putT]

theorem guardOf_ok {ops : Array Oper} {o : Oper} {dec dec' : List (Nat × Bool)} {ds ds' : List Bool} {env : Env} {wanted : Bool} {ob : Prop} (h : guardOf ops.toList o.guard dec ds env = some (wanted, dec', ds', ob)) (ho : ob)
    {tm : Array Value} (hk : Knows env tm) : Region.wanted o (yielded ops tm) = wanted := by
  unfold guardOf at h
  unfold Region.wanted
  split at h
  · rename_i hg
    simp only [Option.some.injEq, Prod.mk.injEq] at h
    rw [hg]; exact h.1
  · rename_i j want hg
    rw [hg]
    simp only
    split at h
    · cases h
    · rename_i oj hj
      split at h
      · cases h
      · rename_i s hs
        rw [nth_eq] at hj
        have hj' : ops[j]? = some oj := by simpa using hj
        split at h
        · rename_i b hb
          have hy : yielded ops tm j = some b := by simp [yielded, hj', hs, hk _ _ hb]
          rw [hy]
          split at h
          · simp only [Option.some.injEq, Prod.mk.injEq] at h
            obtain ⟨rfl, -, -, rfl⟩ := h
            rw [ho]; simp
          · split at h
            · simp only [Option.some.injEq, Prod.mk.injEq] at h
              obtain ⟨rfl, -, -, rfl⟩ := h
              rw [ho]; simp
            · cases h
        · rename_i u hb
          simp only [Option.some.injEq, Prod.mk.injEq] at h
          have hy : yielded ops tm j = none := by simp [yielded, hj', hs, hk _ _ hb]
          rw [hy, ← h.1]; rfl
        · cases h

theorem one1_notDefer {P : Program} {nw : Bool} {hp : List Seg} {S : Base} {op : Op} {dec : List (Nat × Bool)} {ds : List Bool} {hs : List Hint} {env : Env} {bx : Bx} {r : Value × List Bool × List Hint × Bx × Prop}
    (h : one1 P nw hp S op dec ds hs env bx = some r) : ∀ c, op ≠ .defer c := by
  intro c e
  subst e
  simp [one1, pure1] at h

theorem lenT_cases {P : Program} {t : TypeId} {n : Nat} (h : lenT P t = some n) : (aggT P t = some true ∧ szT P t = some n) ∨ (aggT P t = some false ∧ n = 1) := by
  unfold lenT at h
  split at h
  · rename_i ha; exact .inl ⟨ha, h⟩
  · rename_i ha; simp only [Option.some.injEq] at h; exact .inr ⟨ha, h.symm⟩
  · cases h

theorem valT_load {P : Program} {w : World} {t : TypeId} {cs : List Value} {v : Value} {b o : Nat} (h : valT P t cs = some v) (hc : ∀ j u, cs[j]? = some u → w.cell? ⟨b, o + j, none⟩ = some u) :
    (Instr.loadAt t (.pointer (some ⟨b, o, none⟩))).run P w = .ok v w := by
  unfold valT at h
  split at h
  · rename_i ha
    split at h
    · rename_i n hn
      cases hl : Nat.beq cs.length n with
      | false => rw [hl] at h; cases h
      | true =>
        rw [hl] at h
        cases h
        have hl' : cs.length = n := Nat.eq_of_beq_eq_true hl
        have hr := run_loadCells_list (P := P) w ⟨b, o, none⟩ cs (fun j u hu => by rw [Addr.add_lit]; exact hc j u hu)
        rw [hl'] at hr
        simp [Instr.loadAt, Instr.sureAddr, loadVar, aggT_ok ha, szT_ok hn, hr]
    · cases h
  · rename_i ha
    split at h
    · cases h
      have := hc 0 _ rfl
      simp only [Nat.add_zero] at this
      simp [Instr.loadAt, Instr.sureAddr, loadVar, aggT_ok ha, this]
    · cases h
  · cases h

theorem cell_known {w : World} {b off j : Nat} {t : TypeId} {cs : List Value} {u : Value} {n : Nat} (hb : w.heap[b]? = some (.cells cs.toArray t (0, 0))) (hu : (takeL n (dropL off cs))[j]? = some u) :
    w.cell? ⟨b, off + j, none⟩ = some u := by
  rw [takeL_eq, dropL_eq, List.getElem?_take] at hu
  split at hu
  · rw [List.getElem?_drop] at hu
    simp [World.cell?, hb, hu]
  · cases hu

theorem putL_eq : ∀ (l : List Value) (cs : List Value) (off : Nat), off + l.length ≤ cs.length → putL cs off l = cs.take off ++ l ++ cs.drop (off + l.length)
  | [], cs, off, _ => by simp [putL]
  | x :: l, cs, off, h => by
    simp only [List.length_cons] at h
    have ih := putL_eq l (setL cs off x) (off + 1) (by rw [setL_eq]; simp; omega)
    simp only [putL]
    rw [ih, setL_eq]
    have h1 : (cs.set off x).take (off + 1) = cs.take off ++ [x] := by
      rw [List.take_add_one, List.take_set_of_le (Nat.le_refl _)]
      simp [show off < cs.length by omega]
    have h2 : (cs.set off x).drop (off + 1 + l.length) = cs.drop (off + 1 + l.length) := List.drop_set_of_lt (by omega)
    rw [h1, h2]
    simp only [List.length_cons, List.append_assoc, List.cons_append, List.nil_append]
    rw [show off + 1 + l.length = off + (l.length + 1) by omega]

theorem cellsT_store {P : Program} {w : World} {t t' : TypeId} {v : Value} {l cs : List Value} {b off : Nat} {ob : Prop} (h : cellsT P t v = some (l, ob)) (ho : ob) (hb : w.heap[b]? = some (.cells cs.toArray t' (0, 0)))
    (hl : off + l.length ≤ cs.length) : (Instr.storeAt t (.pointer (some ⟨b, off, none⟩)) v).run P w = .ok () (w.setRow b (putL cs off l).toArray) := by
  have hlist : ∀ (hone : ∀ u, u ∈ l → u.oneCell' = true), (storeCells ⟨b, off, none⟩ l 0).run P w = .ok () (w.setRow b (putL cs off l).toArray) := by
    intro hone
    have := run_storeCells_at P b off t' l 0 cs.toArray w hb (by simpa using hl) hone
    simp only [Nat.add_zero] at this
    rw [this, putL_eq l cs off hl]
  unfold cellsT at h
  split at h
  · rename_i ha
    split at h
    · rename_i l'
      split at h
      · rename_i n hn
        cases hb' : Nat.beq l'.length n with
        | false => rw [hb'] at h; cases h
        | true =>
          rw [hb'] at h
          simp only [cond_true, Option.some.injEq, Prod.mk.injEq] at h
          obtain ⟨rfl, rfl⟩ := h
          have hn' : l'.length = n := Nat.eq_of_beq_eq_true hb'
          simp [Instr.storeAt, Instr.sureAddr, storeVar, szT_ok hn, Value.cells, hn', hlist ho]
      · cases h
    · cases h
  · rename_i ha
    split at h
    · rename_i n hn
      cases hb' : Nat.beq n 1 with
      | false => rw [hb'] at h; cases h
      | true =>
        rw [hb'] at h
        simp only [cond_true, Option.some.injEq, Prod.mk.injEq] at h
        obtain ⟨rfl, rfl⟩ := h
        have hn' : n = 1 := Nat.eq_of_beq_eq_true hb'
        have hc : v.cells = #[v] := by cases v <;> first | rfl | (simp [Value.oneCell'] at ho)
        simp [Instr.storeAt, Instr.sureAddr, storeVar, szT_ok hn, hc, hn', hlist (fun u hu => by simp at hu; subst hu; exact ho)]
    · cases h
  · cases h

theorem pick1_ok {env : Env} {c a b : Operand} {dec : List (Nat × Bool)} {ds ds' : List Bool} {v : Value} {ob : Prop} (h : pick1 env c a b dec ds = some (v, ds', ob)) (ho : ob) {ρ : Operand → Value} (hρ : Agree env ρ) :
    ∃ x, ρ c = .bool x ∧ (if x then ρ a else ρ b) = v := by
  unfold pick1 at h
  split at h
  · rename_i x hx
    refine ⟨x, hρ _ _ hx, ?_⟩
    split at h
    · rename_i d hd
      split at h
      · rename_i u hu
        simp only [Option.some.injEq, Prod.mk.injEq] at h
        obtain ⟨rfl, -, rfl⟩ := h
        have := hρ _ _ hu
        rw [ho]; cases d <;> simpa using this
      · cases h
    · split at h
      · rename_i d ds''
        split at h
        · rename_i u hu
          simp only [Option.some.injEq, Prod.mk.injEq] at h
          obtain ⟨rfl, -, rfl⟩ := h
          have := hρ _ _ hu
          rw [ho]; cases d <;> simpa using this
        · cases h
      · cases h
  · cases h

/-- What one operation came to: a value, nothing, or a call that hands the value back; the worlds behind it fit. -/
def OneOk (P : Program) (S : Base) (bx : Bx) (hp : List Seg) (v : Value) (w : World) (r : Result Next) : Prop :=
  (∃ w', WOk S bx hp w' ∧ (r = .ok (.value v) w' ∨ (r = .ok .skip w' ∧ v = undef))) ∨
  (∃ f args, r = .ok (.enter f args) w ∧ Calls P f args w (fun e w' => ∃ u, e = .returned u ∧ u = v ∧ WOk S bx hp w'))

theorem resolve_value {P : Program} {ρ : Operand → Value} {c : Call} {ty : TypeId} {fv : Operand} {f : FuncId} {fi ca as : List Value} {w : World} (hc : c.callee = .value fv) (hf : ρ fv = .func (.func f) ⟨fi⟩ ⟨ca⟩)
    (ha : c.args.toList.map ρ = as) : (do let d ← resolve ρ c ty; invoke d.target d.args : Sem Next).run P w = (callFunc f ⟨fi ++ as ++ ca⟩).run P w := by
  have e : c.args.map ρ = ⟨as⟩ := by apply Array.ext'; simp [ha]
  simp [resolve, hc, hf, Deferred.ofValue, invoke, e]

theorem one1_ok {P : Program} {nw : Bool} {hp : List Seg} {S : Base} {o : Oper} {dec : List (Nat × Bool)} {ds ds' : List Bool} {hs hs' : List Hint} {env : Env} {bx bx' : Bx} {v : Value} {ob : Prop}
    (h : one1 P nw hp S o.op dec ds hs env bx = some (v, ds', hs', bx', ob)) (ho : ob) {w : World} (hw : WOk S bx hp w) {ρ : Operand → Value} (hρ : Agree env ρ) :
    OneOk P S bx' hp v w ((execOp ρ o).run P w) := by
  unfold one1 at h
  split at h
  · rename_i c a b hop
    split at h
    · rename_i u ds'' o' hpk
      simp only [Option.some.injEq, Prod.mk.injEq] at h
      obtain ⟨rfl, -, -, rfl, rfl⟩ := h
      obtain ⟨x, hx, hv⟩ := pick1_ok hpk ho hρ
      refine .inl ⟨w, hw, .inl ?_⟩
      simp [execOp, hop, hx, asBool, ← hv]
    · cases h
  · rename_i t x hop
    split at h
    · rename_i b off hx
      split at h
      · split at h
        · split at h
          · rename_i b' t' cs hn
            split at h
            · split at h
              · rename_i u hval
                simp only [Option.some.injEq, Prod.mk.injEq] at h
                obtain ⟨rfl, -, -, rfl, rfl⟩ := h
                subst ho
                have hb := hw.bx _ (nth_mem hn)
                refine .inl ⟨w, hw, .inl ?_⟩
                have hl := valT_load (P := P) (w := w) (b := b) (o := off) hval (fun j u hu => cell_known hb hu)
                simp [execOp, hop, hρ _ _ hx, hl]
              · cases h
            · cases h
          · cases h
        · split at h
          · rename_i cs _ _ _ n hlen
            revert h
            cases hb : Nat.beq (List.length _) n with
            | false => intro h; cases h
            | true =>
              intro h
              simp only [cond_true] at h
              split at h
              · rename_i u hval
                simp only [Option.some.injEq, Prod.mk.injEq] at h
                obtain ⟨rfl, -, -, rfl, rfl⟩ := h
                refine .inl ⟨w, hw, .inl ?_⟩
                have hl := valT_load (P := P) (w := w) (b := b) (o := off) hval (fun j u hu => ho w hw j u hu)
                simp [execOp, hop, hρ _ _ hx, hl]
              · cases h
          · cases h
        · cases h
      · cases h
    · cases h
  · rename_i t x y hop
    split at h
    · rename_i b off hx
      split at h
      · rename_i u hy
        split at h
        · split at h
          · split at h
            · rename_i b' t' cs hn
              split at h
              · rename_i l o' hcl
                cases hb : Nat.ble (off + l.length) cs.length with
                | false => rw [hb] at h; cases h
                | true =>
                  rw [hb] at h
                  simp only [cond_true, forceL_eq, forceN_eq, Option.some.injEq, Prod.mk.injEq] at h
                  obtain ⟨rfl, -, -, rfl, rfl⟩ := h
                  obtain ⟨rfl, ho⟩ := ho
                  have hl : off + l.length ≤ cs.length := Nat.le_of_ble_eq_true hb
                  have hb' := hw.bx _ (nth_mem hn)
                  have hst := cellsT_store (P := P) (w := w) hcl ho hb' hl
                  refine .inl ⟨w.setRow b (putL cs off l).toArray, ?_, .inr ⟨?_, rfl⟩⟩
                  · exact hw.setBlk hn rfl rfl rfl (by simp) (setRow_heap w b _ _ t' (0, 0) hb') (fun k hk => setRow_other w b k _ hk)
                  · simp [execOp, hop, hρ _ _ hx, hρ _ _ hy, hst]
              · cases h
            · cases h
          · cases h
        · cases h
      · cases h
    · cases h
  · rename_i t x y ok hop
    split at h
    · rename_i xv hx
      split at h
      · rename_i yv hy
        split at h
        · split at h
          · split at h
            · simp only [Option.some.injEq, Prod.mk.injEq] at h
              obtain ⟨rfl, -, -, rfl, rfl⟩ := h
              refine .inl ⟨w, hw, .inl ?_⟩
              simp [execOp, hop, hρ _ _ hx, hρ _ _ hy, ho w hw]
            · cases h
          · cases h
        · cases h
      · cases h
    · cases h
  · rename_i c hop
    split at h
    · rename_i fv hcal
      split at h
      · rename_i fn fi ca hfv
        split at h
        · rename_i f
          split at h
          · rename_i as has
            split at h
            · split at h
              · have hex : (execOp ρ o).run P w = (callFunc f ⟨allArgs fi as ca⟩).run P w := by
                  unfold execOp
                  rw [hop, allArgs_eq]
                  exact resolve_value hcal (hρ _ _ hfv) (evs_ok hρ has)
                split at h
                · simp only [Option.some.injEq, Prod.mk.injEq] at h
                  obtain ⟨rfl, -, -, rfl, rfl⟩ := h
                  obtain ⟨hcb, hcl⟩ := ho w hw
                  refine .inr ⟨f, ⟨allArgs fi as ca⟩, by rw [hex, callFunc_ok hcb], hcl.mono ?_⟩
                  rintro e w' ⟨u, bx1, hp1, he, ⟨rfl, rfl, rfl⟩, hext, -, -⟩
                  exact ⟨_, he, rfl, hw.ext0 hext⟩
                · split at h
                  · rename_i b t cs0 hn
                    simp only [forceN_eq, Option.some.injEq, Prod.mk.injEq] at h
                    obtain ⟨rfl, -, -, rfl, rfl⟩ := h
                    obtain ⟨hcb, hcl⟩ := ho w hw
                    refine .inr ⟨f, ⟨allArgs fi as ca⟩, by rw [hex, callFunc_ok hcb], hcl.mono ?_⟩
                    rintro e w' ⟨u, bx1, hp1, he, ⟨rfl, rfl, rfl⟩, hext, hown, -⟩
                    exact ⟨_, he, rfl, hw.ext1 hn hext (hown.bx _ (List.mem_singleton.2 rfl))⟩
                  · cases h
                · cases h
              · cases h
            · cases h
          · cases h
        · cases h
      · cases h
    · split at h
      · rename_i u o' hp1
        simp only [Option.some.injEq, Prod.mk.injEq] at h
        obtain ⟨rfl, -, -, rfl, rfl⟩ := h
        exact .inl ⟨w, hw, .inl (pure1_ok hp1 ho hρ)⟩
      · cases h
  · split at h
    · rename_i u o' hp1
      simp only [Option.some.injEq, Prod.mk.injEq] at h
      obtain ⟨rfl, -, -, rfl, rfl⟩ := h
      exact .inl ⟨w, hw, .inl (pure1_ok hp1 ho hρ)⟩
    · cases h

theorem Φ_one {C : Ctx} {tm : Array Value} {df : List Deferred} {k : List Item} {cs : List Frame} {w : World} {ops : Array Oper} {i : Nat} {l : List Nat} {o : Oper} {v : Value} {S : Base} {bx : Bx} {hp : List Seg}
    (ho : ops[i]? = some o) (hw : Region.wanted o (yielded ops tm) = true) (hd : ∀ c, o.op ≠ .defer c) (hr : OneOk C.P S bx hp v w ((execOp (fev tm) o).run C.P w))
    (hk : ∀ w', WOk S bx hp w' → C.Φ cs (lone (C.fr (putT o.dst v tm) df (.inRegion ops l :: k)) cs w')) : C.Φ cs (lone (C.fr tm df (.inRegion ops (i :: l) :: k)) cs w) := by
  rcases hr with ⟨w', hw', hr | ⟨hr, rfl⟩⟩ | ⟨f, args, hr, hc⟩
  · exact C.back _ _ _ (s_op ho hw hd hr) (hk w' hw')
  · exact C.back _ _ _ (s_opSkip ho hw hd hr) (hk w' hw')
  · exact Φ_call (R := fun u w' => u = v ∧ WOk S bx hp w') ho hw hd hr (hc.mono fun e w' ⟨u, he, hu, hw'⟩ => ⟨u, he, hu, hw'⟩) (fun u w' ⟨hu, hw'⟩ => by rw [hu]; exact hk w' hw')

theorem wr_triv {k : IntKind} {x : Int} {v : Value} {o : Prop} (h : wr false k x = (v, o)) : o := by
  simp only [wr, Prod.mk.injEq] at h; exact h.2 ▸ trivial
theorem tt_triv {v : Option Value} {u : Value} {o : Prop} (h : tt v = some (u, o)) : o := by
  cases v <;> simp only [tt, Option.some.injEq, Prod.mk.injEq, reduceCtorEq] at h; exact h.2 ▸ trivial

def trivB : BinOp → Bool
  | .and => true
  | .or => true
  | .xor => true
  | .andNot => true
  | .eql => true
  | .neq => true
  | .lss => true
  | .leq => true
  | .gtr => true
  | .geq => true
  | _ => false
theorem trivB_of {P : Program} {nw : Bool} {op : BinOp} {t t2 : TypeId} {x y : Operand} (h : triv P nw (.binOp op t x y t2) = true) : trivB op = true := by
  cases op <;> simp only [triv, Bool.false_eq_true] at h <;> rfl
theorem pBin_triv {P : Program} {nw : Bool} {op : BinOp} {t : TypeId} {a b v : Value} {o : Prop} (h : pBin P nw op t a b = some (v, o)) (ht : trivB op = true) : o := by
  cases op <;> simp only [trivB, Bool.false_eq_true] at ht <;> cases a <;> cases b <;> simp only [pBin, pStr, pInt, Option.some.injEq, Prod.mk.injEq, reduceCtorEq] at h <;> first
    | exact h.2 ▸ trivial
    | (cases hb : Nat.beq (kc ‹IntKind›) (kc ‹IntKind›) <;> skip; skip; fail)
    | (simp only [cond] at h; split at h <;> first
        | (simp only [Option.some.injEq, Prod.mk.injEq] at h; exact h.2 ▸ trivial)
        | (exact absurd h (by simp)))
    | (split at h <;> first
        | (simp only [Option.some.injEq, Prod.mk.injEq] at h; exact h.2 ▸ trivial)
        | (exact absurd h (by simp)))

theorem pBin2_triv {P : Program} {nw : Bool} {op : BinOp} {t t2 : TypeId} {x y : Operand} {a b v : Value} {o : Prop} (h : pBin2 P nw op t a b = some (v, o)) (ht : triv P nw (.binOp op t x y t2) = true) : o := by
  unfold pBin2 at h
  split at h
  · rename_i r hr
    cases h
    exact pBin_triv hr (trivB_of ht)
  · split at h
    · rename_i xs ys hnone
      have hagg : ∀ r, pAgg P 4 t (.agg ⟨xs⟩) (.agg ⟨ys⟩) = some r → aggT P t = some true := by
        intro r hr
        unfold pAgg at hr
        unfold aggT
        cases hu : P.underlying t with
        | none => rw [hu] at hr; cases hr
        | some u =>
          rw [hu] at hr
          cases u <;> first | rfl | (cases hr)
      split at h
      · split at h
        · rename_i r hr
          simp only [triv, hagg r hr, Bool.false_eq_true] at ht
        · cases h
      · split at h
        · rename_i r hr
          simp only [triv, hagg r hr, Bool.false_eq_true] at ht
        · cases h
      · cases h
    · cases h

theorem pure1_triv {P : Program} {nw : Bool} {env : Env} {op : Op} {v : Value} {o : Prop} (hp1 : pure1 P nw env op = some (v, o)) (ht : triv P nw op = true) : o := by
  cases op <;> simp only [triv, Bool.false_eq_true] at ht <;> simp only [pure1] at hp1
  case move => exact tt_triv hp1
  case assign => exact tt_triv hp1
  case nilCheck => split at hp1 <;> simp only [Option.some.injEq, Prod.mk.injEq, reduceCtorEq] at hp1 <;> exact hp1.2 ▸ trivial
  case binOp =>
    split at hp1
    · split at hp1
      · exact pBin2_triv (x := .tmp 0) (y := .tmp 0) (t2 := 0) hp1 ht
      · cases hp1
    · cases hp1
  case unOp op t x =>
    split at hp1
    · cases op <;> simp only [Bool.false_eq_true] at ht
      simp only [pUn] at hp1
      split at hp1
      · simp only [Option.some.injEq, Prod.mk.injEq] at hp1; exact hp1.2 ▸ trivial
      · cases hp1
    · cases hp1
  case convert =>
    split at hp1
    · cases nw
      · unfold pConv at hp1
        split at hp1
        · split at hp1
          · split at hp1
            · simp only [Option.some.injEq] at hp1; exact wr_triv hp1
            · cases hp1
          · split at hp1
            · split at hp1
              · simp only [Option.some.injEq, Prod.mk.injEq] at hp1; exact hp1.2 ▸ trivial
              · cases hp1
            · cases hp1
          · cases hp1
        · cases hp1
      · simp at ht
    · cases hp1
  case makeFunc =>
    split at hp1
    · split at hp1
      · simp only [Option.some.injEq, Prod.mk.injEq] at hp1; exact hp1.2 ▸ trivial
      · cases hp1
    · cases hp1
  case fieldAddr => split at hp1 <;> first | exact tt_triv hp1 | cases hp1
  case field => split at hp1 <;> first | exact tt_triv hp1 | cases hp1
  case extract => split at hp1 <;> first | exact tt_triv hp1 | cases hp1
  case build => split at hp1 <;> first | exact tt_triv hp1 | cases hp1
  case call =>
    split at hp1
    · split at hp1
      · split at hp1
        · split at hp1
          · exact tt_triv hp1
          · cases hp1
        · cases hp1
      · cases hp1
    · split at hp1
      · simp only [Option.some.injEq, Prod.mk.injEq] at hp1; exact hp1.2 ▸ trivial
      · cases hp1
    · split at hp1
      · simp only [Option.some.injEq, Prod.mk.injEq] at hp1; exact hp1.2 ▸ trivial
      · cases hp1
    · cases hp1

theorem triv_ok {P : Program} {nw : Bool} {hp : List Seg} {S : Base} {op : Op} {dec : List (Nat × Bool)} {ds ds' : List Bool} {hs hs' : List Hint} {env : Env} {bx bx' : Bx} {v : Value} {o : Prop}
    (h : one1 P nw hp S op dec ds hs env bx = some (v, ds', hs', bx', o)) (ht : triv P nw op = true) : o := by
  unfold one1 at h
  split at h
  · simp [triv] at ht
  · simp [triv] at ht
  · simp [triv] at ht
  · simp [triv] at ht
  · rename_i c
    split at h
    · rename_i fv hcal
      simp only [triv, hcal, Bool.false_eq_true] at ht
    · split at h
      · rename_i u o' hp1
        simp only [Option.some.injEq, Prod.mk.injEq] at h
        obtain ⟨-, -, -, -, rfl⟩ := h
        exact pure1_triv hp1 ht
      · cases h
  · split at h
    · rename_i u o' hp1
      simp only [Option.some.injEq, Prod.mk.injEq] at h
      obtain ⟨-, -, -, -, rfl⟩ := h
      exact pure1_triv hp1 ht
    · cases h

theorem addG_ok {ops : List Oper} {g : Option (Nat × Bool)} {dec dec' : List (Nat × Bool)} {ds ds' : List Bool} {env : Env} {wn : Bool} {o : Prop} (ob : Prop) (h : guardOf ops g dec ds env = some (wn, dec', ds', o)) :
    ∃ ob', (∀ k, addG g o ob k = k ob') ∧ (ob' → o ∧ ob) := by
  cases g with
  | none =>
    simp only [guardOf, Option.some.injEq, Prod.mk.injEq] at h
    exact ⟨ob, fun _ => rfl, fun hh => ⟨h.2.2.2 ▸ trivial, hh⟩⟩
  | some g => exact ⟨o ∧ ob, fun _ => rfl, id⟩
theorem addOb_ok {b : Bool} {o : Prop} (ob : Prop) (h : b = true → o) : ∃ ob', (∀ k, addOb b o ob k = k ob') ∧ (ob' → o ∧ ob) := by
  cases b with
  | true => exact ⟨ob, fun _ => rfl, fun hh => ⟨h rfl, hh⟩⟩
  | false => exact ⟨o ∧ ob, fun _ => rfl, id⟩

theorem runOps_ok {C : Ctx} {nw : Bool} {hp : List Seg} {S : Base} {ops : Array Oper} {k : List Item} {df : List Deferred} :
    ∀ (l : List Nat) (dec : List (Nat × Bool)) (ds : List Bool) (hs : List Hint) (env : Env) (bx : Bx) (ob : Prop) (r : R), runOps C.P C.nt nw hp S ops.toList l dec ds hs env bx ob = r → r.ob →
      ob ∧ ((∀ w, WOk S r.bx hp w → St C (.inRegion ops r.l :: k) df r.env w) → ∀ w, WOk S bx hp w → St C (.inRegion ops l :: k) df env w)
  | [], dec, ds, hs, env, bx, ob, r, h, ho => by
    simp only [runOps] at h
    subst h
    exact ⟨ho, fun hk => hk⟩
  | i :: l, dec, ds, hs, env, bx, ob, r, h, ho => by
    simp only [runOps] at h
    split at h
    · subst h; exact ⟨ho, fun hk => hk⟩
    · rename_i o hn
      have hi : ops[i]? = some o := by rw [nth_eq] at hn; simpa using hn
      split at h
      · subst h; exact ⟨ho, fun hk => hk⟩
      · rename_i hfit
        split at h
        · subst h; exact ⟨ho, fun hk => hk⟩
        · rename_i wanted dec' ds' o1 hg
          obtain ⟨ob1, hob1, himp1⟩ := addG_ok ob hg
          rw [hob1] at h
          cases wanted with
          | false =>
            simp only [putK_eq] at h
            have ih := runOps_ok (k := k) (df := df) l _ _ _ _ _ _ r h ho
            obtain ⟨h12, h3⟩ := ih
            obtain ⟨h1, h2⟩ := himp1 h12
            refine ⟨h2, fun hk w hw tm hs' hkn cs => ?_⟩
            have hwn := guardOf_ok hg h1 hkn
            exact C.back _ _ _ (s_opNot hi hwn) (h3 hk w hw _ (by rw [size_put]; exact hs') (hkn.putE hs' hfit _) cs)
          | true =>
            simp only at h
            split at h
            · subst h
              exact ⟨(himp1 ho).2, fun hk => hk⟩
            · rename_i v ds'' hs'' bx'' o2 ho1
              obtain ⟨ob2, hob2, himp2⟩ := addOb_ok (b := triv C.P nw o.op) (o := o2) ob1 (fun ht => triv_ok ho1 ht)
              rw [hob2] at h
              have h' : runOps C.P C.nt nw hp S ops.toList l dec' ds'' hs'' (putE o.dst v env) bx'' ob2 = r := by
                cases hfc : forced o.op with
                | true => rw [hfc] at h; simp only [forceV_eq, putK_eq] at h; exact h
                | false => rw [hfc] at h; simp only [putK_eq] at h; exact h
              have ih := runOps_ok (k := k) (df := df) l _ _ _ _ _ _ r h' ho
              obtain ⟨h012, h3⟩ := ih
              obtain ⟨h0, h12⟩ := himp2 h012
              obtain ⟨h1, h2⟩ := himp1 h12
              refine ⟨h2, fun hk w hw tm hs' hkn cs => ?_⟩
              have hwn := guardOf_ok hg h1 hkn
              exact Φ_one hi hwn (one1_notDefer ho1) (one1_ok ho1 h0 hw hkn.agree) (fun w' hw' => h3 hk w' hw' _ (by rw [size_put]; exact hs') (hkn.putE hs' hfit _) cs)

theorem exec_ok {C : Ctx} {nw : Bool} {hp : List Seg} {S : Base} {df : List Deferred} :
    ∀ (n : Nat) (x : Loc) (ds : List Bool) (hs : List Hint) (env : Env) (bx : Bx) (ob : Prop) (r : X), exec C.P C.nt nw hp S C.body n x ds hs env bx ob = r → r.ob →
      ob ∧ (At C r.x df r.env r.bx hp S → At C x df env bx hp S)
  | 0, x, ds, hs, env, bx, ob, r, h, ho => by
    simp only [exec] at h
    subst h
    exact ⟨ho, fun hk => hk⟩
  | n + 1, ⟨t, p, l⟩, ds, hs, env, bx, ob, r, h, ho => by
    simp only [exec] at h
    split at h
    · rename_i y hy
      have ih := exec_ok (df := df) n _ _ _ _ _ _ r h ho
      exact ⟨ih.1, fun hk w hw => adv_ok hy (ih.2 hk w hw)⟩
    · split at h
      · split at h
        · rename_i e a b hsub
          split at h
          · rename_i d ds'
            split at h
            · rename_i bb hev
              have key : ∀ (d : Bool), (bb = d) → ∀ w, (St C (items C.body C.tl ⟨0, (match d with | true => 0 | false => 1) :: p, []⟩) df env w) → St C (items C.body C.tl ⟨0, p, l⟩) df env w := by
                intro d hd w hst tm hs' hkn cs
                have := hst tm hs' hkn cs
                subst hd
                simp only [items, hsub]
                refine C.back _ _ _ (s_cond (hkn.ev hev)) ?_
                cases bb
                · simpa [items, sub_cond1 hsub, kont_cond (n := 1) hsub] using this
                · simpa [items, sub_cond0 hsub, kont_cond (n := 0) hsub] using this
              cases d with
              | true =>
                have ih := exec_ok (df := df) n _ _ _ _ _ _ r h ho
                obtain ⟨⟨hb, h2⟩, h3⟩ := ih
                exact ⟨h2, fun hk w hw => key true hb w (h3 hk w hw)⟩
              | false =>
                have ih := exec_ok (df := df) n _ _ _ _ _ _ r h ho
                obtain ⟨⟨hb, h2⟩, h3⟩ := ih
                exact ⟨h2, fun hk w hw => key false hb w (h3 hk w hw)⟩
            · subst h; exact ⟨ho, fun hk => hk⟩
          · subst h; exact ⟨ho, fun hk => hk⟩
        · subst h; exact ⟨ho, fun hk => hk⟩
      · split at h
        · rename_i id ops dr hsub
          generalize hrun : runOps C.P C.nt nw hp S ops.toList l [] ds hs env bx ob = q at h
          obtain ⟨l', ds', hs', env', bx', ob'⟩ := q
          cases l' with
          | nil =>
            simp only at h
            have ih := exec_ok (df := df) n _ _ _ _ _ _ r h ho
            have ho' := ih.1
            have hr := runOps_ok (k := kont C.body C.tl p) (df := df) _ _ _ _ _ _ _ _ hrun ho'
            refine ⟨hr.1, fun hk w hw => ?_⟩
            have := hr.2 (fun w hw tm hs' hkn cs => C.back _ _ _ s_regionEnd (ih.2 hk w hw tm hs' hkn cs)) w hw
            simpa [items, hsub] using this
          | cons i l'' =>
            simp only at h
            subst h
            have hr := runOps_ok (k := kont C.body C.tl p) (df := df) _ _ _ _ _ _ _ _ hrun ho
            refine ⟨hr.1, fun hk w hw => ?_⟩
            have := hr.2 (fun w hw => by have := hk w hw; simpa [items, hsub] using this) w hw
            simpa [items, hsub] using this
        · subst h; exact ⟨ho, fun hk => hk⟩
      · subst h; exact ⟨ho, fun hk => hk⟩

/-- ON: as far as the executor comes. -/
theorem At.run {C : Ctx} {hp : List Seg} {S : Base} {df : List Deferred} {x y : Loc} {env env' : Env} {bx bx' : Bx} {ob : Prop} (n : Nat) (nw : Bool) (ds : List Bool) (hs : List Hint)
    (h : exec C.P C.nt nw hp S C.body n x ds hs env bx True = ⟨y, env', bx', ob⟩) (ho : ob) (hk : At C y df env' bx' hp S) : At C x df env bx hp S :=
  (exec_ok n x ds hs env bx True _ h ho).2 hk
end Go.Eng

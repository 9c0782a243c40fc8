/-
  Engine, part 56: a known block that is copied into.
-/
import Derived.Test.YtacpcbobkeedbaaGreatDoorM12
import Derived.Test.YtacpcbobkeedbaaGreatDoorM11
import Derived.Test.YtacpcbobkeedbaaGreatDoorM17
import Derived.Test.YtacpcbobkeedbaaGreatDoorM16
/-
  Engine, part 56: a known block that is copied into.
-/
namespace Go.Eng
open Go

theorem SrcOk.part {P : Program} {w : World} {b o n k cap : Nat} {t : TypeId} {cs : List Value} (h : w.heap[b]? = some (.cells cs.toArray t (0, 0))) (hk : o + n ≤ cs.length) (hn : n = k) : SrcOk P w (.slice (some ⟨b, o, none⟩) k cap) ((cs.drop o).take n) := by
  subst hn
  have hl : ((cs.drop o).take n).length = n := by rw [List.length_take, List.length_drop]; omega
  have hs : SlOk w (some ⟨b, 0, none⟩) cs := SlOk.blk h
  have h2 : SlOk w (some ⟨b, o, none⟩) ((cs.drop o).take n) := by
    by_cases h0 : n = 0
    · subst h0; rw [List.take_zero]; exact SlOk.nil w _
    · obtain ⟨b', o', hb, hc⟩ := hs.get (by intro e; rw [e] at hk; simp at hk; omega)
      cases hb
      refine .inr ⟨b, o, rfl, fun j u hu => ?_⟩
      have hj : j < n := by have := (List.getElem?_eq_some_iff.1 hu).1; omega
      rw [List.getElem?_take_of_lt hj, List.getElem?_drop] at hu
      have := hc (o + j) u hu
      rwa [Nat.zero_add] at this
  have := SrcOk.sl (P := P) cap h2
  rwa [hl] at this
theorem OpOk.copyBox {C : Ctx} {env : Env} {bx : Bx} {hp : List Seg} {S : Base} {o : Oper} {K : Value → Bx → List Seg → Prop} {dT sT e t : TypeId} {b off dl dc by_ c m : Nat} {src : Value} {u cs : List Value} (j : Nat)
    (ho : bltOf env o.op = some (.copy, [dT, sT], [.slice (some ⟨b, off, none⟩) dl dc, src])) (ht : elT C.P dT = some e) (hi : infoL C.P e = some (1, by_, c)) (hj : nth bx j = some (b, t, cs))
    (hsrc : ∀ w, WOk S bx hp w → SrcOk C.P w src u) (hone : ∀ v, v ∈ u → v.oneCell' = true) (hm : min u.length dl = m) (hl : off + m ≤ cs.length)
    (hk : K (.int .i64 m) (setL bx j (b, t, putL cs off (u.take m))) hp) : OpOk C o env bx hp S K := by
  intro w hw ρ hρ
  obtain ⟨cs', ty, hex⟩ := bltOf_ok (P := C.P) (w := w) ho hρ
  obtain ⟨i, z, hi1, -, hs1, -, -⟩ := infoL_ok hi
  have hblk : w.heap[b]? = some (.cells cs.toArray t (0, 0)) := hw.bx _ (nth_mem hj)
  have hlm : (u.take m).length = m := by rw [List.length_take]; omega
  have hst := run_storeCells_fr (P := C.P) b off t (0, 0) (u.take m) 0 cs.toArray w hblk (.inl rfl) (by rw [hlm]; simp; omega) (fun v hv => hone v (List.mem_of_mem_take hv))
  simp only [Nat.add_zero] at hst
  have hput : cs.toArray.toList.take off ++ u.take m ++ cs.toArray.toList.drop (off + (u.take m).length) = putL cs off (u.take m) := (putL_eq (u.take m) cs off (by rw [hlm]; exact hl)).symm
  rw [hput] at hst
  obtain ⟨s1, s2⟩ := hsrc w hw
  have s3 := s2 m (by omega)
  refine .inl ⟨.int .i64 m, _, _, hp, .inl ?_, hw.setBlk hj (w' := w.setRow b (putL cs off (u.take m)).toArray) rfl rfl rfl (by simp) (setRow_heap w b _ _ t (0, 0) hblk) (fun k hk => setRow_other w b k _ hk), hk⟩
  rw [hex]
  simp only [builtin, Builtin.copy_, List.getElem?_toArray, List.getElem?_cons_zero, List.getElem?_cons_succ, Sem.run_bind, run_underlying (elT_ok ht), Result.andThen, s1, Nat.min_def, sizeOf, typeInfo]
  simp only [run_program, hi1, Sem.run_pure, hs1]
  have hm2 : (if u.length ≤ dl then u.length else dl) = m := by rw [← hm, Nat.min_def]
  rw [hm2, s3]
  simp only [hst]
  rfl
/-- As AtD.lx, where sums may wrap. -/
theorem AtD.lxw {C : Ctx} {p : List Nat} {df : List Deferred} {env env1 : Env} {bx bx1 : Bx} {hp : List Seg} {S : Base} {ds1 : List Bool} {hs1' : List Hint} {ob1 : Prop} {listed : Array Bool} (is : List Nat) (g : Nat) (ds : List Bool) (hs : List Hint) (h1 : runOps C.P C.nt false hp S (opsOf C.body p).toList is [] ds hs env bx True = ⟨[], ds1, hs1', env1, bx1, ob1⟩) (ho1 : ob1)
    (hk : AtD C p df g (setAll is listed) env1 bx hp S) (hok : LxOk C.P C.body p is listed (setAll is listed) := by exact ⟨by kernel_rfl, by kernel_rfl, rfl, by kernel_rfl, by kernel_rfl⟩) (hm1 : mild hs = true := by rfl)
    (h0 : g = 0 → Region.ready .any (opsOf C.body p) (setAll is listed) = [] := by first | exact fun h => absurd h (Nat.succ_ne_zero _) | exact fun _ => by kernel_rfl) : AtD C p df (g + is.length) listed env bx hp S := by
  intro w hw tm hsz hkn
  have base : ∀ tm, tm.size = C.nt → Knows env1 tm → qTo C.P .any (opsOf C.body p) (WOk S bx hp) (Qf C p df) (qB is listed) g (setAll is listed) ⟨tm, df⟩ := by
    intro tm hsz hkn
    cases g with
    | zero => exact ⟨h0 rfl, fun w hw => hk w hw tm hsz hkn⟩
    | succ g =>
      refine ⟨fun w hw => hk w hw tm hsz hkn, fun j hj hq => ?_⟩
      have h3 := List.all_eq_true.1 hok.rest j hj
      rw [hq] at h3; cases h3
  have hr := runOps_qI (df := df) (Q := qTo C.P .any (opsOf C.body p) (WOk S bx hp) (Qf C p df) (qB is listed) g (setAll is listed)) is [] ds hs env bx True _ hok.noStore h1 rfl hm1 ho1 base
  have hq := hr.2.2 tm hsz hkn
  have H := qTo_lx (P := C.P) (md := .any) (Q' := Qf C p df) (W := WOk S bx hp) (q := is) (l0 := listed) (g := g) (lst := setAll is listed) hok.sel is listed ⟨tm, df⟩ (fun j hj => by unfold qB; rw [hj]; rfl) (fun k hk => by
    unfold memB; exact List.any_eq_true.2 ⟨k, hk, by simp⟩) hok.mark hok.chk hq
  exact qTo_wp H hw
/-- a[l:] of an array in memory. -/
theorem OpOk.sliceLo {C : Ctx} {env : Env} {bx : Bx} {hp : List Seg} {S : Base} {o : Oper} {K : Value → Bx → List Seg → Prop} {t e : TypeId} {sz n b off : Nat} {x i : Operand} {kk : IntKind} (l : Nat)
    (ho : o.op = .slice t x (some i) none none) (hx : Env.ev env x = some (.pointer (some ⟨b, off, none⟩))) (hi : Env.ev env i = some (.int kk (l : Int))) (ht : C.P.underlying t = some (.array n e)) (hs : szT C.P e = some sz) (hl : l < n) (hK : K (.slice (some ⟨b, off + l * sz, none⟩) (n - l) (n - l)) bx hp) : OpOk C o env bx hp S K := by
  intro w hw ρ hρ
  refine .inl ⟨.slice (some ⟨b, off + l * sz, none⟩) (n - l) (n - l), w, bx, hp, .inl ?_, hw, hK⟩
  unfold execOp
  simp only [ho, Option.map_some, Option.map_none, hρ _ _ hx, hρ _ _ hi]
  simp [Instr.sliceAt, run_underlying ht, Instr.sureAddr, Instr.sliceBounds, Instr.sliceBound, asIntOf, szT_ok hs, Result.andThen, Addr.add, show l ≤ n by omega, show ¬ n = l by omega]
/-- a[:h] of an array in memory. -/
theorem OpOk.sliceHi {C : Ctx} {env : Env} {bx : Bx} {hp : List Seg} {S : Base} {o : Oper} {K : Value → Bx → List Seg → Prop} {t e : TypeId} {sz n b off : Nat} {x i : Operand} {kk : IntKind} (h : Nat)
    (ho : o.op = .slice t x none (some i) none) (hx : Env.ev env x = some (.pointer (some ⟨b, off, none⟩))) (hi : Env.ev env i = some (.int kk (h : Int))) (ht : C.P.underlying t = some (.array n e)) (hs : szT C.P e = some sz) (hh : h ≤ n) (hK : K (.slice (some ⟨b, off, none⟩) h n) bx hp) : OpOk C o env bx hp S K := by
  intro w hw ρ hρ
  refine .inl ⟨.slice (some ⟨b, off, none⟩) h n, w, bx, hp, .inl ?_, hw, hK⟩
  unfold execOp
  simp only [ho, Option.map_some, Option.map_none, hρ _ _ hx, hρ _ _ hi]
  simp [Instr.sliceAt, run_underlying ht, Instr.sureAddr, Instr.sliceBounds, Instr.sliceBound, asIntOf, szT_ok hs, Result.andThen, Addr.add, hh]
end Go.Eng

/-
  Engine, part 59: ranges over functions within a loop: what is told last, once for each of them.
-/
namespace Go.Eng
open Go

/-- The marks of ranges that are behind. -/
def dfs (Ds : List Nat) : List Deferred := Ds.map fun D => { target := .collected D, args := #[] }
def Seg.marks (Ds : List Nat) : Seg where
  keys := Ds
  ok w := ∀ D, D ∈ Ds → w.heap[D]? = some (.deferred (some []))
  loc w w' h hk := fun D hD => by rw [h D hD]; exact hk D hD
/-- A loop whose rounds leave marks. -/
theorem At.loopC {C : Ctx} {p l : List Nat} {env : Env} {bx : Bx} {hp : List Seg} {S : Base} (Inv : Nat → List Nat → Env → Bx → List Seg → Prop) (hl : isLoop (sub C.body p) = true)
    {n : Nat} {env0 : Env} (h0 : Inv n [] env0 bx hp) (hsub : Sub env0 env)
    (hstep : ∀ n Ds env bx hp, Inv n Ds env bx hp → (∀ n' Ds' env' bx' hp', n' < n → Inv n' Ds' env' bx' hp' → At C ⟨2, p, []⟩ (dfs Ds') env' bx' hp' S) → At C ⟨0, 0 :: p, []⟩ (dfs Ds) env bx hp S) :
    At C ⟨0, p, l⟩ [] env bx hp S := by
  obtain ⟨b, hb⟩ : ∃ b, sub C.body p = .loop b := by
    unfold isLoop at hl
    split at hl
    · exact ⟨_, by assumption⟩
    · cases hl
  have main : ∀ n, ∀ Ds env bx hp, Inv n Ds env bx hp → At C ⟨0, 0 :: p, []⟩ (dfs Ds) env bx hp S := by
    intro n
    induction n using Nat.strongRecOn with
    | _ n ih =>
      intro Ds env bx hp hI
      refine hstep n Ds env bx hp hI (fun n' Ds' env' bx' hp' hlt hI' w hw tm hs hkn cs => ?_)
      have := ih n' hlt Ds' env' bx' hp' hI' w hw tm hs hkn cs
      simp only [items, sub_loop hb, kont_loop hb] at this
      simp only [items, hb, List.cons_append, List.nil_append]
      exact C.back _ _ _ s_inLoop this
  intro w hw tm hs hkn cs
  have := main n [] env0 bx hp h0 w hw tm hs (hkn.sub hsub) cs
  simp only [items, sub_loop hb, kont_loop hb] at this
  simp only [items, hb]
  exact C.back _ _ _ s_loop this
theorem WOk.markIn {S : Base} {bx : Bx} {Ds : List Nat} {D : Nat} {hp : List Seg} {w : World} (h : WOk S bx (Seg.marks Ds :: (hp ++ [markSeg D])) w) : WOk S bx (Seg.marks (D :: Ds) :: hp) w := by
  have hp1 : (kys bx (Seg.marks Ds :: (hp ++ [markSeg D]))).Perm (kys bx (Seg.marks (D :: Ds) :: hp)) := by
    unfold kys
    refine List.Perm.append_left _ ?_
    simp only [List.flatMap_cons, List.flatMap_append, List.flatMap_nil, List.append_nil, Seg.marks, markSeg]
    rw [← List.append_assoc]
    exact List.perm_append_singleton _ _
  refine ⟨h.ext, hp1.nodup_iff.1 h.nd, fun k hk => h.lt k (hp1.mem_iff.2 hk), fun k hk => h.own k (hp1.mem_iff.2 hk), h.bx, fun s hs => ?_⟩
  rcases List.mem_cons.1 hs with rfl | hs
  · intro E hE
    rcases List.mem_cons.1 hE with rfl | hE
    · exact h.hp (markSeg E) (by simp)
    · exact h.hp (Seg.marks Ds) (by simp) E hE
  · exact h.hp s (by simp [hs])
theorem At.markIn {C : Ctx} {x : Loc} {Ds : List Nat} {D : Nat} {env : Env} {bx : Bx} {hp : List Seg} {S : Base} (hk : At C x (dfs (D :: Ds)) env bx (Seg.marks (D :: Ds) :: hp) S) : At C x ({ target := .collected D, args := #[] } :: dfs Ds) env bx (Seg.marks Ds :: (hp ++ [markSeg D])) S :=
  fun w hw => hk w hw.markIn
theorem WOk.noMarks {S : Base} {bx : Bx} {hp : List Seg} {w : World} (h : WOk S bx hp w) : WOk S bx (Seg.marks [] :: hp) w := by
  have e : kys bx (Seg.marks [] :: hp) = kys bx hp := by simp [kys, Seg.marks]
  exact ⟨h.ext, by rw [e]; exact h.nd, by rw [e]; exact h.lt, by rw [e]; exact h.own, h.bx, fun s hs => by
    rcases List.mem_cons.1 hs with rfl | hs
    · intro D hD; cases hD
    · exact h.hp s hs⟩
theorem At.noMarks {C : Ctx} {x : Loc} {df : List Deferred} {env : Env} {bx : Bx} {hp : List Seg} {S : Base} (hk : At C x df env bx (Seg.marks [] :: hp) S) : At C x df env bx hp S := fun w hw => hk w hw.noMarks
/-- A return past marks. -/
theorem At.retCs {P : Program} {f : FuncId} {fn : Func} {w0 : World} {m : List Nat} {Q : Value → Bx → List Seg → Prop} {p l : List Nat} {env : Env} {bx bx' : Bx} {hp hp' : List Seg} {Ds : List Nat} (mb mh : List Bool) (hs : List Hint)
    (hf : P.funcs[f]? = some fn) {vs : List Value} {ob : Prop} (h : resL P hp ⟨w0, m⟩ env bx fn.results.toList hs = some (vs, ob)) (ho : ob) (hsel : forceL (selL mb bx) (fun a => forceL (selL mh hp) fun b => (a, b)) = (bx', hp')) (hQ : Q (tupV vs) bx' hp')
    (hret : isRet (sub (fn.body.getD .skip) p) = true := by rfl) : At (triCtx P f fn w0 m Q) ⟨0, p, l⟩ (dfs Ds) env bx (Seg.marks Ds :: hp) ⟨w0, m⟩ := by
  have hsub : sub (fn.body.getD .skip) p = .ret := by
    simp only [isRet] at hret
    split at hret
    · assumption
    · cases hret
  intro w hw tm hsz hk cs
  have key : ∀ (Ds : List Nat) (w : World), WOk ⟨w0, m⟩ bx (Seg.marks Ds :: hp) w → (triCtx P f fn w0 m Q).Φ cs (lone { (triCtx P f fn w0 m Q).fr tm (dfs Ds) (.code .ret :: kont (fn.body.getD .skip) [] p) with mode := .returning } cs w) := by
    intro Ds
    induction Ds with
    | nil =>
      intro w hw
      have hw' : WOk ⟨w0, m⟩ bx hp w := by
        have e : kys bx (Seg.marks [] :: hp) = kys bx hp := by simp [kys, Seg.marks]
        exact ⟨hw.ext, by rw [← e]; exact hw.nd, by rw [← e]; exact hw.lt, by rw [← e]; exact hw.own, hw.bx, fun s hs => hw.hp s (List.mem_cons_of_mem _ hs)⟩
      have hres := run_results (P := P) (resL_ok hw' hk _ _ _ _ h ho)
      have hsubk : ∀ k, k ∈ kys bx' hp' → k ∈ kys bx hp := by
        simp only [forceL_eq, Prod.mk.injEq] at hsel
        obtain ⟨rfl, rfl⟩ := hsel
        intro k hk'
        exact (kys_perm (selL_perm mb bx) (selL_perm mh hp)).mem_iff.2 (List.mem_append_left _ hk')
      have hR : TriR w0 m Q (.returned (tupV vs)) w := ⟨_, bx', hp', rfl, hQ, hw'.ext, hw'.toOwn.sel mb mh hsel, fun k hk' => hw'.own k (hsubk k hk')⟩
      exact ⟨_, _, _, hR, Steps.refl _ _, rfl, rfl, rfl, rfl, fn, hf, hres⟩
    | cons D Ds ih =>
      intro w hw
      have hD : w.heap[D]? = some (.deferred (some [])) := hw.hp (Seg.marks (D :: Ds)) (by simp) D (by simp)
      have htake := run_takeDeferred (P := P) hD
      have hperm : kys bx (Seg.marks (D :: Ds) :: hp) = bx.map (·.1) ++ (D :: (Ds ++ hp.flatMap (·.keys))) := by simp [kys, Seg.marks]
      have hperm2 : (bx.map (·.1) ++ (D :: (Ds ++ hp.flatMap (·.keys)))).Perm (D :: kys bx (Seg.marks Ds :: hp)) := by
        have : kys bx (Seg.marks Ds :: hp) = bx.map (·.1) ++ (Ds ++ hp.flatMap (·.keys)) := by simp [kys, Seg.marks]
        rw [this]; exact List.perm_middle
      have hnd0 := hw.nd
      rw [hperm] at hnd0
      have hnd := List.nodup_cons.1 (hperm2.nodup_iff.1 hnd0)
      have hin : ∀ k, k ∈ kys bx (Seg.marks Ds :: hp) → k ∈ kys bx (Seg.marks (D :: Ds) :: hp) := fun k hm => by rw [hperm]; exact hperm2.mem_iff.2 (List.mem_cons_of_mem _ hm)
      have hDin : D ∈ kys bx (Seg.marks (D :: Ds) :: hp) := by rw [hperm]; simp
      have hw' : WOk ⟨w0, m⟩ bx (Seg.marks Ds :: hp) (w.putObj D (.deferred none)) := by
        have hex : Ext [D] w (w.putObj D (.deferred none)) := ⟨rfl, rfl, rfl, (by first | exact Nat.le_refl _ | exact Nat.le_succ _ | exact Nat.le_add_right _ _), by simp, fun k _ hn => World.putObj_heap_other (by simpa using hn)⟩
        have hne : ∀ k, k ∈ kys bx (Seg.marks Ds :: hp) → (w.putObj D (.deferred none)).heap[k]? = w.heap[k]? := fun k hm => World.putObj_heap_other (fun e => hnd.1 (e ▸ hm))
        refine ⟨hw.ext.then hex (fun i hi => by simp only [List.mem_singleton] at hi; subst hi; exact hw.own _ hDin), hnd.2, fun k hm => by rw [World.putObj_size]; exact hw.lt k (hin k hm), fun k hm => hw.own k (hin k hm), fun e he => ?_, fun s hs => ?_⟩
        · rw [hne _ (mem_kys_bx he)]; exact hw.bx e he
        · refine s.loc w _ (fun k hm => hne k (mem_kys_hp hs hm)) ?_
          rcases List.mem_cons.1 hs with rfl | hs
          · intro E hE; exact hw.hp (Seg.marks (D :: Ds)) (by simp) E (by simp [hE])
          · exact hw.hp s (List.mem_cons_of_mem _ hs)
      have hst2 := step_collected (P := P) (cs := cs) (fr := { (triCtx P f fn w0 m Q).fr tm (dfs (D :: Ds)) (.code .ret :: kont (fn.body.getD .skip) [] p) with mode := .returning }) (by simp) rfl rfl htake
      exact (triCtx P f fn w0 m Q).back _ _ _ hst2 (ih _ hw')
  have hst : Go.step P (lone ((triCtx P f fn w0 m Q).fr tm (dfs Ds) (.code .ret :: kont (fn.body.getD .skip) [] p)) cs w) = .next (lone { (triCtx P f fn w0 m Q).fr tm (dfs Ds) (.code .ret :: kont (fn.body.getD .skip) [] p) with mode := .returning } cs w) :=
    step_lone_go (by simp [stepG, stepG.exec, Ctx.fr, triCtx, fnCtx])
  refine (triCtx P f fn w0 m Q).back _ _ _ (by simpa [items, triCtx, fnCtx, hsub] using hst) ?_
  exact key Ds w hw
end Go.Eng

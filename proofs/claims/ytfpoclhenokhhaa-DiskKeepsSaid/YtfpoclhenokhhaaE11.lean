/-
  Engine, part 11: iterators and those who take what they yield.
-/
import Derived.Test.YtfpoclhenokhhaaE10
namespace Go.Eng
open Go

/-- Blocks and what is said of others, in one. -/
def Seg.pack (bx : Bx) (hp : List Seg) : Seg where
  keys := kys bx hp
  ok w := (∀ e, e ∈ bx → w.heap[e.1]? = some (.cells e.2.2.toArray e.2.1 (0, 0))) ∧ ∀ s, s ∈ hp → s.ok w
  loc w w' h r := ⟨fun e he => by rw [h _ (mem_kys_bx he)]; exact r.1 e he, fun s hs => s.loc w w' (fun k hk => h k (mem_kys_hp hs hk)) (r.2 s hs)⟩

theorem kys_pack (bx0 bx : Bx) (hp hp0 : List Seg) : kys bx0 (Seg.pack bx hp :: hp0) = kys (bx0 ++ bx) (hp ++ hp0) := by
  simp [kys, Seg.pack]

theorem Own.pack {bx0 bx : Bx} {hp hp0 : List Seg} {w : World} (h : Own (bx0 ++ bx) (hp ++ hp0) w) : Own bx0 (Seg.pack bx hp :: hp0) w :=
  ⟨by rw [kys_pack]; exact h.nd, by rw [kys_pack]; exact h.lt, fun e he => h.bx e (List.mem_append.2 (.inl he)), fun s hs => by
    rcases List.mem_cons.1 hs with rfl | hs
    · exact ⟨fun e he => h.bx e (List.mem_append.2 (.inr he)), fun s hs => h.hp s (List.mem_append.2 (.inl hs))⟩
    · exact h.hp s (List.mem_append.2 (.inr hs))⟩
theorem Own.unpack {bx0 bx : Bx} {hp hp0 : List Seg} {w : World} (h : Own bx0 (Seg.pack bx hp :: hp0) w) : Own (bx0 ++ bx) (hp ++ hp0) w :=
  ⟨by rw [← kys_pack]; exact h.nd, by rw [← kys_pack]; exact h.lt, fun e he => by
    rcases List.mem_append.1 he with he | he
    · exact h.bx e he
    · exact (h.hp _ (List.mem_cons_self ..)).1 e he, fun s hs => by
    rcases List.mem_append.1 hs with hs | hs
    · exact (h.hp (Seg.pack bx hp) (List.mem_cons_self ..)).2 s hs
    · exact h.hp s (List.mem_cons_of_mem _ hs)⟩

/-- AN ITERATOR: it yields xs one by one; bi is its own, and is as it was; the blocks rd are read. -/
def Iter {α : Type} (P : Program) (f : FuncId) (ca : List Value) (bi : Bx) (rd : List Nat) (enc : α → List Value) (xs : List α) (w : World) : Prop :=
  ∀ (y : Nat) (s0 : Seg) (J : List α → Seg → Prop), J [] s0 → Own bi [s0] w → (∀ k, k ∈ rd → k ∉ kys bi [s0]) →
    (∀ pre x s w', pre ++ [x] <+: xs → J pre s → Own [] [s] w' → Ext (kys bi [s0]) w w' → YieldOk P y (enc x) w' (RoundR w' (kys [] [s]) fun bx hp => bx = [] ∧ ∃ s', hp = [s'] ∧ J (pre ++ [x]) s')) →
    Tri P f (.func (.yield y) #[] #[] :: ca) w (kys bi [s0]) (fun _ bx hp => bx = bi ∧ ∃ s, hp = [s] ∧ J xs s)

theorem At.rangeI {α : Type} {C : Ctx} {p l : List Nat} {df : List Deferred} {env : Env} {bi bc : Bx} {hp : List Seg} {S : Base} {g : Operand} {ps : Array Tmp} {assign body : Code} {f : FuncId} {ca : List Value}
    (hr : rangeAt C.body p = some (g, ps, assign, body)) (hrd : C.rd = none) (hg : funcOf env g = some (f, ca)) {rd : List Nat} (hfree : ∀ k, k ∈ rd → k < S.w0.heap.size ∧ k ∉ S.mods)
    {enc : α → List Value} {xs : List α} (henc : ∀ x, (enc x).length = ps.size) (hps : ps.toList.all (fun t => Nat.ble (t + 1) C.nt) = true)
    (Inv : List α → Bx → List Seg → Prop) (h0 : Inv [] bc hp) (hiter : ∀ w, Ext S.mods S.w0 w → Iter C.P f ca bi rd enc xs w)
    (hbody : ∀ lp D tm pre x bx hp w', pre ++ [x] <+: xs → Inv pre bx hp → Ext S.mods S.w0 w' →
      At (roundCtx C.P lp C.fn assign [.beginRound, .code body] C.nt (RoundR w' (kys bx (loopSeg lp .ready C.fn tm ps assign body D :: hp)) (fun bx' hp' => ∃ hp'', hp' = loopSeg lp .ready C.fn tm ps assign body D :: hp'' ∧ Inv (pre ++ [x]) bx' hp'')))
        ⟨0, [], []⟩ [] (zipEnv (ps.toList.zip (enc x)) env) bx (loopSeg lp .ready C.fn tm ps assign body D :: hp) ⟨w', kys bx (loopSeg lp .ready C.fn tm ps assign body D :: hp)⟩)
    (hk : ∀ D bx' hp', Inv xs bx' hp' → At C ⟨1, p, []⟩ ({ target := .collected D, args := #[] } :: df) env (bi ++ bx') (hp' ++ [markSeg D]) S) : At C ⟨0, p, l⟩ df env (bi ++ bc) hp S := by
  refine At.range hr hrd hg (fun bx' hp' => ∃ bx'', bx' = bi ++ bx'' ∧ Inv xs bx'' hp') ?_ ?_
  · intro lp D tm w hts hkn hw
    have hkey : kys (bi ++ bc) (loopSeg lp .ready C.fn tm ps assign body D :: hp) = kys bi [Seg.pack bc (loopSeg lp .ready C.fn tm ps assign body D :: hp)] := by rw [kys_pack]; simp
    have hsubk : ∀ k, k ∈ kys (bi ++ bc) (loopSeg lp .ready C.fn tm ps assign body D :: hp) → k ∈ kys (bi ++ bc) (loopSeg lp .ready C.fn tm ps assign body D :: markSeg D :: hp) := by
      intro k hm
      simp only [kys, List.flatMap_cons, List.mem_append] at hm ⊢
      rcases hm with hm | hm | hm
      · exact .inl hm
      · exact .inr (.inl hm)
      · exact .inr (.inr (.inr hm))
    have hown : Own (bi ++ bc) (loopSeg lp .ready C.fn tm ps assign body D :: hp) w := by
      refine ⟨?_, fun k hm => hw.lt k (hsubk k hm), hw.bx, fun s hs => hw.hp s (by rcases List.mem_cons.1 hs with rfl | hs; simp; simp [hs])⟩
      refine List.Nodup.sublist ?_ hw.nd
      unfold kys
      refine List.Sublist.append_left ?_ _
      simp only [List.flatMap_cons]
      exact List.Sublist.append_left (List.sublist_append_right _ _) _
    rw [hkey]
    have h := hiter w hw.ext lp (Seg.pack bc (loopSeg lp .ready C.fn tm ps assign body D :: hp)) (fun pre s => ∃ bx hp, s = Seg.pack bx (loopSeg lp .ready C.fn tm ps assign body D :: hp) ∧ Inv pre bx hp)
      ⟨bc, hp, rfl, h0⟩ (Own.pack (by simpa using hown)) (fun k hk' hm => by
        rw [← hkey] at hm
        obtain ⟨h1, h2⟩ := hfree k hk'
        rcases hw.own k (hsubk k hm) with h3 | h3
        · exact h2 h3
        · omega) ?_
    · refine ⟨h.1, h.2.mono ?_⟩
      rintro e w' ⟨v, bx, hp', he, ⟨rfl, s, rfl, bx2, hp2, rfl, hI⟩, hext, hown', hkk⟩
      refine ⟨v, bx ++ bx2, loopSeg lp .ready C.fn tm ps assign body D :: hp2, he, ⟨hp2, rfl, bx2, rfl, hI⟩, hext, by simpa using hown'.unpack, fun k hm => hkk k ?_⟩
      rw [kys_pack]; simpa using hm
    · rintro pre x s w' hpre ⟨bx, hp1, rfl, hI⟩ hown' hext
      have ho := hown'.unpack
      simp only [List.nil_append, List.append_nil] at ho
      have hx : Ext S.mods S.w0 w' := hw.ext.then hext (fun i hi => by rw [← hkey] at hi; exact hw.own i (hsubk i hi))
      have := YieldOk.of ho (henc x) hts (fun t ht => Nat.le_of_ble_eq_true (List.all_eq_true.1 hps t ht)) hkn (hbody lp D tm pre x bx hp1 w' hpre hI hx)
      obtain ⟨r, h1, h2, h3⟩ := this
      refine ⟨r, h1, h2, fun fr cs => ?_⟩
      obtain ⟨w2, ⟨bx2, hp2, ⟨hp3, rfl, hI2⟩, he2, ho2, hk2⟩, hst⟩ := h3 fr cs
      refine ⟨w2, ⟨[], [Seg.pack bx2 (loopSeg lp .ready C.fn tm ps assign body D :: hp3)], ⟨rfl, _, rfl, bx2, hp3, rfl, hI2⟩, ?_, Own.pack (by simpa using ho2), fun k hm => ?_⟩, hst⟩
      · rw [kys_pack]; simpa using he2
      · rw [kys_pack] at hm ⊢; simp only [List.nil_append, List.append_nil] at hm ⊢; exact hk2 k hm
  · rintro D bx' hp' ⟨bx'', rfl, hI⟩
    exact hk D bx'' hp' hI

/-- A place that several ways lead to is walked from once. -/
theorem At.cutRow {ι : Type} {C : Ctx} {x : Loc} {df : List Deferred} {env : Env} {bx : Bx} {hp : List Seg} {S : Base} (y : Loc) (j : Nat) (e : ι → Env) (b : ι → Bx) (h : ι → Seg)
    (hs : ∀ i, At C y df (e i) (b i) (setL hp j (h i)) S) (hk : (∀ i, At C y df (e i) (b i) (setL hp j (h i)) S) → At C x df env bx hp S) : At C x df env bx hp S := hk hs
theorem cell_blk {w : World} {b j : Nat} {t : TypeId} {cs : List Value} {u : Value} (hb : w.heap[b]? = some (.cells cs.toArray t (0, 0))) (hu : cs[j]? = some u) : w.cell? ⟨b, j, none⟩ = some u := by
  simp [World.cell?, hb]; simpa using hu
/-- A CALL that is handed all. -/
theorem OpOk.callAll {C : Ctx} {env : Env} {bx : Bx} {hp : List Seg} {S : Base} {o : Oper} {K : Value → Bx → List Seg → Prop} {f : FuncId} {args : List Value} {Q : Value → Bx → List Seg → Prop}
    (hcall : callOf env o.op = some (f, args)) (hc : ∀ w, WOk S bx hp w → Tri C.P f args w (kys bx hp) Q) (hk : ∀ v bx' hp', Q v bx' hp' → K v bx' hp') : OpOk C o env bx hp S K := by
  intro w hw ρ hρ
  obtain ⟨hcb, hcl⟩ := hc w hw
  refine .inr ⟨f, ⟨args⟩, w, callOf_ok hcall hcb hρ, hcl.mono ?_⟩
  rintro e w' ⟨v, bx', hp', he, hQ, hext, hown, hkk⟩
  have := hw.join (bm := bx) (br := []) (hm := hp) (hr := []) (by simp) (by simp) hext hown hkk
  simp only [List.append_nil] at this
  exact ⟨v, he, _, _, this, hk v bx' hp' hQ⟩
end Go.Eng

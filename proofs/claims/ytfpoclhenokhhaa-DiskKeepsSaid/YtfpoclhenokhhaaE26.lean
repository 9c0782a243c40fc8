/-
  Engine, part 26: iterators whose order is their own.
-/
import Derived.Test.YtfpoclhenokhhaaE25
namespace Go.Eng
open Go

theorem Tri.mk {P : Program} {f : FuncId} {args : List Value} {w : World} {m : List Nat} {Q : Value → Bx → List Seg → Prop} (h1 : Callable P f) (h2 : Calls P f ⟨args⟩ w (TriR w m Q)) : Tri P f args w m Q := ⟨h1, h2⟩

/-- AN ITERATOR that yields things in an order of its own: whatever it has yielded is ok, all of it in the end is fin; bi is its own, and is as it was; the blocks rd are read. -/
def IterP {α : Type} (P : Program) (f : FuncId) (ca : List Value) (bi : Bx) (rd : List Nat) (enc : α → List Value) (okp fin : List α → Prop) (w : World) : Prop :=
  ∀ (y : Nat) (s0 : Seg) (J : List α → Seg → Prop), J [] s0 → Own bi [s0] w → (∀ k, k ∈ rd → k ∉ kys bi [s0]) →
    (∀ pre x s w', okp (pre ++ [x]) → J pre s → Own [] [s] w' → Ext (kys bi [s0]) w w' → YieldOk P y (enc x) w' (RoundR w' (kys [] [s]) fun bx hp => bx = [] ∧ ∃ s', hp = [s'] ∧ J (pre ++ [x]) s')) →
    Tri P f (.func (.yield y) #[] #[] :: ca) w (kys bi [s0]) (fun _ bx hp => bx = bi ∧ ∃ s, hp = [s] ∧ ∃ xs, fin xs ∧ J xs s)

theorem At.rangeP {α : Type} {C : Ctx} {p l : List Nat} {df : List Deferred} {env : Env} {bi bc : Bx} {hp : List Seg} {S : Base} {g : Operand} {ps : Array Tmp} {assign body : Code} {f : FuncId} {ca : List Value}
    (hr : rangeAt C.body p = some (g, ps, assign, body)) (hrd : C.rd = none) (hg : funcOf env g = some (f, ca)) {rd : List Nat} (hfree : ∀ k, k ∈ rd → k < S.w0.heap.size ∧ k ∉ S.mods)
    {enc : α → List Value} {okp fin : List α → Prop} (henc : ∀ x, (enc x).length = ps.size) (hps : ps.toList.all (fun t => Nat.ble (t + 1) C.nt) = true)
    (Inv : List α → Bx → List Seg → Prop) (h0 : Inv [] bc hp) (hiter : ∀ w, Ext S.mods S.w0 w → IterP C.P f ca bi rd enc okp fin w)
    (hbody : ∀ lp D tm pre x bx hp w', okp (pre ++ [x]) → Inv pre bx hp → Ext S.mods S.w0 w' →
      At (roundCtx C.P lp C.fn assign [.beginRound, .code body] C.nt (RoundR w' (kys bx (loopSeg lp .ready C.fn tm ps assign body D :: hp)) (fun bx' hp' => ∃ hp'', hp' = loopSeg lp .ready C.fn tm ps assign body D :: hp'' ∧ Inv (pre ++ [x]) bx' hp'')))
        ⟨0, [], []⟩ [] (zipEnv (ps.toList.zip (enc x)) env) bx (loopSeg lp .ready C.fn tm ps assign body D :: hp) ⟨w', kys bx (loopSeg lp .ready C.fn tm ps assign body D :: hp)⟩)
    (hk : ∀ D bx' hp' xs, fin xs → Inv xs bx' hp' → At C ⟨1, p, []⟩ ({ target := .collected D, args := #[] } :: df) env (bi ++ bx') (hp' ++ [markSeg D]) S) : At C ⟨0, p, l⟩ df env (bi ++ bc) hp S := by
  refine At.range hr hrd hg (fun bx' hp' => ∃ bx'', bx' = bi ++ bx'' ∧ ∃ xs, fin xs ∧ Inv xs bx'' hp') ?_ ?_
  · intro lp D tm w hts hkn hw
    have hkey : kys (bi ++ bc) (loopSeg lp .ready C.fn tm ps assign body D :: hp) = kys bi [Seg.pack bc (loopSeg lp .ready C.fn tm ps assign body D :: hp)] := by rw [kys_pack]; simp
    have hsubk : ∀ k, k ∈ kys (bi ++ bc) (loopSeg lp .ready C.fn tm ps assign body D :: hp) → k ∈ kys (bi ++ bc) (loopSeg lp .ready C.fn tm ps assign body D :: markSeg D :: hp) := by
      intro k hm
      simp only [kys, List.flatMap_cons, List.mem_append] at hm ⊢
      rcases hm with hm | hm | hm
      · exact .inl hm
      · exact .inr (.inl hm)
      · exact .inr (.inr (.inr hm))
    have hown : Own (bi ++ bc) (loopSeg lp .ready C.fn tm ps assign body D :: hp) w := by
      refine ⟨?_, fun k hm => hw.lt k (hsubk k hm), hw.bx, fun s hs => hw.hp s (by rcases List.mem_cons.1 hs with rfl | hs; simp; simp [hs])⟩
      refine List.Nodup.sublist ?_ hw.nd
      unfold kys
      refine List.Sublist.append_left ?_ _
      simp only [List.flatMap_cons]
      exact List.Sublist.append_left (List.sublist_append_right _ _) _
    rw [hkey]
    have h := hiter w hw.ext lp (Seg.pack bc (loopSeg lp .ready C.fn tm ps assign body D :: hp)) (fun pre s => ∃ bx hp, s = Seg.pack bx (loopSeg lp .ready C.fn tm ps assign body D :: hp) ∧ Inv pre bx hp)
      ⟨bc, hp, rfl, h0⟩ (Own.pack (by simpa using hown)) (fun k hk' hm => by
        rw [← hkey] at hm
        obtain ⟨h1, h2⟩ := hfree k hk'
        rcases hw.own k (hsubk k hm) with h3 | h3
        · exact h2 h3
        · omega) ?_
    · refine ⟨h.1, h.2.mono ?_⟩
      rintro e w' ⟨v, bx, hp', he, ⟨rfl, s, rfl, xs, hfin, bx2, hp2, rfl, hI⟩, hext, hown', hkk⟩
      refine ⟨v, bx ++ bx2, loopSeg lp .ready C.fn tm ps assign body D :: hp2, he, ⟨hp2, rfl, bx2, rfl, xs, hfin, hI⟩, hext, by simpa using hown'.unpack, fun k hm => hkk k ?_⟩
      rw [kys_pack]; simpa using hm
    · rintro pre x s w' hpre ⟨bx, hp1, rfl, hI⟩ hown' hext
      have ho := hown'.unpack
      simp only [List.nil_append, List.append_nil] at ho
      have hx : Ext S.mods S.w0 w' := hw.ext.then hext (fun i hi => by rw [← hkey] at hi; exact hw.own i (hsubk i hi))
      have := YieldOk.of ho (henc x) hts (fun t ht => Nat.le_of_ble_eq_true (List.all_eq_true.1 hps t ht)) hkn (hbody lp D tm pre x bx hp1 w' hpre hI hx)
      obtain ⟨r, h1, h2, h3⟩ := this
      refine ⟨r, h1, h2, fun fr cs => ?_⟩
      obtain ⟨w2, ⟨bx2, hp2, ⟨hp3, rfl, hI2⟩, he2, ho2, hk2⟩, hst⟩ := h3 fr cs
      refine ⟨w2, ⟨[], [Seg.pack bx2 (loopSeg lp .ready C.fn tm ps assign body D :: hp3)], ⟨rfl, _, rfl, bx2, hp3, rfl, hI2⟩, ?_, Own.pack (by simpa using ho2), fun k hm => ?_⟩, hst⟩
      · rw [kys_pack]; simpa using he2
      · rw [kys_pack] at hm ⊢; simp only [List.nil_append, List.append_nil] at hm ⊢; exact hk2 k hm
  · rintro D bx' hp' ⟨bx'', rfl, xs, hfin, hI⟩
    exact hk D bx'' hp' xs hfin hI
end Go.Eng

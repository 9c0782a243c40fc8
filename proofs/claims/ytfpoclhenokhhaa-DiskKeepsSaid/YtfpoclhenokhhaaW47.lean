/-
  Walks of layer 9: a crash.
-/
import Derived.Test.YtfpoclhenokhhaaW46
namespace Go.Proofs
open Go Go.Eng
set_option maxRecDepth 100000
set_option maxHeartbeats 4000000
attribute [local irreducible] Tri

def PendE.wn (e : PendE) : List UInt8 × Nat × List UInt8 := (e.name, e.at0, e.s)
theorem cutW_nbs (F : List FileE) (n : List UInt8) (at0 : Nat) (s : List UInt8) (k : Int) (g c : Nat) : nbs (cutW F n at0 s k g c) = cutN (nbs F) n at0 s k := by
  unfold cutW cutN
  split
  · rw [putN_nbs, readN_nbs]; rfl
  · rfl
theorem WOk.apartH {S : Base} {bx : Bx} {s1 : Seg} {l : List Seg} {w : World} (h : WOk S bx (s1 :: l) w) {s : Seg} (hs : s ∈ l) {k : Nat} (hk : k ∈ s.keys) : k ∉ kys [] [s1] := by
  intro hk1
  have hk1 : k ∈ s1.keys := by simpa [kys] using hk1
  have h1 := (List.nodup_append.1 h.nd).2.1
  rw [List.flatMap_cons] at h1
  exact (List.nodup_append.1 h1).2.2 k hk1 k (List.mem_flatMap.2 ⟨s, hs, hk⟩) rfl
theorem Try.boxesS_ok {S : Base} {bx : Bx} {hp : List Seg} {w : World} {W : List PendE} (h : WOk S bx hp w) (hm : Try.boxesS W ∈ hp) {e : PendE} (he : e ∈ W) :
    w.heap[e.b1]? = some (.cells ([str e.name] : List Value).toArray 9 (0, 0)) ∧ w.heap[e.b2]? = some (.cells ([.int .i64 e.at0] : List Value).toArray 3 (0, 0)) ∧ w.heap[e.b3]? = some (.cells ([str e.s] : List Value).toArray 9 (0, 0)) := by
  have h1 := (h.hp _ hm).1
  have hin : ∀ x, x ∈ Try.bxE e → x ∈ W.flatMap Try.bxE := fun x hx => List.mem_flatMap.2 ⟨e, he, hx⟩
  exact ⟨h1 (e.b1, 9, [str e.name]) (hin _ (by simp [Try.bxE])), h1 (e.b2, 3, [.int .i64 e.at0]) (hin _ (by simp [Try.bxE])), h1 (e.b3, 9, [str e.s]) (hin _ (by simp [Try.bxE]))⟩
theorem Try.boxesS_keys {W : List PendE} {e : PendE} (he : e ∈ W) : e.b1 ∈ (Try.boxesS W).keys ∧ e.b2 ∈ (Try.boxesS W).keys ∧ e.b3 ∈ (Try.boxesS W).keys := by
  have hin : ∀ x, x ∈ Try.bxE e → x.1 ∈ (Try.boxesS W).keys := fun x hx => mem_kys_bx (List.mem_flatMap.2 ⟨e, he, hx⟩)
  exact ⟨hin (e.b1, 9, [str e.name]) (by simp [Try.bxE]), hin (e.b2, 3, [.int .i64 e.at0]) (by simp [Try.bxE]), hin (e.b3, 9, [str e.s]) (by simp [Try.bxE])⟩

theorem Try.Crash_w (d r bs bk : Nat) (a : Option Nat) (pc : Nat) (FK : List FileE) (W : List PendE) (F : Nat) (ca : List Value) (K : Nat → Int) (w : World)
    (hown : Own [(d, 112, dkV r bs (.map (some bk)) (sv a W.length pc))] [Seg.files 5 bk FK, Seg.row a 119 2 W.length pc (W.flatMap Try.wrC), Try.boxesS W] w)
    (hch : ∀ i w', i < W.length → Ext (kys [(d, 112, dkV r bs (.map (some bk)) (sv a W.length pc))] [Seg.files 5 bk FK, Seg.row a 119 2 W.length pc (W.flatMap Try.wrC), Try.boxesS W]) w w' → Fun Try.prog F (.int .i64 i :: ca) w' (.int .i64 (K i)))
    (hFK : FOK (nbs FK)) (hW : ∀ e, e ∈ W → e.at0 + e.s.length ≤ 1048576) (hWn : W.length ≤ 1000000) :
    Tri Try.prog 24 [.pointer (some ⟨d, 0, none⟩), .func (.func F) ⟨[]⟩ ⟨ca⟩] w (kys [(d, 112, dkV r bs (.map (some bk)) (sv a W.length pc))] [Seg.files 5 bk FK, Seg.row a 119 2 W.length pc (W.flatMap Try.wrC), Try.boxesS W])
      (fun v bx hp => v = .int .i64 0 ∧ ∃ b3 F3 F2, bx = [(d, 112, dkV r b3 (.map (some bk)) (.slice none 0 0))] ∧ hp = [Seg.files 5 b3 F3, Seg.files 5 bk F2] ∧ nbs F2 = crashN (nbs FK) (W.map PendE.wn) K 0 ∧ (nbs F3).Perm (nbs F2) ∧ FOK (nbs F2)) := by
  refine Tri.enter Try.func24 rfl (by kernel_rfl) rfl hown ?_
  refine At.run 100 true [false] [hB 0] rfl (by (repeat' apply And.intro) <;> first | exact True.intro | omega | (simp only [inK]; omega) | (simp; done) | (simp; omega) | exact decide_eq_true (by omega) | exact decide_eq_false (by omega) | rfl | (simp [Value.oneCell']; done) | exact i64s_one _ | exact AggOk.mk (by kernel_rfl) (by kernel_rfl)) ?_
  refine At.loop (n := W.length) (env0 := [(0, .pointer (some ⟨d, 0, none⟩)), (1, .func (.func F) ⟨[]⟩ ⟨ca⟩), (12, sv a W.length pc), (13, .int .i64 W.length), (14, .int .i64 0)]) (fun m env bx hp => ∃ (i : Nat) (F2 : List FileE), m = W.length - i ∧ i ≤ W.length ∧ crashN (nbs F2) ((W.drop i).map PendE.wn) K i = crashN (nbs FK) (W.map PendE.wn) K 0 ∧ FOK (nbs F2) ∧
    env = [(0, .pointer (some ⟨d, 0, none⟩)), (1, .func (.func F) ⟨[]⟩ ⟨ca⟩), (12, sv a W.length pc), (13, .int .i64 W.length), (14, .int .i64 i)] ∧ bx = [(d, 112, dkV r bs (.map (some bk)) (sv a W.length pc))] ∧ hp = [Seg.files 5 bk F2, Seg.row a 119 2 W.length pc (W.flatMap Try.wrC), Try.boxesS W]) rfl
    ⟨0, FK, by simp, by omega, rfl, hFK, rfl, rfl, rfl⟩ ⟨rfl, rfl, rfl, rfl, rfl, trivial⟩ ?_
  rintro m env bx hp ⟨i, F2, rfl, hi, hcr, hF2, rfl, rfl, rfl⟩ ih
  by_cases hlt : i < W.length
  · refine At.rowSome 1 rfl (by omega) (fun ga hga => ?_)
    subst hga
    obtain ⟨e, he⟩ : ∃ e, W[i]? = some e := ⟨_, List.getElem?_eq_getElem hlt⟩
    have hem := List.mem_of_getElem? he
    have hdrop : W.drop i = e :: W.drop (i + 1) := by
      rw [List.drop_eq_getElem_cons hlt, (List.getElem?_eq_some_iff.1 he).2]
    have rE : ∀ {bx : Bx}, RdW ⟨w, kys [(d, 112, dkV r bs (.map (some bk)) (sv (some ga) W.length pc))] [Seg.files 5 bk FK, Seg.row (some ga) 119 2 W.length pc (W.flatMap Try.wrC), Try.boxesS W]⟩ bx [Seg.files 5 bk F2, Seg.row (some ga) 119 2 W.length pc (W.flatMap Try.wrC), Try.boxesS W] ga (0 + (i : Int).toNat * 2) (Try.wrC e) :=
      fun {_} => RdW.row (j := 1) rfl (fun k u hu => by rw [Nat.zero_add, Int.toNat_natCast]; exact flat_get (f := Try.wrC) (sz := 2) (fun _ _ => rfl) he k u hu)
    refine At.run 100 true [true] [hR (Try.wrC e)] rfl (by (repeat' apply And.intro) <;> first | exact rE | exact True.intro | omega | rfl | (simp only [inK]; omega) | exact decide_eq_true (by omega) | exact decide_eq_false (by omega) | (simp; done) | (simp; omega) | (simp [Value.oneCell']; done) | exact i64s_one _ | exact AggOk.mk (by kernel_rfl) (by kernel_rfl)) ?_
    refine At.step [] rfl rfl rfl rfl rfl trivial (OpOk.alloc (cs := [.int .i64 0, .nilFunc]) rfl (by kernel_rfl) fun b6 hb6 => ?_)
    refine At.run 100 true [] [hB 0] rfl (by (repeat' apply And.intro) <;> first | exact True.intro | omega | (simp only [inK]; omega) | (simp; done) | (simp; omega) | exact decide_eq_true (by omega) | exact decide_eq_false (by omega) | rfl | (simp [Value.oneCell']; done) | exact i64s_one _ | exact AggOk.mk (by kernel_rfl) (by kernel_rfl)) ?_
    have hK := hch i
    have hCh : ∀ {bx : Bx}, CallOb Try.prog ⟨w, kys [(d, 112, dkV r bs (.map (some bk)) (sv (some ga) W.length pc))] [Seg.files 5 bk FK, Seg.row (some ga) 119 2 W.length pc (W.flatMap Try.wrC), Try.boxesS W]⟩ bx [Seg.files 5 bk F2, Seg.row (some ga) 119 2 W.length pc (W.flatMap Try.wrC), Try.boxesS W] F (allArgs [] [.int .i64 i] ca) (.int .i64 (K i)) :=
      fun {_} w' hw' => by rw [allArgs_eq]; exact hch i w' hlt hw'.ext
    refine At.quietT 13 1 true [] [hB 0, hB 1, hC (.int .i64 (K i)), hB 0] ⟨by kernel_rfl, by kernel_rfl, rfl, by kernel_rfl, by kernel_rfl, by kernel_rfl, rfl, rfl, rfl⟩ rfl rfl rfl (by (repeat' apply And.intro) <;> first | exact hCh | exact True.intro | omega | rfl | (simp only [inK]; omega) | exact decide_eq_true (by omega) | exact decide_eq_false (by omega) | (simp; done) | (simp; omega) | (simp [Value.oneCell']; done) | exact i64s_one _ | exact AggOk.mk (by kernel_rfl) (by kernel_rfl)) rfl ?_
    have hby : (bytesF F2 e.name).length ≤ 1048576 := by rw [← readN_nbs]; exact hF2.read e.name
    have hWe := hW e hem
    refine AtD.fork1 13 (by kernel_rfl) (StepD.by [] rfl rfl rfl rfl trivial (OpOk.callO [] [true] rfl rfl (fun w' hw' ho => Try.write1_w bk F2 (min (max (K i) 0) e.s.length) e.name e.at0 e.s e.b1 e.b2 e.b3 w' ho (Try.boxesS_ok hw' (by simp) hem).1 (Try.boxesS_ok hw' (by simp) hem).2.1 (Try.boxesS_ok hw' (by simp) hem).2.2
      (WOk.apartH hw' (s := Try.boxesS W) (by simp) (Try.boxesS_keys hem).1) (WOk.apartH hw' (s := Try.boxesS W) (by simp) (Try.boxesS_keys hem).2.1) (WOk.apartH hw' (s := Try.boxesS W) (by simp) (Try.boxesS_keys hem).2.2) (by omega) (by omega) (by omega)) ?_))
    rintro v bx' hp' ⟨rfl, rfl, g, c, rfl⟩
    refine AtD.done (by kernel_rfl) ?_
    refine At.run 100 true [] [] rfl (by (repeat' apply And.intro) <;> first | exact True.intro | omega | (simp only [inK]; omega) | (simp; done) | (simp; omega) | exact decide_eq_true (by omega) | exact decide_eq_false (by omega) | rfl | (simp [Value.oneCell']; done) | exact i64s_one _ | exact AggOk.mk (by kernel_rfl) (by kernel_rfl)) ?_
    refine At.keep [false, true] [true, true, true] rfl ?_
    refine At.weak (ih _ _ _ _ (by omega) ⟨i + 1, _, rfl, by omega, ?_, ?_, rfl, rfl, rfl⟩) ⟨rfl, rfl, rfl, rfl, some_int_eq (by omega), trivial⟩
    · rw [← hcr, hdrop, cutW_nbs]; rfl
    · rw [cutW_nbs]; exact hF2.cut (by omega) hWe
  · have hd : W.drop i = [] := List.drop_of_length_le (by omega)
    rw [hd] at hcr
    have hcr' : nbs F2 = crashN (nbs FK) (W.map PendE.wn) K 0 := hcr
    have hFb : ∀ f, f ∈ F2 → 0 < f.bytes.length ∧ f.bytes.length ≤ 16777216 := fun f hf => by have := hF2 _ (mem_nbs hf); simp only at this; omega
    refine At.run 100 true [false] [hB 0] rfl (by (repeat' apply And.intro) <;> first | exact True.intro | omega | (simp only [inK]; omega) | (simp; done) | (simp; omega) | exact decide_eq_true (by omega) | exact decide_eq_false (by omega) | rfl | (simp [Value.oneCell']; done) | exact i64s_one _ | exact AggOk.mk (by kernel_rfl) (by kernel_rfl)) ?_
    refine At.step [] rfl rfl rfl rfl rfl trivial (OpOk.call rfl (fun w' hw' => Try.copied_w bk F2 w' (hw'.files (by simp)) hFb) ?_)
    rintro v bx' hp' ⟨b3, F3, rfl, rfl, rfl, hperm⟩
    refine At.run 100 true [] [hB 0, hB 0] rfl (by (repeat' apply And.intro) <;> first | exact True.intro | omega | (simp only [inK]; omega) | (simp; done) | (simp; omega) | exact decide_eq_true (by omega) | exact decide_eq_false (by omega) | rfl | (simp [Value.oneCell']; done) | exact i64s_one _ | exact AggOk.mk (by kernel_rfl) (by kernel_rfl)) ?_
    refine At.keep [true] [true, true] rfl ?_
    exact At.ret [] rfl Try.func24 rfl trivial ⟨rfl, b3, F3, F2, rfl, rfl, hcr', hperm, hF2⟩

end Go.Proofs

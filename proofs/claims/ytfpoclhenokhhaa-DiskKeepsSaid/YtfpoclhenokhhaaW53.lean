/-
  Walks of layer 9: synced files behind a crash.
-/
import Derived.Test.YtfpoclhenokhhaaW52
import Derived.Test.YtfpoclhenokhhaaP23
namespace Go.Proofs
open Go Go.Eng
set_option maxRecDepth 100000
set_option maxHeartbeats 4000000
attribute [local irreducible] Tri

/-- Something that is done with a disk. -/
structure ActE where
  k : Int
  name : List UInt8
  at0 : Int
  s : List UInt8
  ka : Option Addr
  kc : Nat
  keep : List Int
def acC (e : ActE) : List Value := [.int .u8 e.k, str e.name, .int .i64 e.at0, str e.s, .slice e.ka e.keep.length e.kc]
structure ActOk (w : World) (e : ActE) : Prop where
  k : 0 ≤ e.k ∧ e.k ≤ 255
  n : e.name.length ≤ 9223372036854775807
  a : inK .i64 e.at0
  s : e.s.length ≤ 9223372036854775807
  sl : SlOk w e.ka (i64s e.keep)
  kl : e.keep.length ≤ 9223372036854775807
  ki : ∀ x, x ∈ e.keep → inK .i64 x
theorem ac_cell {L : List ActE} {i : Nat} {e : ActE} {S0 : Base} {bx : Bx} {hp : List Seg} {g o off : Nat} (hc : ∀ j u, (L.flatMap acC)[j]? = some u → S0.w0.cell? ⟨g, o + j, none⟩ = some u) (hm : g ∉ S0.mods) (h : L[i]? = some e) (f : Nat) {v : Value} (hv : (acC e)[f]? = some v) (ho : off = o + i * 5 + f) : RdW S0 bx hp g off [v] :=
  RdW.sl hc hm (i * 5 + f) (by omega) (fun j u hu => by
    match j, hu with
    | 0, hu =>
      simp only [List.getElem?_cons_zero, Option.some.injEq] at hu
      subst hu
      exact flat_get (f := acC) (sz := 5) (fun _ _ => rfl) h f _ hv)

theorem keepN_in {xs : List Int} (h : ∀ x, x ∈ xs → inK .i64 x) (i : Nat) : inK .i64 (keepN xs i) := by
  unfold keepN
  split
  · rename_i x hx
    exact h x (List.mem_of_getElem? hx)
  · simp [inK]

theorem namedB_len {n : List UInt8} (h : namedB n = true) : n.length ≤ 16 := by
  simp only [namedB, Bool.and_eq_true] at h
  exact Nat.le_of_ble_eq_true h.1.2

/-- What is known of a disk that files are written behind their ends of. -/
structure KInv (S : FL) (n : Nat) (FS : List FileE) (W : List PendE) : Prop where
  fok : FOK (nbs FS)
  used : sumB (nbs FS) ≤ 1048576
  grow : ∀ n, (readN S n).length ≤ (readN (nbs FS) n).length
  wn : W.length ≤ n
  w : ∀ e, e ∈ W → namedB e.name = true ∧ e.at0 + e.s.length ≤ 1048576 ∧ (readN S e.name).length ≤ e.at0

theorem KInv.put {S : FL} {n : Nat} {FS : List FileE} {W : List PendE} (h : KInv S n FS W) {nm s : List UInt8} {g c b1 b2 b3 : Nat} (he : wrE 1048576 FS nm (bytesF FS nm).length s = 0) :
    KInv S (n + 1) (putF FS ⟨nm, wrB (bytesF FS nm) (bytesF FS nm).length s, g, c⟩) (W ++ [⟨nm, (bytesF FS nm).length, s, b1, b2, b3⟩]) := by
  have hif : namedB nm = true ∧ s ≠ [] ∧ s.length + usedF FS ≤ 1048576 := by
    unfold wrE at he
    split at he
    · cases he
    · rename_i h1
      split at he
      · cases he
      · split at he
        · cases he
        · split at he
          · cases he
          · rename_i h6
            simp only [not_or] at h1
            refine ⟨by simpa using h1.1, h1.2, by omega⟩
  obtain ⟨h1, h2, h3⟩ := hif
  have h4 : 0 < s.length := List.length_pos_iff.2 h2
  have hb : bytesF FS nm = readN (nbs FS) nm := (readN_nbs FS nm).symm
  have hwl := wrB_len (bytesF FS nm) (bytesF FS nm).length s
  have hwl2 : (wrB (bytesF FS nm) (bytesF FS nm).length s).length = (bytesF FS nm).length + s.length := by omega
  have hput : nbs (putF FS ⟨nm, wrB (bytesF FS nm) (bytesF FS nm).length s, g, c⟩) = putN (nbs FS) (nm, wrB (bytesF FS nm) (bytesF FS nm).length s) := putN_nbs _ _
  have hsum := sumB_putN (nbs FS) (nm, wrB (bytesF FS nm) (bytesF FS nm).length s)
  rw [usedF_nbs] at h3
  simp only [hwl2, ← hb] at hsum
  have hle : (bytesF FS nm).length ≤ sumB (nbs FS) := by
    rw [hb]
    rcases @readN_mem (nbs FS) nm with h5 | h5
    · rw [h5]; simp
    · exact sumB_mem h5
  refine ⟨?_, by rw [hput]; omega, fun m => ?_, by rw [List.length_append]; have := h.wn; simp; omega, fun e he => ?_⟩
  · rw [hput]
    intro p hp
    rcases putN_mem hp with rfl | hp
    · simp only [hwl2]; omega
    · exact h.fok p hp
  · rw [hput, readN_putN]
    have := h.grow m
    by_cases hm : nm = m
    · subst hm
      rw [if_pos rfl]
      show _ ≤ (wrB (bytesF FS nm) (bytesF FS nm).length s).length
      rw [hwl2, hb]; omega
    · rw [if_neg hm]; exact this
  · rcases List.mem_append.1 he with he | he
    · exact h.w e he
    · simp only [List.mem_singleton] at he
      subst he
      refine ⟨h1, ?_, ?_⟩
      · simp only; omega
      · simp only [hb]; exact h.grow nm
theorem KInv.next {S : FL} {n : Nat} {FS : List FileE} {W : List PendE} (h : KInv S n FS W) : KInv S (n + 1) FS W := ⟨h.fok, h.used, h.grow, by have := h.wn; omega, h.w⟩

theorem WOk.apartR {S : Base} {bm br : Bx} {hm hr : List Seg} {w : World} (h : WOk S (bm ++ br) (hm ++ hr) w) {e : Nat × TypeId × List Value} (he : e ∈ br) : e.1 ∉ kys bm hm := by
  have h1 := (kys_append bm br hm hr).nodup_iff.1 h.nd
  intro h2
  exact (List.nodup_append.1 h1).2.2 _ h2 _ (mem_kys_bx he) rfl
theorem SlOk.ext2 {S : Base} {bx : Bx} {hp : List Seg} {w' w'' : World} {a : Option Addr} {xs : List Value} (h : SlOk S.w0 a xs) (hw' : WOk S bx hp w') (hm : S.mods = []) {m : List Nat} (hs : ∀ k, k ∈ m → k ∈ kys bx hp) (he : Ext m w' w'') : SlOk w'' a xs := by
  by_cases hx : xs = []
  · rw [hx]; exact SlOk.nil _ _
  · refine (h.ext hw'.ext (by simp [hm])).ext he (fun k hk hkm => ?_)
    have h1 := h.lt hx k hk
    rcases hw'.own k (hs k hkm) with h2 | h2
    · rw [hm] at h2; simp at h2
    · omega

theorem Try.keeps_w (S : FL) (a : Option Addr) (ca : Nat) (L : List ActE) (lb : Option Addr) (lc : Nat) (ks : List Int) (kb : Option Addr) (kc : Nat) (w : World) (hSl : S.length ≤ 9223372036854775807) (hS : SlOk w a (fl S)) (hSn : ∀ p, p ∈ S → p.1.length ≤ 9223372036854775807 ∧ p.2.length ≤ 9223372036854775807)
    (hLl : L.length ≤ 9223372036854775807) (hL0 : SlOk w lb (L.flatMap acC)) (hLe : ∀ e, e ∈ L → ActOk w e) (hkl : ks.length ≤ 9223372036854775807) (hk0 : SlOk w kb (i64s ks)) (hki : ∀ x, x ∈ ks → inK .i64 x) :
    Fun Try.prog 6 [.slice a S.length ca, .slice lb L.length lc, .slice kb ks.length kc] w (.bool true) := by
  refine Tri.enter (bx := []) (hp := []) Try.func6 rfl (by kernel_rfl) rfl (Own.nil w) ?_
  have hA : ∀ {bx : Bx} {hp : List Seg}, CallOb Try.prog ⟨w, kys [] []⟩ bx hp 18 [] (.bool true) := fun {_ _} w' hw' => Try.alive9_w w'
  have hG : ∀ {bx : Bx} {hp : List Seg}, CallOb Try.prog ⟨w, kys [] []⟩ bx hp 19 [.slice a S.length ca] (.bool (greatS S)) := fun {_ _} w' hw' => Try.great9_w S a ca w' hSl (hS.ext hw'.ext (by simp [kys])) hSn
  have hM : ∀ {bx : Bx} {hp : List Seg}, CallOb Try.prog ⟨w, kys [] []⟩ bx hp 21 [.slice a S.length ca] (.bool (mayS S)) := fun {_ _} w' hw' => Try.rMay_w9 S a ca w' hSl (hS.ext hw'.ext (by simp [kys])) hSn
  cases hg : greatS S with
  | true =>
    rw [hg] at hG
    refine At.run 100 true [false, true, true, true] [hC (.bool true), hC (.bool true)] rfl (by (repeat' apply And.intro) <;> first | exact hA | exact hG | exact True.intro | omega | rfl | (simp only [inK]; omega) | exact decide_eq_true (by omega) | exact decide_eq_false (by omega) | (simp; done) | (simp; omega) | (simp [Value.oneCell']; done) | exact i64s_one _ | exact AggOk.mk (by kernel_rfl) (by kernel_rfl)) ?_
    exact At.retK [] [] [] rfl rfl Try.func6 rfl trivial ⟨rfl, rfl, rfl⟩
  | false =>
  rw [hg] at hG
  obtain ⟨hS60, hS6⟩ := greatS_lens hg
  by_cases hL30 : 30 < L.length
  · refine At.run 100 true [false, false, true, true] [hC (.bool true), hC (.bool false)] rfl (by (repeat' apply And.intro) <;> first | exact hA | exact hG | exact True.intro | omega | rfl | (simp only [inK]; omega) | exact decide_eq_true (by omega) | exact decide_eq_false (by omega) | (simp; done) | (simp; omega) | (simp [Value.oneCell']; done) | exact i64s_one _ | exact AggOk.mk (by kernel_rfl) (by kernel_rfl)) ?_
    exact At.retK [] [] [] rfl rfl Try.func6 rfl trivial ⟨rfl, rfl, rfl⟩
  by_cases hk100 : 100 < ks.length
  · refine At.run 100 true [false, false, false, true] [hC (.bool true), hC (.bool false)] rfl (by (repeat' apply And.intro) <;> first | exact hA | exact hG | exact True.intro | omega | rfl | (simp only [inK]; omega) | exact decide_eq_true (by omega) | exact decide_eq_false (by omega) | (simp; done) | (simp; omega) | (simp [Value.oneCell']; done) | exact i64s_one _ | exact AggOk.mk (by kernel_rfl) (by kernel_rfl)) ?_
    exact At.retK [] [] [] rfl rfl Try.func6 rfl trivial ⟨rfl, rfl, rfl⟩
  refine At.run 100 true [false, false, false, false] [hC (.bool true), hC (.bool false)] rfl (by (repeat' apply And.intro) <;> first | exact hA | exact hG | exact True.intro | omega | rfl | (simp only [inK]; omega) | exact decide_eq_true (by omega) | exact decide_eq_false (by omega) | (simp; done) | (simp; omega) | (simp [Value.oneCell']; done) | exact i64s_one _ | exact AggOk.mk (by kernel_rfl) (by kernel_rfl)) ?_
  refine At.step [] rfl rfl rfl rfl rfl trivial (OpOk.call rfl (fun w' hw' => Try.Of_w S a ca 1048576 w' hSl (hS.ext hw'.ext (by simp [kys])) (fun p hp => (hSn p hp).1) (fun p hp => (hSn p hp).2)) ?_)
  intro v bx' hp' hOf
  unfold Try.OfR at hOf
  cases hm : mayS S with
  | false =>
    rw [hm] at hM
    rw [if_pos (.inr (.inr hm))] at hOf
    obtain ⟨rfl, rfl, rfl⟩ := hOf
    refine At.run 100 true [true] [hC (.bool false)] rfl (by (repeat' apply And.intro) <;> first | exact hM | exact True.intro | omega | rfl | (simp only [inK]; omega) | exact decide_eq_true (by omega) | exact decide_eq_false (by omega) | (simp; done) | (simp; omega) | (simp [Value.oneCell']; done) | exact i64s_one _ | exact AggOk.mk (by kernel_rfl) (by kernel_rfl)) ?_
    exact At.retK [] [] [] rfl rfl Try.func6 rfl trivial ⟨rfl, rfl, rfl⟩
  | true =>
  rw [if_neg (by rw [hm]; simp), if_neg (by omega)] at hOf
  obtain ⟨d, bs, bk, FS, FK, rfl, rfl, rfl, hFS, hFK⟩ := hOf
  obtain ⟨hS1, hS2, hS3⟩ := mayS_iff.1 hm
  have hfokS : FOK S := fun p hp => ⟨List.length_pos_iff.2 (hS2 p hp).2, by have := sumB_mem hp; omega⟩
  have hI0 : KInv S 0 FS [] := ⟨by rw [hFS]; exact hfokS, by rw [hFS]; omega, by rw [hFS]; exact fun n => Nat.le_refl _, by simp, by simp⟩
  refine At.run 100 true [false] [] rfl (by (repeat' apply And.intro) <;> first | exact True.intro | omega | (simp only [inK]; omega) | (simp; done) | (simp; omega) | exact decide_eq_true (by omega) | exact decide_eq_false (by omega) | rfl | (simp [Value.oneCell']; done) | exact i64s_one _ | exact AggOk.mk (by kernel_rfl) (by kernel_rfl)) ?_
  refine At.nilRow 119 2 ?_
  refine At.reshape (fun w' hw' => WOk.nilBoxes hw') ?_
  refine At.order [] [2, 1, 2, 3] rfl rfl ?_
  refine At.loop (n := L.length) (env0 := [(0, .slice a S.length ca), (1, .slice lb L.length lc), (2, .slice kb ks.length kc), (7, .pointer (some ⟨d, 0, none⟩)), (9, .int .i64 0)]) (fun m env bx hp => ∃ (i : Nat) (a1 : Option Nat) (pc : Nat) (FS : List FileE) (W : List PendE), m = L.length - i ∧ i ≤ L.length ∧ KInv S i FS W ∧
    env = [(0, .slice a S.length ca), (1, .slice lb L.length lc), (2, .slice kb ks.length kc), (7, .pointer (some ⟨d, 0, none⟩)), (9, .int .i64 i)] ∧ bx = [(d, 112, dkV 1048576 bs (.map (some bk)) (sv a1 W.length pc))] ∧ hp = [Seg.files 5 bs FS, Seg.row a1 119 2 W.length pc (W.flatMap Try.wrC), Try.boxesS W, Seg.files 5 bk FK]) rfl
    ⟨0, none, 0, FS, [], by simp, by omega, hI0, rfl, rfl, rfl⟩ ⟨rfl, rfl, rfl, rfl, rfl, trivial⟩ ?_
  clear hI0 hFS
  rintro m env bx hp ⟨i, a1, pc, FS, W, rfl, hi, hI, rfl, rfl, rfl⟩ ih
  by_cases hlt : i < L.length
  · obtain ⟨e, he⟩ : ∃ e, L[i]? = some e := ⟨_, List.getElem?_eq_getElem hlt⟩
    obtain ⟨g, o, rfl, hc⟩ := hL0.get (by
      intro h
      have h1 := flat_len (f := acC) (sz := 5) (l := L) (fun _ _ => rfl)
      rw [h] at h1; simp only [List.length_nil] at h1; omega)
    have hek := hLe e (List.mem_of_getElem? he)
    have hmg : g ∉ (⟨w, kys [] []⟩ : Base).mods := by simp [kys]
    have rN : ∀ {bx : Bx} {hp : List Seg}, RdW ⟨w, kys [] []⟩ bx hp g (o + (i : Int).toNat * 5 + 1) [str e.name] := fun {_ _} => ac_cell hc hmg he 1 rfl (by omega)
    have rS : ∀ {bx : Bx} {hp : List Seg}, RdW ⟨w, kys [] []⟩ bx hp g (o + (i : Int).toNat * 5 + 3) [str e.s] := fun {_ _} => ac_cell hc hmg he 3 rfl (by omega)
    have hsl : (bl ⟨e.s.toArray⟩).length = e.s.length := by rw [bl_of]
    have hnl : (bl ⟨e.name.toArray⟩).length = e.name.length := by rw [bl_of]
    have hes := hek.s
    have hen := hek.n
    by_cases hs3 : 300 < e.s.length
    · refine At.run 100 true [true, true, true] [hR [str e.s]] rfl (by (repeat' apply And.intro) <;> first | exact rS | exact True.intro | omega | rfl | (simp only [inK]; omega) | exact decide_eq_true (by omega) | exact decide_eq_false (by omega) | (simp; done) | (simp; omega) | (simp [Value.oneCell']; done) | exact i64s_one _ | exact AggOk.mk (by kernel_rfl) (by kernel_rfl)) ?_
      refine At.keep [] [] rfl ?_
      exact At.ret [] rfl Try.func6 rfl trivial ⟨rfl, rfl, rfl⟩
    by_cases hn1 : 100 < e.name.length
    · refine At.run 100 true [true, false, true] [hR [str e.s], hR [str e.name]] rfl (by (repeat' apply And.intro) <;> first | exact rS | exact rN | exact True.intro | omega | rfl | (simp only [inK]; omega) | exact decide_eq_true (by omega) | exact decide_eq_false (by omega) | (simp; done) | (simp; omega) | (simp [Value.oneCell']; done) | exact i64s_one _ | exact AggOk.mk (by kernel_rfl) (by kernel_rfl)) ?_
      refine At.keep [] [] rfl ?_
      exact At.ret [] rfl Try.func6 rfl trivial ⟨rfl, rfl, rfl⟩
    refine At.run 100 true [true, false, false] [hR [str e.s], hR [str e.name]] rfl (by (repeat' apply And.intro) <;> first | exact rS | exact rN | exact True.intro | omega | rfl | (simp only [inK]; omega) | exact decide_eq_true (by omega) | exact decide_eq_false (by omega) | (simp; done) | (simp; omega) | (simp [Value.oneCell']; done) | exact i64s_one _ | exact AggOk.mk (by kernel_rfl) (by kernel_rfl)) ?_
    have rA : ∀ {bx : Bx} {hp : List Seg}, CallOb Try.prog ⟨w, kys [] []⟩ ((d, 112, dkV 1048576 bs (.map (some bk)) (sv a1 W.length pc)) :: bx) (Seg.files 5 bs FS :: hp) 23 [.pointer (some ⟨d, 0, none⟩), str e.name] (str (bytesF FS e.name)) := fun {_ _} w' hw' =>
      Try.DRead_w d 1048576 bs (.map (some bk)) (sv a1 W.length pc) FS e.name w' (hw'.bx (d, 112, dkV 1048576 bs (.map (some bk)) (sv a1 W.length pc)) (by simp)) (hw'.files (by simp)) (fun f hf => (hI.fok _ (mem_nbs hf)).1)
    have hbl : (bl ⟨(bytesF FS e.name).toArray⟩).length = (bytesF FS e.name).length := by rw [bl_of]
    have hb1 : (bytesF FS e.name).length ≤ 1048576 := by rw [← readN_nbs]; exact hI.fok.read _
    refine At.quietT 19 1 true [] [hR [str e.name], hR [str e.name], hC (str (bytesF FS e.name)), hR [str e.s]] ⟨by kernel_rfl, by kernel_rfl, rfl, by kernel_rfl, by kernel_rfl, by kernel_rfl, rfl, rfl, rfl⟩ rfl rfl rfl (by (repeat' apply And.intro) <;> first | exact rN | exact rS | exact rA | exact True.intro | omega | rfl | (simp only [inK]; omega) | exact decide_eq_true (by omega) | exact decide_eq_false (by omega) | (simp; done) | (simp; omega) | (simp [Value.oneCell']; done) | exact i64s_one _ | exact AggOk.mk (by kernel_rfl) (by kernel_rfl)) rfl ?_
    simp only [bl_of]
    have hw0 : ∀ w', Own [(d, 112, dkV 1048576 bs (.map (some bk)) (sv a1 W.length pc))] [Seg.files 5 bs FS, Seg.row a1 119 2 W.length pc (W.flatMap Try.wrC), Try.boxesS W] w' → Tri Try.prog 22 [.pointer (some ⟨d, 0, none⟩), str e.name, .int .i64 (bytesF FS e.name).length, str e.s] w' (kys [(d, 112, dkV 1048576 bs (.map (some bk)) (sv a1 W.length pc))] [Seg.files 5 bs FS, Seg.row a1 119 2 W.length pc (W.flatMap Try.wrC), Try.boxesS W]) _ := fun w' ho =>
      Try.DWrite_w d 1048576 bs (.map (some bk)) a1 pc FS W e.name (bytesF FS e.name).length e.s w' ho (by omega) (by have := hI.used; rw [usedF_nbs]; omega) (fun f hf => (hI.fok _ (mem_nbs hf)).2) (by have := hI.wn; omega) hen (by omega) (by simp only [inK]; omega)
    refine AtD.fork1 19 (by kernel_rfl) (StepD.by [] rfl rfl rfl rfl trivial (OpOk.callO [true] [true, true, true] rfl rfl (fun w' _ ho => hw0 w' ho) ?_))
    rintro v bx' hp' ⟨rfl, hW0⟩
    refine AtD.done (by kernel_rfl) ?_
    by_cases he0 : wrE 1048576 FS e.name (bytesF FS e.name).length e.s = 0
    · rw [if_neg (by simp [he0])] at hW0
      obtain ⟨a2, p2, g2, c2, b1, b2, b3, rfl, rfl⟩ := hW0
      refine At.run 100 true [] [] rfl (by (repeat' apply And.intro) <;> first | exact True.intro | omega | (simp only [inK]; omega) | (simp; done) | (simp; omega) | exact decide_eq_true (by omega) | exact decide_eq_false (by omega) | rfl | (simp [Value.oneCell']; done) | exact i64s_one _ | exact AggOk.mk (by kernel_rfl) (by kernel_rfl)) ?_
      refine At.keep [true] [true, true, true, true] rfl ?_
      refine At.weak (ih _ _ _ _ (by omega) ⟨i + 1, a2, p2, _, W ++ [⟨e.name, (bytesF FS e.name).length, e.s, b1, b2, b3⟩], rfl, by omega, hI.put (g := g2) (c := c2) (b1 := b1) (b2 := b2) (b3 := b3) he0, rfl, ?_, ?_⟩) ⟨rfl, rfl, rfl, rfl, some_int_eq (by omega), trivial⟩
      · rw [List.length_append]; rfl
      · rw [List.length_append]; rfl
    · rw [if_pos he0] at hW0
      obtain ⟨rfl, rfl⟩ := hW0
      refine At.run 100 true [] [] rfl (by (repeat' apply And.intro) <;> first | exact True.intro | omega | (simp only [inK]; omega) | (simp; done) | (simp; omega) | exact decide_eq_true (by omega) | exact decide_eq_false (by omega) | rfl | (simp [Value.oneCell']; done) | exact i64s_one _ | exact AggOk.mk (by kernel_rfl) (by kernel_rfl)) ?_
      refine At.keep [true] [true, true, true, true] rfl ?_
      exact At.weak (ih _ _ _ _ (by omega) ⟨i + 1, a1, pc, FS, W, rfl, by omega, hI.next, rfl, rfl, rfl⟩) ⟨rfl, rfl, rfl, rfl, some_int_eq (by omega), trivial⟩
  · have hWn := hI.wn
    refine At.run 100 true [false] [] rfl (by (repeat' apply And.intro) <;> first | exact True.intro | omega | (simp only [inK]; omega) | (simp; done) | (simp; omega) | exact decide_eq_true (by omega) | exact decide_eq_false (by omega) | rfl | (simp [Value.oneCell']; done) | exact i64s_one _ | exact AggOk.mk (by kernel_rfl) (by kernel_rfl)) ?_
    refine At.step [] rfl rfl rfl rfl rfl trivial (OpOk.call rfl (fun w' _ => Try.Keep_w (.slice kb ks.length kc) w' rfl ⟨_, _, _, rfl⟩) ?_)
    rintro v bx' hp' ⟨b, rfl, rfl, rfl⟩
    refine At.order [1] [2, 2, 3] rfl rfl ?_
    have hFKf : FOK (nbs FK) := hfokS.perm hFK
    have hKp : ∀ w', WOk ⟨w, kys [] []⟩ ([(d, 112, dkV 1048576 bs (.map (some bk)) (sv a1 W.length pc))] ++ [(b, 40, [.slice kb ks.length kc])]) ([Seg.files 5 bk FK, Seg.row a1 119 2 W.length pc (W.flatMap Try.wrC), Try.boxesS W] ++ [Seg.files 5 bs FS]) w' → Own [(d, 112, dkV 1048576 bs (.map (some bk)) (sv a1 W.length pc))] [Seg.files 5 bk FK, Seg.row a1 119 2 W.length pc (W.flatMap Try.wrC), Try.boxesS W] w' → Tri Try.prog 24 [.pointer (some ⟨d, 0, none⟩), .func (.func 72) ⟨[]⟩ ⟨[.pointer (some ⟨b, 0, none⟩)]⟩] w' (kys [(d, 112, dkV 1048576 bs (.map (some bk)) (sv a1 W.length pc))] [Seg.files 5 bk FK, Seg.row a1 119 2 W.length pc (W.flatMap Try.wrC), Try.boxesS W]) _ := fun w' hw' ho =>
      Try.Crash_w d 1048576 bs bk a1 pc FK W 72 [.pointer (some ⟨b, 0, none⟩)] (keepN ks) w' ho (fun i w'' hi hx => Try.Keep1_w ks kb kc i b w''
        (by rw [hx.block b (hw'.lt b (mem_kys_bx (e := (b, 40, [.slice kb ks.length kc])) (by simp))) (WOk.apartR hw' (e := (b, 40, [.slice kb ks.length kc])) (by simp))]; exact hw'.bx (b, 40, [.slice kb ks.length kc]) (by simp))
        (SlOk.ext2 hk0 hw' rfl (fun k hk => (kys_append _ _ _ _).mem_iff.2 (List.mem_append_left _ hk)) hx) hkl) hFKf (fun e he => (hI.w e he).2.1) (by omega)
    refine At.step [] rfl rfl rfl rfl rfl trivial (OpOk.callO [true] [true, true, true] rfl rfl hKp ?_)
    rintro v bx' hp' ⟨rfl, b3, F3, F2, rfl, rfl, hF2, hF3, hfok⟩
    refine at_know (P := ((nbs F3).map (·.1)).Nodup) (fun w' hw' => by
      have := (hw'.files (t := 5) (b := b3) (F := F3) (by simp)).names
      rw [nbs, List.map_map]; exact this) fun hn3 => ?_
    have hn2 : ((nbs F2).map (·.1)).Nodup := (hF3.map _).nodup_iff.1 hn3
    have hord : ordN (nbs F3) = ordN (nbs F2) := ordN_of_perm (ordN_ris hn2) (hF3.trans (ordN_perm hn2).symm)
    have hl3 : F3.length = (ordN (nbs F3)).length := by rw [(ordN_perm hn3).length_eq]; simp [nbs]
    have hl2 : F2.length = (ordN (nbs F2)).length := by rw [(ordN_perm hn2).length_eq]; simp [nbs]
    have hl23 : F3.length = F2.length := by rw [hl3, hl2, hord]
    have hcl := crash_len (W.map PendE.wn) (nbs FK) (keepN ks) 0
    rw [← hF2, List.length_map, hFK.length_eq] at hcl
    have hlF2 : F2.length ≤ 90 := by have : F2.length = (nbs F2).length := by simp [nbs]
                                     omega
    have hnm : ∀ p, p ∈ nbs F2 → namedB p.1 = true := by
      rw [hF2]
      exact crash_names (N := fun n => namedB n = true) _ _ _ _ (fun p hp => (hS2 p (hFK.mem_iff.1 hp)).1) (fun e he => by
        obtain ⟨x, hx, rfl⟩ := List.mem_map.1 he
        exact (hI.w x hx).1)
    have hmay : mayS (ordN (nbs F3)) = true := by
      rw [mayS_iff]
      refine ⟨by omega, fun p hp => ?_, ordN_ris hn3⟩
      have hp2 := hF3.mem_iff.1 ((ordN_perm hn3).mem_iff.1 hp)
      exact ⟨hnm p hp2, List.length_pos_iff.1 (hfok p hp2).1⟩
    have hfok3 : FOK (nbs F3) := hfok.perm hF3
    have hpre : PrefS S (nbs F3) := by
      intro n
      have h1 : PrefS S (nbs FK) := fun n => by rw [readN_perm (risN_nodup hS3) hFK.symm]; exact List.prefix_rfl
      have h2 := crash_pref (W.map PendE.wn) (nbs FK) (keepN ks) 0 h1 (fun e he => by
        obtain ⟨x, hx, rfl⟩ := List.mem_map.1 he
        exact (hI.w x hx).2.2)
      rw [← hF2] at h2
      rw [readN_perm hn3 hF3]
      exact h2 n
    have hP : ∀ {bx : Bx} {hp : List Seg}, CallOb Try.prog ⟨w, kys [] []⟩ ((d, 112, dkV 1048576 b3 (.map (some bk)) (.slice none 0 0)) :: bx) hp 26 [.pointer (some ⟨d, 0, none⟩)] (.int .i64 0) := fun {_ _} w' hw' =>
      Try.Pending_w d 1048576 b3 (.map (some bk)) none 0 0 w' (hw'.bx (d, 112, dkV 1048576 b3 (.map (some bk)) (.slice none 0 0)) (by simp))
    refine At.run 100 true [false, false] [hC (.int .i64 0)] rfl (by (repeat' apply And.intro) <;> first | exact hP | exact True.intro | omega | rfl | (simp only [inK]; omega) | exact decide_eq_true (by omega) | exact decide_eq_false (by omega) | (simp; done) | (simp; omega) | (simp [Value.oneCell']; done) | exact i64s_one _ | exact AggOk.mk (by kernel_rfl) (by kernel_rfl)) ?_
    refine At.step [false] rfl rfl rfl rfl rfl rfl (OpOk.call rfl (fun w' hw' => Try.DFiles_w d 1048576 b3 bk (.slice none 0 0) F3 w' (hw'.bx (d, 112, dkV 1048576 b3 (.map (some bk)) (.slice none 0 0)) (by simp)) (hw'.files (by simp)) (by omega)) ?_)
    rintro v bx' hp' ⟨a3, c3, rfl, rfl, rfl⟩
    refine At.run 100 true [false] [] rfl (by (repeat' apply And.intro) <;> first | exact True.intro | omega | (simp only [inK]; omega) | (simp; done) | (simp; omega) | exact decide_eq_true (by omega) | exact decide_eq_false (by omega) | rfl | (simp [Value.oneCell']; done) | exact i64s_one _ | exact AggOk.mk (by kernel_rfl) (by kernel_rfl)) ?_
    refine At.step [false] rfl rfl rfl rfl rfl rfl (OpOk.call rfl (fun w' hw' => Try.DKept_w d 1048576 b3 bk (.slice none 0 0) F2 w' (hw'.bx (d, 112, dkV 1048576 b3 (.map (some bk)) (.slice none 0 0)) (by simp)) (hw'.files (by simp)) (by omega)) ?_)
    rintro v bx' hp' ⟨a4, c4, rfl, rfl, rfl⟩
    have hSm : ∀ {bx : Bx} {hp : List Seg}, CallOb Try.prog ⟨w, kys [] []⟩ bx (Seg.row a4 56 2 F2.length c4 (fl (ordN (nbs F2))) :: Seg.row a3 56 2 F3.length c3 (fl (ordN (nbs F3))) :: hp) 27 [sv a3 F3.length c3, sv a4 F2.length c4] (.bool true) := fun {_ _} w' hw' => by
      have := Try.rSame9_w (ordN (nbs F3)) (ordN (nbs F2)) (svA a3) (svA a4) c3 c4 w' (by omega) (by omega) (SlOk.row (hw'.hp (Seg.row a3 56 2 F3.length c3 (fl (ordN (nbs F3)))) (by simp))) (SlOk.row (hw'.hp (Seg.row a4 56 2 F2.length c4 (fl (ordN (nbs F2)))) (by simp)))
      rw [← hl3, ← hl2, decide_eq_true hord] at this
      exact this
    refine At.run 100 true [false, false] [hC (.bool true)] rfl (by (repeat' apply And.intro) <;> first | exact hSm | exact True.intro | omega | rfl | (simp only [inK]; omega) | exact decide_eq_true (by omega) | exact decide_eq_false (by omega) | (simp; done) | (simp; omega) | (simp [Value.oneCell']; done) | exact i64s_one _ | exact AggOk.mk (by kernel_rfl) (by kernel_rfl)) ?_
    refine At.step [false] rfl rfl rfl rfl rfl rfl (OpOk.call rfl (fun w' hw' => Try.DFiles_w d 1048576 b3 bk (.slice none 0 0) F3 w' (hw'.bx (d, 112, dkV 1048576 b3 (.map (some bk)) (.slice none 0 0)) (by simp)) (hw'.files (by simp)) (by omega)) ?_)
    rintro v bx' hp' ⟨a5, c5, rfl, rfl, rfl⟩
    have hMy : ∀ {bx : Bx} {hp : List Seg}, CallOb Try.prog ⟨w, kys [] []⟩ bx (Seg.row a5 56 2 F3.length c5 (fl (ordN (nbs F3))) :: hp) 21 [sv a5 F3.length c5] (.bool true) := fun {_ _} w' hw' => by
      have := Try.rMay_w9 (ordN (nbs F3)) (svA a5) c5 w' (by omega) (SlOk.row (hw'.hp (Seg.row a5 56 2 F3.length c5 (fl (ordN (nbs F3)))) (by simp))) (fun p hp => ?_)
      · rw [← hl3, hmay] at this
        exact this
      · have hp2 := (ordN_perm hn3).mem_iff.1 hp
        have h1 := hfok3 p hp2
        have h2 := namedB_len (hnm p (hF3.mem_iff.1 hp2))
        omega
    refine At.run 100 true [false, false] [hC (.bool true)] rfl (by (repeat' apply And.intro) <;> first | exact hMy | exact True.intro | omega | rfl | (simp only [inK]; omega) | exact decide_eq_true (by omega) | exact decide_eq_false (by omega) | (simp; done) | (simp; omega) | (simp [Value.oneCell']; done) | exact i64s_one _ | exact AggOk.mk (by kernel_rfl) (by kernel_rfl)) ?_
    refine At.keep [true] [false, false, false, true] rfl ?_
    have hR3 : ∀ {bx : Bx} {hp : List Seg} {n : List UInt8}, CallOb Try.prog ⟨w, kys [] []⟩ ((d, 112, dkV 1048576 b3 (.map (some bk)) (.slice none 0 0)) :: bx) (Seg.files 5 b3 F3 :: hp) 23 [.pointer (some ⟨d, 0, none⟩), str n] (str (bytesF F3 n)) := fun {_ _ _} w' hw' =>
      Try.DRead_w d 1048576 b3 (.map (some bk)) (.slice none 0 0) F3 _ w' (hw'.bx (d, 112, dkV 1048576 b3 (.map (some bk)) (.slice none 0 0)) (by simp)) (hw'.files (by simp)) (fun f hf => (hfok3 _ (mem_nbs hf)).1)
    refine At.loop (n := S.length) (env0 := [(0, .slice a S.length ca), (7, .pointer (some ⟨d, 0, none⟩)), (10, .int .i64 0)]) (fun m env bx hp => ∃ j : Nat, m = S.length - j ∧ j ≤ S.length ∧
      env = [(0, .slice a S.length ca), (7, .pointer (some ⟨d, 0, none⟩)), (10, .int .i64 j)] ∧ bx = [(d, 112, dkV 1048576 b3 (.map (some bk)) (.slice none 0 0))] ∧ hp = [Seg.files 5 b3 F3]) rfl
      ⟨0, by simp, by omega, rfl, rfl, rfl⟩ ⟨rfl, rfl, rfl, trivial⟩ ?_
    clear ih
    rintro m env bx hp ⟨j, rfl, hj, rfl, rfl, rfl⟩ ih
    by_cases hjl : j < S.length
    · obtain ⟨p, hp⟩ : ∃ p, S[j]? = some p := ⟨_, List.getElem?_eq_getElem hjl⟩
      have hpm := List.mem_of_getElem? hp
      have hne : S ≠ [] := by intro h; rw [h] at hjl; simp at hjl
      obtain ⟨g, o, rfl, hc⟩ := hS.get (fl_ne hne)
      have hmg : g ∉ (⟨w, kys [] []⟩ : Base).mods := by simp [kys]
      have rN : ∀ {bx : Bx} {hp : List Seg}, RdW ⟨w, kys [] []⟩ bx hp g (o + (j : Int).toNat * 2 + 0) [str p.1] := fun {_ _} => RdW.fileN hc hmg hp (by omega)
      have rB : ∀ {bx : Bx} {hp : List Seg}, RdW ⟨w, kys [] []⟩ bx hp g (o + (j : Int).toNat * 2 + 1) [str p.2] := fun {_ _} => RdW.fileB hc hmg hp (by omega)
      have hpr : p.2 <+: bytesF F3 p.1 := by
        have := hpre p.1
        rw [readN_nbs, readN_at (risN_nodup hS3) hpm] at this
        exact this
      have hpl := hpr.length_le
      have hpt : (bytesF F3 p.1).take p.2.length = p.2 := (List.prefix_iff_eq_take.1 hpr).symm
      have hbl : (bl ⟨(bytesF F3 p.1).toArray⟩).length = (bytesF F3 p.1).length := by rw [bl_of]
      have hb2 : (bl ⟨p.2.toArray⟩).length = p.2.length := by rw [bl_of]
      have hl1 := hfok3.read p.1
      rw [readN_nbs] at hl1
      refine At.run 100 true [true] [hR [str p.1], hC (str (bytesF F3 p.1))] rfl (by (repeat' apply And.intro) <;> first | exact rN | exact hR3 | exact True.intro | omega | rfl | (simp only [inK]; omega) | exact decide_eq_true (by omega) | exact decide_eq_false (by omega) | (simp; done) | (simp; omega) | (simp [Value.oneCell']; done) | exact i64s_one _ | exact AggOk.mk (by kernel_rfl) (by kernel_rfl)) ?_
      refine At.quiet true [false] [hR [str p.2], hR [str p.2], hR [str p.2]] ⟨by kernel_rfl, by kernel_rfl, rfl, rfl, rfl⟩ rfl rfl rfl (by (repeat' apply And.intro) <;> first | exact rB | exact True.intro | omega | rfl | (simp only [inK]; omega) | exact decide_eq_true (by omega) | exact decide_eq_false (by omega) | (simp; done) | (simp; omega) | (simp [Value.oneCell']; done) | exact i64s_one _ | exact AggOk.mk (by kernel_rfl) (by kernel_rfl)) ?_
      have hcond : (!decide (bl ⟨(List.take (((bl ⟨p.2.toArray⟩).length : Nat) : Int).toNat (bl ⟨(bytesF F3 p.1).toArray⟩)).toArray⟩ = bl ⟨p.2.toArray⟩)) = false := by
        simp only [bl_of, Int.toNat_natCast, hpt, decide_true, Bool.not_true]
      rw [hcond]
      refine At.run 100 true [false] [] rfl (by (repeat' apply And.intro) <;> first | exact True.intro | omega | (simp only [inK]; omega) | (simp; done) | (simp; omega) | exact decide_eq_true (by omega) | exact decide_eq_false (by omega) | rfl | (simp [Value.oneCell']; done) | exact i64s_one _ | exact AggOk.mk (by kernel_rfl) (by kernel_rfl)) ?_
      refine At.keep [true] [true] rfl ?_
      exact At.weak (ih (S.length - (j + 1)) _ _ _ (by omega) ⟨j + 1, rfl, by omega, rfl, rfl, rfl⟩) ⟨rfl, rfl, some_int_eq (by omega), trivial⟩
    · refine At.run 100 true [false] [] rfl (by (repeat' apply And.intro) <;> first | exact True.intro | omega | (simp only [inK]; omega) | (simp; done) | (simp; omega) | exact decide_eq_true (by omega) | exact decide_eq_false (by omega) | rfl | (simp [Value.oneCell']; done) | exact i64s_one _ | exact AggOk.mk (by kernel_rfl) (by kernel_rfl)) ?_
      refine At.keep [false] [false] rfl ?_
      exact At.ret [] rfl Try.func6 rfl trivial ⟨rfl, rfl, rfl⟩

end Go.Proofs

/-
  Walks of layer 9: a disk of files.
-/
import Derived.Test.YtfpoclhenokhhaaW44
import Derived.Test.YtfpoclhenokhhaaP20
namespace Go.Proofs
open Go Go.Eng
set_option maxRecDepth 100000
set_option maxHeartbeats 4000000
attribute [local irreducible] Tri

theorem wrB_nil (s : List UInt8) : wrB [] 0 s = s := by
  unfold wrB
  have h0 : max ([] : List UInt8).length (0 + s.length) = s.length := by simp
  rw [h0]
  show putL (List.replicate s.length 0) 0 s = s
  exact putL_all (by simp)
theorem usedF_nbs (F : List FileE) : usedF F = sumB (nbs F) := by simp only [usedF, sumB, nbs, List.map_map]; rfl
theorem getF_new {F : List FileE} {n : List UInt8} (h : ∀ f, f ∈ F → f.name ≠ n) : getF F n = none := List.find?_eq_none.2 (fun f hf => by simpa using h f hf)
theorem bytesF_new {F : List FileE} {n : List UInt8} (h : ∀ f, f ∈ F → f.name ≠ n) : bytesF F n = [] := by unfold bytesF; rw [getF_new h]
theorem mem_nbs {F : List FileE} {f : FileE} (h : f ∈ F) : (f.name, f.bytes) ∈ nbs F := List.mem_map_of_mem (f := FileE.nb) h

structure MayOk (S : FL) : Prop where
  len : S.length ≤ 4096
  all : ∀ p, p ∈ S → namedB p.1 = true ∧ p.2 ≠ []
  ris : risN S = true
theorem mayS_iff {S : FL} : mayS S = true ↔ MayOk S := by
  unfold mayS
  rw [Bool.and_eq_true, Bool.and_eq_true, decide_eq_true_iff, List.all_eq_true]
  constructor
  · rintro ⟨h1, h2, h3⟩
    refine ⟨h1, fun p hp => ?_, h3⟩
    have := h2 p hp
    simp only [okE, Bool.and_eq_true, Bool.not_eq_true', decide_eq_false_iff_not] at this
    exact this
  · rintro ⟨h1, h2, h3⟩
    refine ⟨h1, fun p hp => ?_, h3⟩
    simp only [okE, Bool.and_eq_true, Bool.not_eq_true', decide_eq_false_iff_not]
    exact h2 p hp

/-- What a new disk is, or why there is none. -/
def Try.OfR (S : FL) (room : Int) (v : Value) (bx : Bx) (hp : List Seg) : Prop :=
  if room < 0 ∨ 1048576 < room ∨ mayS S = false then v = .tuple #[.pointer none, .int .i64 1] ∧ bx = [] ∧ hp = []
  else if room < sumB S then v = .tuple #[.pointer none, .int .i64 6] ∧ bx = [] ∧ hp = []
  else ∃ d bs bk FS FK, v = .tuple #[.pointer (some ⟨d, 0, none⟩), .int .i64 0] ∧ bx = [(d, 112, dkV room.toNat bs (.map (some bk)) (.slice none 0 0))] ∧ hp = [Seg.files 5 bk FK, Seg.files 5 bs FS] ∧ nbs FS = S ∧ (nbs FK).Perm S

theorem Try.Of_w (S : FL) (a : Option Addr) (cap : Nat) (room : Int) (w : World) (hlen : S.length ≤ 9223372036854775807) (hrow : SlOk w a (fl S)) (hns : ∀ p, p ∈ S → p.1.length ≤ 9223372036854775807) (hbs : ∀ p, p ∈ S → p.2.length ≤ 9223372036854775807) :
    Tri Try.prog 20 [.slice a S.length cap, .int .i64 room] w [] (Try.OfR S room) := by
  refine Tri.enter (bx := []) (hp := []) Try.func20 rfl (by kernel_rfl) rfl (Own.nil w) ?_
  have hMay : ∀ {bx : Bx} {hp : List Seg}, CallOb Try.prog ⟨w, kys [] []⟩ bx hp 38 [.slice a S.length cap] (.bool (mayS S)) := fun {_ _} w' hw' => Try.dMay_w S a cap w' hlen (hrow.ext hw'.ext (by simp [kys])) hns
  by_cases h1 : room < 0
  · refine At.run 100 true [true, true, true] [] rfl (by (repeat' apply And.intro) <;> first | exact True.intro | omega | (simp only [inK]; omega) | (simp; done) | (simp; omega) | exact decide_eq_true (by omega) | exact decide_eq_false (by omega) | rfl | (simp [Value.oneCell']; done) | exact i64s_one _ | exact AggOk.mk (by kernel_rfl) (by kernel_rfl)) ?_
    exact At.retK [] [] [] rfl rfl Try.func20 rfl trivial (by unfold Try.OfR; rw [if_pos (.inl h1)]; exact ⟨rfl, rfl, rfl⟩)
  by_cases h2 : 1048576 < room
  · refine At.run 100 true [false, true, true] [] rfl (by (repeat' apply And.intro) <;> first | exact True.intro | omega | (simp only [inK]; omega) | (simp; done) | (simp; omega) | exact decide_eq_true (by omega) | exact decide_eq_false (by omega) | rfl | (simp [Value.oneCell']; done) | exact i64s_one _ | exact AggOk.mk (by kernel_rfl) (by kernel_rfl)) ?_
    exact At.retK [] [] [] rfl rfl Try.func20 rfl trivial (by unfold Try.OfR; rw [if_pos (.inr (.inl h2))]; exact ⟨rfl, rfl, rfl⟩)
  cases hm : mayS S with
  | false =>
    rw [hm] at hMay
    refine At.run 100 true [false, false, true] [hC (.bool false)] rfl (by (repeat' apply And.intro) <;> first | exact hMay | exact True.intro | omega | rfl | (simp only [inK]; omega) | exact decide_eq_true (by omega) | exact decide_eq_false (by omega) | (simp; done) | (simp; omega) | (simp [Value.oneCell']; done) | exact i64s_one _ | exact AggOk.mk (by kernel_rfl) (by kernel_rfl)) ?_
    exact At.retK [] [] [] rfl rfl Try.func20 rfl trivial (by unfold Try.OfR; rw [if_pos (.inr (.inr hm))]; exact ⟨rfl, rfl, rfl⟩)
  | true =>
    rw [hm] at hMay
    obtain ⟨hS1, hS2, hS3⟩ := mayS_iff.1 hm
    obtain ⟨r, rfl⟩ : ∃ r : Nat, room = r := ⟨room.toNat, by omega⟩
    have hif1 : ¬ ((r : Int) < 0 ∨ 1048576 < (r : Int) ∨ mayS S = false) := by rw [hm]; simp; omega
    refine At.run 100 true [false, false, false] [hC (.bool true)] rfl (by (repeat' apply And.intro) <;> first | exact hMay | exact True.intro | omega | rfl | (simp only [inK]; omega) | exact decide_eq_true (by omega) | exact decide_eq_false (by omega) | (simp; done) | (simp; omega) | (simp [Value.oneCell']; done) | exact i64s_one _ | exact AggOk.mk (by kernel_rfl) (by kernel_rfl)) ?_
    refine At.step [] rfl rfl rfl rfl rfl trivial (OpOk.makeFiles 5 rfl fun bs => ?_)
    refine At.run 100 true [] [] rfl (by (repeat' apply And.intro) <;> first | exact True.intro | omega | (simp only [inK]; omega) | (simp; done) | (simp; omega) | exact decide_eq_true (by omega) | exact decide_eq_false (by omega) | rfl | (simp [Value.oneCell']; done) | exact i64s_one _ | exact AggOk.mk (by kernel_rfl) (by kernel_rfl)) ?_
    refine At.step [] rfl rfl rfl rfl rfl trivial (OpOk.box rfl rfl rfl fun d hd => ?_)
    refine At.run 100 true [] [] rfl (by (repeat' apply And.intro) <;> first | exact True.intro | omega | (simp only [inK]; omega) | (simp; done) | (simp; omega) | exact decide_eq_true (by omega) | exact decide_eq_false (by omega) | rfl | (simp [Value.oneCell']; done) | exact i64s_one _ | exact AggOk.mk (by kernel_rfl) (by kernel_rfl)) ?_
    refine At.loop (n := S.length) (env0 := [(0, .slice a S.length cap), (6, .pointer (some ⟨d, 0, none⟩)), (24, .slice a S.length cap), (25, .int .i64 S.length), (26, .int .i64 0)]) (fun m env bx hp => ∃ (i : Nat) (FS : List FileE), m = S.length - i ∧ i ≤ S.length ∧ nbs FS = S.take i ∧ sumB (S.take i) ≤ r ∧
      env = [(0, .slice a S.length cap), (6, .pointer (some ⟨d, 0, none⟩)), (24, .slice a S.length cap), (25, .int .i64 S.length), (26, .int .i64 i)] ∧ bx = [(d, 112, dkV r bs (.map none) (.slice none 0 0))] ∧ hp = [Seg.files 5 bs FS]) rfl ⟨0, [], by simp, by omega, rfl, by simp [sumB], rfl, rfl, rfl⟩ ⟨rfl, rfl, rfl, rfl, rfl, trivial⟩ ?_
    rintro m env bx hp ⟨i, FS, rfl, hi, hFS, hsum, rfl, rfl, rfl⟩ ih
    have huF : usedF FS = sumB (S.take i) := by rw [usedF_nbs, hFS]
    by_cases hlt : i < S.length
    · obtain ⟨p, hp⟩ : ∃ p, S[i]? = some p := ⟨_, List.getElem?_eq_getElem hlt⟩
      have hpm := List.mem_of_getElem? hp
      have hne : S ≠ [] := by intro h; rw [h] at hlt; simp at hlt
      obtain ⟨g, o, rfl, hc⟩ := hrow.get (fl_ne hne)
      have hmg : g ∉ (⟨w, kys [] []⟩ : Base).mods := by simp [kys]
      have rE : ∀ {bx : Bx} {hp : List Seg}, RdW ⟨w, kys [] []⟩ bx hp g (o + (i : Int).toNat * 2) [str p.1, str p.2] := fun {_ _} => RdW.fileE hc hmg hp (by omega)
      have hsn : sumB (S.take (i + 1)) = sumB (S.take i) + p.2.length := by rw [List.take_add_one, hp]; exact sumB_snoc _ _
      have hbl : (bl ⟨p.2.toArray⟩).length = p.2.length := by rw [bl_of]
      have hp2 := hbs p hpm
      refine At.run 100 true [true] [hR [str p.1, str p.2]] rfl (by (repeat' apply And.intro) <;> first | exact rE | exact True.intro | omega | rfl | (simp only [inK]; omega) | exact decide_eq_true (by omega) | exact decide_eq_false (by omega) | (simp; done) | (simp; omega) | (simp [Value.oneCell']; done) | exact i64s_one _ | exact AggOk.mk (by kernel_rfl) (by kernel_rfl)) ?_
      refine At.step [] rfl rfl rfl rfl rfl trivial (OpOk.alloc (cs := [str [], str []]) rfl (by kernel_rfl) fun b8 hb8 => ?_)
      refine At.run 100 true [] [hB 0] rfl (by (repeat' apply And.intro) <;> first | simp [Value.oneCell', str]; done | exact True.intro | omega | rfl | (simp only [inK]; omega) | exact decide_eq_true (by omega) | exact decide_eq_false (by omega) | (simp; done) | (simp; omega) | (simp [Value.oneCell']; done) | exact i64s_one _ | exact AggOk.mk (by kernel_rfl) (by kernel_rfl)) ?_
      have hRoom : CallOb Try.prog ⟨w, kys [] []⟩ [(b8, 56, [str p.1, str p.2]), (d, 112, dkV r bs (.map none) (.slice none 0 0))] [Seg.files 5 bs FS] 49 [.pointer (some ⟨d, 0, none⟩)] (.int .i64 ((r : Int) - (usedF FS : Int))) :=
        fun w' hw' => Try.Room_w d r bs (.map none) (.slice none 0 0) FS w' (hw'.bx (d, 112, dkV r bs (.map none) (.slice none 0 0)) (by simp)) (hw'.files (by simp)) (by omega) (by omega)
      refine At.quiet true [] [hB 0, hC (.int .i64 ((r : Int) - (usedF FS : Int)))] ⟨by kernel_rfl, by kernel_rfl, rfl, rfl, rfl⟩ rfl rfl rfl (by (repeat' apply And.intro) <;> first | exact hRoom | exact True.intro | omega | rfl | (simp only [inK]; omega) | exact decide_eq_true (by omega) | exact decide_eq_false (by omega) | (simp; done) | (simp; omega) | (simp [Value.oneCell']; done) | exact i64s_one _ | exact AggOk.mk (by kernel_rfl) (by kernel_rfl)) ?_
      by_cases hfull : r < sumB (S.take (i + 1))
      · refine At.run 100 true [true] [] rfl (by (repeat' apply And.intro) <;> first | exact True.intro | omega | (simp only [inK]; omega) | (simp; done) | (simp; omega) | exact decide_eq_true (by omega) | exact decide_eq_false (by omega) | rfl | (simp [Value.oneCell']; done) | exact i64s_one _ | exact AggOk.mk (by kernel_rfl) (by kernel_rfl)) ?_
        refine At.keep [] [] rfl ?_
        have hif2 : (r : Int) < sumB S := by have := @sumB_take S (i + 1); omega
        exact At.ret [] rfl Try.func20 rfl trivial (by unfold Try.OfR; rw [if_neg hif1, if_pos hif2]; exact ⟨rfl, rfl, rfl⟩)
      · refine At.run 100 true [false] [] rfl (by (repeat' apply And.intro) <;> first | exact True.intro | omega | (simp only [inK]; omega) | (simp; done) | (simp; omega) | exact decide_eq_true (by omega) | exact decide_eq_false (by omega) | rfl | (simp [Value.oneCell']; done) | exact i64s_one _ | exact AggOk.mk (by kernel_rfl) (by kernel_rfl)) ?_
        have hnew : ∀ f, f ∈ FS → f.name ≠ p.1 := by
          intro f hf
          have h3 := mem_nbs hf
          rw [hFS] at h3
          obtain ⟨k, hk, hke⟩ := List.mem_take_iff_getElem.1 h3
          have h4 := risN_lt hS3 (i := k) (k := i) (by omega) (List.getElem?_eq_getElem (by omega)) hp
          rw [hke] at h4
          exact less_ne h4
        have hby := bytesF_new hnew
        have hpl : 0 < p.2.length := List.length_pos_iff.2 (hS2 p hpm).2
        refine At.quietT 8 1 true [] [hB 1, hB 0, hB 0] ⟨by kernel_rfl, by kernel_rfl, rfl, by kernel_rfl, by kernel_rfl, by kernel_rfl, rfl, rfl, rfl⟩ rfl rfl rfl (by (repeat' apply And.intro) <;> first | exact True.intro | omega | (simp only [inK]; omega) | (simp; done) | (simp; omega) | exact decide_eq_true (by omega) | exact decide_eq_false (by omega) | rfl | (simp [Value.oneCell']; done) | exact i64s_one _ | exact AggOk.mk (by kernel_rfl) (by kernel_rfl)) rfl ?_
        have hw0 : ∀ w', Own [] [Seg.files 5 bs FS] w' → Tri Try.prog 67 [.map (some bs), str p.1, .int .i64 0, str p.2] w' (kys [] [Seg.files 5 bs FS]) _ := fun w' ho => Try.write_w bs FS p.1 0 p.2 w' ho hpl (by omega) (by rw [hby]; simp)
        refine AtD.fork1 8 (by kernel_rfl) (StepD.by [] rfl rfl rfl rfl trivial (OpOk.callO [] [true] rfl rfl (fun w' _ ho => hw0 w' ho) ?_))
        rintro v bx' hp' ⟨rfl, rfl, g', c', rfl⟩
        rw [hby, wrB_nil, putF_new (f := ⟨p.1, p.2, g', c'⟩) hnew]
        refine AtD.done (by kernel_rfl) ?_
        refine At.run 100 true [] [] rfl (by (repeat' apply And.intro) <;> first | exact True.intro | omega | (simp only [inK]; omega) | (simp; done) | (simp; omega) | exact decide_eq_true (by omega) | exact decide_eq_false (by omega) | rfl | (simp [Value.oneCell']; done) | exact i64s_one _ | exact AggOk.mk (by kernel_rfl) (by kernel_rfl)) ?_
        refine At.keep [false, true] [true] rfl ?_
        refine At.weak (ih _ _ _ _ (by omega) ⟨i + 1, _, rfl, by omega, ?_, by omega, rfl, rfl, rfl⟩) ⟨rfl, rfl, rfl, rfl, some_int_eq (by omega), trivial⟩
        rw [List.take_add_one, hp, ← hFS]
        simp [nbs, FileE.nb]
    · have hti : S.take i = S := List.take_of_length_le (by omega)
      rw [hti] at hFS hsum huF
      have hif2 : ¬ ((r : Int) < sumB S) := by omega
      have hFb : ∀ f, f ∈ FS → 0 < f.bytes.length ∧ f.bytes.length ≤ 16777216 := by
        intro f hf
        have h3 := mem_nbs hf
        rw [hFS] at h3
        have h4 := (hS2 _ h3).2
        have h5 := sumB_mem h3
        exact ⟨List.length_pos_iff.2 h4, by simp at h5; omega⟩
      refine At.run 100 true [false] [hB 0] rfl (by (repeat' apply And.intro) <;> first | exact True.intro | omega | (simp only [inK]; omega) | (simp; done) | (simp; omega) | exact decide_eq_true (by omega) | exact decide_eq_false (by omega) | rfl | (simp [Value.oneCell']; done) | exact i64s_one _ | exact AggOk.mk (by kernel_rfl) (by kernel_rfl)) ?_
      refine At.step [] rfl rfl rfl rfl rfl trivial (OpOk.call rfl (fun w' hw' => Try.copied_w bs FS w' (hw'.files (by simp)) hFb) ?_)
      rintro v bx' hp' ⟨bk, FK, rfl, rfl, rfl, hperm⟩
      refine At.run 100 true [] [hB 0] rfl (by (repeat' apply And.intro) <;> first | exact True.intro | omega | (simp only [inK]; omega) | (simp; done) | (simp; omega) | exact decide_eq_true (by omega) | exact decide_eq_false (by omega) | rfl | (simp [Value.oneCell']; done) | exact i64s_one _ | exact AggOk.mk (by kernel_rfl) (by kernel_rfl)) ?_
      refine At.keep [true] [true, true] rfl ?_
      exact At.ret [] rfl Try.func20 rfl trivial (by
        unfold Try.OfR
        rw [if_neg hif1, if_neg hif2]
        exact ⟨d, bs, bk, FS, FK, rfl, rfl, rfl, hFS, by rw [← hFS]; exact hperm⟩)

theorem Try.New_w (room : Int) (w : World) : Tri Try.prog 65 [.int .i64 room] w [] (Try.OfR [] room) := by
  refine Tri.enter (bx := []) (hp := []) Try.func65 rfl (by kernel_rfl) rfl (Own.nil w) ?_
  refine At.run 100 true [] [] rfl (by (repeat' apply And.intro) <;> first | exact True.intro | omega | (simp only [inK]; omega) | (simp; done) | (simp; omega) | exact decide_eq_true (by omega) | exact decide_eq_false (by omega) | rfl | (simp [Value.oneCell']; done) | exact i64s_one _ | exact AggOk.mk (by kernel_rfl) (by kernel_rfl)) ?_
  refine At.step [] rfl rfl rfl rfl rfl trivial (OpOk.call rfl (fun w' hw' => Try.Of_w [] none 0 room w' (by simp) (.inl rfl) (by simp) (by simp)) ?_)
  intro v bx' hp' h
  have h0 := h
  unfold Try.OfR at h
  split at h
  · obtain ⟨rfl, rfl, rfl⟩ := h
    refine At.run 100 true [] [] rfl (by (repeat' apply And.intro) <;> first | exact True.intro | omega | (simp only [inK]; omega) | (simp; done) | (simp; omega) | exact decide_eq_true (by omega) | exact decide_eq_false (by omega) | rfl | (simp [Value.oneCell']; done) | exact i64s_one _ | exact AggOk.mk (by kernel_rfl) (by kernel_rfl)) ?_
    exact At.retK [] [] [] rfl rfl Try.func65 rfl trivial h0
  split at h
  · obtain ⟨rfl, rfl, rfl⟩ := h
    refine At.run 100 true [] [] rfl (by (repeat' apply And.intro) <;> first | exact True.intro | omega | (simp only [inK]; omega) | (simp; done) | (simp; omega) | exact decide_eq_true (by omega) | exact decide_eq_false (by omega) | rfl | (simp [Value.oneCell']; done) | exact i64s_one _ | exact AggOk.mk (by kernel_rfl) (by kernel_rfl)) ?_
    exact At.retK [] [] [] rfl rfl Try.func65 rfl trivial h0
  · obtain ⟨d, bs, bk, FS, FK, rfl, rfl, rfl, h1, h2⟩ := h
    refine At.run 100 true [] [] rfl (by (repeat' apply And.intro) <;> first | exact True.intro | omega | (simp only [inK]; omega) | (simp; done) | (simp; omega) | exact decide_eq_true (by omega) | exact decide_eq_false (by omega) | rfl | (simp [Value.oneCell']; done) | exact i64s_one _ | exact AggOk.mk (by kernel_rfl) (by kernel_rfl)) ?_
    exact At.ret [] rfl Try.func65 rfl trivial h0

end Go.Proofs

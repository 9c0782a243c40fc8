/-
  Walks of layer 9: a disk written.
-/
import Derived.Test.YtfpoclhenokhhaaW45
namespace Go.Proofs
open Go Go.Eng
set_option maxRecDepth 100000
set_option maxHeartbeats 4000000
attribute [local irreducible] Tri

/-- A write that is pending, and where its parts lie. -/
structure PendE where
  name : List UInt8
  at0 : Nat
  s : List UInt8
  b1 : Nat
  b2 : Nat
  b3 : Nat
def Try.wrC (e : PendE) : List Value := [.int .i64 e.s.length, .func (.func 71) ⟨[]⟩ ⟨[.pointer (some ⟨e.b1, 0, none⟩), .pointer (some ⟨e.b2, 0, none⟩), .pointer (some ⟨e.b3, 0, none⟩)]⟩]
def Try.bxE (e : PendE) : Bx := [(e.b1, 9, [str e.name]), (e.b2, 3, [.int .i64 e.at0]), (e.b3, 9, [str e.s])]
def Try.boxesS (W : List PendE) : Seg := Seg.pack (W.flatMap Try.bxE) []
theorem Try.wrC_one (e : PendE) : ∀ v, v ∈ Try.wrC e → v.oneCell' = true := by
  intro v hv
  simp only [Try.wrC, List.mem_cons, List.not_mem_nil, or_false] at hv
  rcases hv with rfl | rfl <;> rfl
theorem WOk.apart {S : Base} {bx : Bx} {hp : List Seg} {w : World} (h : WOk S bx hp w) {e : Nat × TypeId × List Value} {s : Seg} (he : e ∈ bx) (hs : s ∈ hp) : e.1 ∉ kys [] [s] := by
  intro hk
  have hk2 : e.1 ∈ s.keys := by simpa [kys] using hk
  have hnd := List.nodup_append.1 h.nd
  exact hnd.2.2 _ (List.mem_map_of_mem (f := (·.1)) he) _ (List.mem_flatMap.2 ⟨s, hs, hk2⟩) rfl
theorem RdW.blk0' {S : Base} {bx : Bx} {hp : List Seg} {b t i : Nat} {l cs : List Value} (hi : nth bx i = some (b, t, l)) (h : l = cs) : RdW S bx hp b 0 cs := by
  subst h
  intro w hw j u hu
  rw [Nat.zero_add]
  exact cell_blk (hw.bx _ (nth_mem hi)) hu

theorem Try.boxesAdd {S : Base} {w : World} {x : Nat × TypeId × List Value} {s1 s2 : Seg} {W : List PendE} (e : PendE)
    (h : WOk S [(e.b3, 9, [str e.s]), (e.b2, 3, [.int .i64 e.at0]), (e.b1, 9, [str e.name]), x] [s1, s2, Try.boxesS W] w) : WOk S [x] [s1, s2, Try.boxesS (W ++ [e])] w := by
  have h1 := h.permB (hr := [Try.boxesS W, s1, s2]) (List.Perm.refl _) (List.perm_append_comm (l₁ := [s1, s2]) (l₂ := [Try.boxesS W]))
  have h2 : WOk S ([(e.b3, 9, [str e.s]), (e.b2, 3, [.int .i64 e.at0]), (e.b1, 9, [str e.name]), x] ++ W.flatMap Try.bxE) [s1, s2] w := WOk.unpackS h1
  have hp : ([(e.b3, 9, [str e.s]), (e.b2, 3, [.int .i64 e.at0]), (e.b1, 9, [str e.name]), x] ++ W.flatMap Try.bxE).Perm ([x] ++ (W ++ [e]).flatMap Try.bxE) := by
    rw [List.flatMap_append, List.flatMap_singleton]
    have e1 : ([(e.b3, 9, [str e.s]), (e.b2, 3, [.int .i64 e.at0]), (e.b1, 9, [str e.name]), x] : Bx).Perm (x :: Try.bxE e) := by
      have := List.reverse_perm ([(e.b3, 9, [str e.s]), (e.b2, 3, [.int .i64 e.at0]), (e.b1, 9, [str e.name]), x] : Bx)
      simp only [List.reverse_cons, List.reverse_nil, List.nil_append, List.cons_append] at this
      exact this.symm
    refine (e1.append_right _).trans ?_
    rw [List.cons_append, List.singleton_append]
    exact (List.perm_append_comm).cons _
  have h3 := WOk.packS (h2.permB hp (List.Perm.refl _))
  exact h3.permB (List.Perm.refl _) (List.perm_append_comm (l₁ := [Try.boxesS (W ++ [e])]) (l₂ := [s1, s2]))

/-- What a write is told. -/
def wrE (r : Nat) (FS : List FileE) (n : List UInt8) (at0 : Int) (s : List UInt8) : Int :=
  if namedB n = false ∨ s = [] then 1
  else if at0 < 0 ∨ ((bytesF FS n).length : Int) < at0 then 11
  else if getF FS n = none ∧ FS.length = 4096 then 4
  else if (r : Int) - usedF FS < s.length - ((bytesF FS n).length - at0) then 6 else 0

theorem Try.DWrite_w (d r bs : Nat) (kv : Value) (a : Option Nat) (pc : Nat) (FS : List FileE) (W : List PendE) (n : List UInt8) (at0 : Int) (s : List UInt8) (w : World)
    (hown : Own [(d, 112, dkV r bs kv (sv a W.length pc))] [Seg.files 5 bs FS, Seg.row a 119 2 W.length pc (W.flatMap Try.wrC), Try.boxesS W] w) (hr : r ≤ 1048576) (hu : usedF FS ≤ 4611686018427387904) (hFb : ∀ f, f ∈ FS → f.bytes.length ≤ 1048576) (hW : W.length ≤ 1000000) (hn : n.length ≤ 9223372036854775807) (hs : s.length ≤ 4611686018427387904) (hat : inK .i64 at0) :
    Tri Try.prog 22 [.pointer (some ⟨d, 0, none⟩), str n, .int .i64 at0, str s] w (kys [(d, 112, dkV r bs kv (sv a W.length pc))] [Seg.files 5 bs FS, Seg.row a 119 2 W.length pc (W.flatMap Try.wrC), Try.boxesS W])
      (fun v bx hp => v = .int .i64 (wrE r FS n at0 s) ∧ if wrE r FS n at0 s ≠ 0 then bx = [(d, 112, dkV r bs kv (sv a W.length pc))] ∧ hp = [Seg.files 5 bs FS, Seg.row a 119 2 W.length pc (W.flatMap Try.wrC), Try.boxesS W]
        else ∃ a' pc' g c b1 b2 b3, bx = [(d, 112, dkV r bs kv (sv a' (W.length + 1) pc'))] ∧ hp = [Seg.files 5 bs (putF FS ⟨n, wrB (bytesF FS n) at0.toNat s, g, c⟩), Seg.row a' 119 2 (W.length + 1) pc' ((W ++ [(⟨n, at0.toNat, s, b1, b2, b3⟩ : PendE)]).flatMap Try.wrC), Try.boxesS (W ++ [⟨n, at0.toNat, s, b1, b2, b3⟩])]) := by
  refine Tri.enter Try.func22 rfl (by kernel_rfl) rfl hown ?_
  refine At.run 100 true [] [] rfl trivial ?_
  refine At.step [] rfl rfl rfl rfl rfl trivial (OpOk.box rfl rfl rfl fun b5 hb5 => ?_)
  refine At.step [] rfl rfl rfl rfl rfl trivial (OpOk.box rfl rfl rfl fun b6 hb6 => ?_)
  refine At.step [] rfl rfl rfl rfl rfl trivial (OpOk.box rfl rfl rfl fun b7 hb7 => ?_)
  have hN : ∀ {bx : Bx} {hp : List Seg}, CallOb Try.prog ⟨w, kys [(d, 112, dkV r bs kv (sv a W.length pc))] [Seg.files 5 bs FS, Seg.row a 119 2 W.length pc (W.flatMap Try.wrC), Try.boxesS W]⟩ bx hp 70 [str n] (.bool (namedB n)) := fun {_ _} w' hw' => Try.named_w n w' hn
  have hsz : (bl ⟨s.toArray⟩).length = s.length := by rw [bl_of]
  by_cases h1 : namedB n = false
  · have hE : wrE r FS n at0 s = 1 := by unfold wrE; rw [if_pos (.inl h1)]
    rw [h1] at hN
    refine At.run 100 true [false, true, true] [hB 2, hC (.bool false)] rfl (by (repeat' apply And.intro) <;> first | exact hN | exact True.intro | omega | rfl | (simp only [inK]; omega) | exact decide_eq_true (by omega) | exact decide_eq_false (by omega) | (simp; done) | (simp; omega) | (simp [Value.oneCell']; done) | exact i64s_one _ | exact AggOk.mk (by kernel_rfl) (by kernel_rfl)) ?_
    refine At.keep [false, false, false, true] [true, true, true] rfl ?_
    exact At.ret [] rfl Try.func22 rfl trivial ⟨by rw [hE]; rfl, by rw [hE, if_pos (by decide)]; exact ⟨rfl, rfl⟩⟩
  have h1' : namedB n = true := by simpa using h1
  rw [h1'] at hN
  by_cases h2 : s = []
  · have hE : wrE r FS n at0 s = 1 := by unfold wrE; rw [if_pos (.inr h2)]
    have hbe : decide (bl ⟨s.toArray⟩ = bl ⟨#[]⟩) = true := by rw [bl_of, h2]; rfl
    refine At.run 100 true [false, false, true] [hB 2, hC (.bool true), hB 0] rfl (by (repeat' apply And.intro) <;> first | exact hN | exact hbe | exact True.intro | omega | rfl | (simp only [inK]; omega) | exact decide_eq_true (by omega) | exact decide_eq_false (by omega) | (simp; done) | (simp; omega) | (simp [Value.oneCell']; done) | exact i64s_one _ | exact AggOk.mk (by kernel_rfl) (by kernel_rfl)) ?_
    refine At.keep [false, false, false, true] [true, true, true] rfl ?_
    exact At.ret [] rfl Try.func22 rfl trivial ⟨by rw [hE]; rfl, by rw [hE, if_pos (by decide)]; exact ⟨rfl, rfl⟩⟩
  have hbe : decide (bl ⟨s.toArray⟩ = bl ⟨#[]⟩) = false := by rw [bl_of]; exact decide_eq_false h2
  have hif1 : ¬ (namedB n = false ∨ s = []) := by rw [h1']; simp [h2]
  have hspos : 0 < s.length := List.length_pos_iff.2 h2
  refine At.run 100 true [false, false, false] [hB 2, hC (.bool true), hB 0] rfl (by (repeat' apply And.intro) <;> first | exact hN | exact hbe | exact True.intro | omega | rfl | (simp only [inK]; omega) | exact decide_eq_true (by omega) | exact decide_eq_false (by omega) | (simp; done) | (simp; omega) | (simp [Value.oneCell']; done) | exact i64s_one _ | exact AggOk.mk (by kernel_rfl) (by kernel_rfl)) ?_
  have hF0 := hown.files (t := 5) (b := bs) (F := FS) (by simp)
  obtain ⟨ao, co, hv, -⟩ := hF0.slF n
  have hol : (bytesF FS n).length ≤ 1048576 := by
    unfold bytesF
    cases hg : getF FS n with
    | none => simp
    | some f => exact hFb f (getF_some hg).1
  have hLk : LookOb Try.prog ⟨w, kys [(d, 112, dkV r bs kv (sv a W.length pc))] [Seg.files 5 bs FS, Seg.row a 119 2 W.length pc (W.flatMap Try.wrC), Try.boxesS W]⟩ [(b7, 9, [str s]), (b6, 3, [.int .i64 at0]), (b5, 9, [str n]), (d, 112, dkV r bs kv (sv a W.length pc))] [Seg.files 5 bs FS, Seg.row a 119 2 W.length pc (W.flatMap Try.wrC), Try.boxesS W] 109 (.map (some bs)) (str n) true (.tuple #[valF FS n, .bool (getF FS n).isSome]) := LookOb.fileOk Try.filesT Try.strT Try.zeroBytes (fun w' hw' => hw'.files (t := 5) (by simp))
  rw [hv] at hLk
  simp only [inK] at hat
  refine At.quiet true [] [hB 3, hB 2, hL (.tuple #[.slice ao (bytesF FS n).length co, .bool (getF FS n).isSome])] ⟨by kernel_rfl, by kernel_rfl, rfl, rfl, rfl⟩ rfl rfl rfl (by (repeat' apply And.intro) <;> first | exact hLk | exact True.intro | omega | rfl | (simp only [inK]; omega) | exact decide_eq_true (by omega) | exact decide_eq_false (by omega) | (simp; done) | (simp; omega) | (simp [Value.oneCell']; done) | exact i64s_one _ | exact AggOk.mk (by kernel_rfl) (by kernel_rfl)) ?_
  by_cases h3 : at0 < 0
  · have hE : wrE r FS n at0 s = 11 := by unfold wrE; rw [if_neg hif1, if_pos (.inl h3)]
    refine At.run 100 true [true, true] [hB 1] rfl (by (repeat' apply And.intro) <;> first | exact True.intro | omega | (simp only [inK]; omega) | (simp; done) | (simp; omega) | exact decide_eq_true (by omega) | exact decide_eq_false (by omega) | rfl | (simp [Value.oneCell']; done) | exact i64s_one _ | exact AggOk.mk (by kernel_rfl) (by kernel_rfl)) ?_
    refine At.keep [false, false, false, true] [true, true, true] rfl ?_
    exact At.ret [] rfl Try.func22 rfl trivial ⟨by rw [hE]; rfl, by rw [hE, if_pos (by decide)]; exact ⟨rfl, rfl⟩⟩
  by_cases h4 : ((bytesF FS n).length : Int) < at0
  · have hE : wrE r FS n at0 s = 11 := by unfold wrE; rw [if_neg hif1, if_pos (.inr h4)]
    refine At.run 100 true [false, true] [hB 1, hB 1] rfl (by (repeat' apply And.intro) <;> first | exact True.intro | omega | (simp only [inK]; omega) | (simp; done) | (simp; omega) | exact decide_eq_true (by omega) | exact decide_eq_false (by omega) | rfl | (simp [Value.oneCell']; done) | exact i64s_one _ | exact AggOk.mk (by kernel_rfl) (by kernel_rfl)) ?_
    refine At.keep [false, false, false, true] [true, true, true] rfl ?_
    exact At.ret [] rfl Try.func22 rfl trivial ⟨by rw [hE]; rfl, by rw [hE, if_pos (by decide)]; exact ⟨rfl, rfl⟩⟩
  have hif2 : ¬ (at0 < 0 ∨ ((bytesF FS n).length : Int) < at0) := by omega
  obtain ⟨at0, rfl⟩ : ∃ k : Nat, at0 = k := ⟨at0.toNat, by omega⟩
  rw [Int.toNat_natCast]
  refine At.cutU (ι := PLift (¬ (getF FS n = none ∧ FS.length = 4096))) ⟨0, [0, 1, 1, 1, 1, 0, 0, 1, 1, 1], []⟩ (fun _ => [(0, .pointer (some ⟨d, 0, none⟩)), (5, .pointer (some ⟨b5, 0, none⟩)), (6, .pointer (some ⟨b6, 0, none⟩)), (7, .pointer (some ⟨b7, 0, none⟩)), (9, .slice ao (bytesF FS n).length co), (10, .bool (getF FS n).isSome)]) (fun _ => [(b7, 9, [str s]), (b6, 3, [.int .i64 at0]), (b5, 9, [str n]), (d, 112, dkV r bs kv (sv a W.length pc))]) ?_ (fun hz => ?_)
  · rintro ⟨hif3⟩
    have hRoom : CallOb Try.prog ⟨w, kys [(d, 112, dkV r bs kv (sv a W.length pc))] [Seg.files 5 bs FS, Seg.row a 119 2 W.length pc (W.flatMap Try.wrC), Try.boxesS W]⟩ [(b7, 9, [str s]), (b6, 3, [.int .i64 at0]), (b5, 9, [str n]), (d, 112, dkV r bs kv (sv a W.length pc))] [Seg.files 5 bs FS, Seg.row a 119 2 W.length pc (W.flatMap Try.wrC), Try.boxesS W] 49 [.pointer (some ⟨d, 0, none⟩)] (.int .i64 ((r : Int) - (usedF FS : Int))) :=
      fun w' hw' => Try.Room_w d r bs kv (sv a W.length pc) FS w' (hw'.bx (d, 112, dkV r bs kv (sv a W.length pc)) (by simp)) (hw'.files (by simp)) (by omega) hu
    refine At.quiet true [] [hB 0, hB 1, hC (.int .i64 ((r : Int) - (usedF FS : Int)))] ⟨by kernel_rfl, by kernel_rfl, rfl, rfl, rfl⟩ rfl rfl rfl (by (repeat' apply And.intro) <;> first | exact hRoom | exact True.intro | omega | rfl | (simp only [inK]; omega) | exact decide_eq_true (by omega) | exact decide_eq_false (by omega) | (simp; done) | (simp; omega) | (simp [Value.oneCell']; done) | exact i64s_one _ | exact AggOk.mk (by kernel_rfl) (by kernel_rfl)) ?_
    by_cases h6 : (r : Int) - usedF FS < s.length - ((bytesF FS n).length - (at0 : Int))
    · have hE : wrE r FS n at0 s = 6 := by unfold wrE; rw [if_neg hif1, if_neg hif2, if_neg hif3, if_pos h6]
      refine At.run 100 true [true] [] rfl (by (repeat' apply And.intro) <;> first | exact True.intro | omega | (simp only [inK]; omega) | (simp; done) | (simp; omega) | exact decide_eq_true (by omega) | exact decide_eq_false (by omega) | rfl | (simp [Value.oneCell']; done) | exact i64s_one _ | exact AggOk.mk (by kernel_rfl) (by kernel_rfl)) ?_
      refine At.keep [false, false, false, true] [true, true, true] rfl ?_
      exact At.ret [] rfl Try.func22 rfl trivial ⟨by rw [hE]; rfl, by rw [hE, if_pos (by decide)]; exact ⟨rfl, rfl⟩⟩
    · have hE : wrE r FS n at0 s = 0 := by unfold wrE; rw [if_neg hif1, if_neg hif2, if_neg hif3, if_neg h6]
      refine At.run 100 true [false] [] rfl (by (repeat' apply And.intro) <;> first | exact True.intro | omega | (simp only [inK]; omega) | (simp; done) | (simp; omega) | exact decide_eq_true (by omega) | exact decide_eq_false (by omega) | rfl | (simp [Value.oneCell']; done) | exact i64s_one _ | exact AggOk.mk (by kernel_rfl) (by kernel_rfl)) ?_
      refine At.quietT 7 1 true [] [hB 3, hB 0] ⟨by kernel_rfl, by kernel_rfl, rfl, by kernel_rfl, by kernel_rfl, by kernel_rfl, rfl, rfl, rfl⟩ rfl rfl rfl (by (repeat' apply And.intro) <;> first | exact True.intro | omega | (simp only [inK]; omega) | (simp; done) | (simp; omega) | exact decide_eq_true (by omega) | exact decide_eq_false (by omega) | rfl | (simp [Value.oneCell']; done) | exact i64s_one _ | exact AggOk.mk (by kernel_rfl) (by kernel_rfl)) rfl ?_
      simp only [bl_of]
      refine AtD.fork1 7 (by kernel_rfl) (StepD.by [] rfl rfl rfl rfl trivial (OpOk.callO [] [true] rfl rfl (fun w' hw' ho => Try.write1_w bs FS s.length n at0 s b5 b6 b7 w' ho (hw'.bx (b5, 9, [str n]) (by simp)) (hw'.bx (b6, 3, [.int .i64 at0]) (by simp)) (hw'.bx (b7, 9, [str s]) (by simp))
        (WOk.apart hw' (e := (b5, 9, [str n])) (by simp) (by simp)) (WOk.apart hw' (e := (b6, 3, [.int .i64 at0])) (by simp) (by simp)) (WOk.apart hw' (e := (b7, 9, [str s])) (by simp) (by simp)) (by omega) (by omega) (by omega)) ?_))
      rintro v bx' hp' ⟨rfl, rfl, g, c, rfl⟩
      have hcut : cutW FS n at0 s s.length g c = putF FS ⟨n, wrB (bytesF FS n) at0 s, g, c⟩ := by
        unfold cutW; rw [if_pos (by omega), Int.toNat_natCast, List.take_length]
      rw [hcut]
      refine AtD.done (by kernel_rfl) ?_
      refine At.run 100 true [] [] rfl trivial ?_
      obtain ⟨F2, hF2⟩ : ∃ F2, F2 = putF FS ⟨n, wrB (bytesF FS n) at0 s, g, c⟩ := ⟨_, rfl⟩
      rw [← hF2]
      refine At.draw 14 rfl rfl rfl rfl ?_
      refine AtD.cut (ι := Nat) 4 #[true, true, true, true, true, true, true, true, true, true, false, false, false, false] (fun bb => [(0, .pointer (some ⟨d, 0, none⟩)), (7, .pointer (some ⟨b7, 0, none⟩)), (11, .func (.func 71) ⟨[]⟩ ⟨[.pointer (some ⟨b5, 0, none⟩), .pointer (some ⟨b6, 0, none⟩), .pointer (some ⟨b7, 0, none⟩)]⟩), (72, .pointer (some ⟨d, 0, none⟩)), (73, .pointer (some ⟨d, 0, none⟩)), (74, .pointer (some ⟨d, 0, none⟩)), (75, .pointer (some ⟨d, 3, none⟩)), (76, sv a W.length pc), (77, str s), (78, .int .i64 (bl ⟨s.toArray⟩).length), (79, .func (.func 71) ⟨[]⟩ ⟨[.pointer (some ⟨b5, 0, none⟩), .pointer (some ⟨b6, 0, none⟩), .pointer (some ⟨b7, 0, none⟩)]⟩), (80, .agg ⟨[.int .i64 (bl ⟨s.toArray⟩).length, .func (.func 71) ⟨[]⟩ ⟨[.pointer (some ⟨b5, 0, none⟩), .pointer (some ⟨b6, 0, none⟩), .pointer (some ⟨b7, 0, none⟩)]⟩]⟩), (81, .slice (some ⟨bb, 0, none⟩) 1 1)]) (fun bb => [(bb, 119, [.int .i64 (bl ⟨s.toArray⟩).length, .func (.func 71) ⟨[]⟩ ⟨[.pointer (some ⟨b5, 0, none⟩), .pointer (some ⟨b6, 0, none⟩), .pointer (some ⟨b7, 0, none⟩)]⟩]), (b7, 9, [str s]), (b6, 3, [.int .i64 at0]), (b5, 9, [str n]), (d, 112, dkV r bs kv (sv a W.length pc))]) ?_ (fun hd3 => ?_)
      · rintro bb
        refine AtD.fork1 10 (by kernel_rfl) (StepD.by [] rfl rfl rfl rfl trivial (OpOk.append 1 2 16 (Try.wrC ⟨n, at0, s, b5, b6, b7⟩) rfl rfl rfl rfl rfl rfl rfl (RdW.blk0' (i := 0) rfl (by rw [bl_of]; rfl)) rfl (Try.wrC_one _) (by omega) (by omega) fun q p => ?_))
        refine AtD.pures (ob := True) true (by kernel_rfl) [11, 12] (fuel := 1) (by kernel_rfl) rfl (by (repeat' apply And.intro) <;> first | exact True.intro | omega | (simp only [inK]; omega) | (simp; done) | (simp; omega) | exact decide_eq_true (by omega) | exact decide_eq_false (by omega) | rfl | (simp [Value.oneCell']; done) | exact i64s_one _ | exact AggOk.mk (by kernel_rfl) (by kernel_rfl)) ?_
        refine AtD.fork1 13 (by kernel_rfl) (StepD.by0 [] rfl rfl rfl trivial (OpOk.one true [] [hB 4] rfl (by (repeat' apply And.intro) <;> first | exact True.intro | omega | (simp only [inK]; omega) | (simp; done) | (simp; omega) | exact decide_eq_true (by omega) | exact decide_eq_false (by omega) | rfl | (simp [Value.oneCell']; done) | exact i64s_one _ | exact AggOk.mk (by kernel_rfl) (by kernel_rfl)) ?_))
        refine AtD.done (by kernel_rfl) ?_
        refine At.run 100 true [] [] rfl (by (repeat' apply And.intro) <;> first | exact True.intro | omega | (simp only [inK]; omega) | (simp; done) | (simp; omega) | exact decide_eq_true (by omega) | exact decide_eq_false (by omega) | rfl | (simp [Value.oneCell']; done) | exact i64s_one _ | exact AggOk.mk (by kernel_rfl) (by kernel_rfl)) ?_
        refine At.keep [false, true, true, true, true] [true, true, true] rfl ?_
        refine At.reshape (fun w' hw' => Try.boxesAdd ⟨n, at0, s, b5, b6, b7⟩ hw') ?_
        exact At.ret [] rfl Try.func22 rfl trivial ⟨by rw [hE]; rfl, by rw [hE, if_neg (by decide)]; exact ⟨q, p, g, c, b5, b6, b7, rfl, by rw [List.flatMap_append, List.flatMap_singleton, hF2]⟩⟩
      refine AtD.cut (ι := Unit) 5 #[true, true, true, true, true, true, true, true, true, false, false, false, false, false] (fun _ => [(0, .pointer (some ⟨d, 0, none⟩)), (7, .pointer (some ⟨b7, 0, none⟩)), (11, .func (.func 71) ⟨[]⟩ ⟨[.pointer (some ⟨b5, 0, none⟩), .pointer (some ⟨b6, 0, none⟩), .pointer (some ⟨b7, 0, none⟩)]⟩), (72, .pointer (some ⟨d, 0, none⟩)), (73, .pointer (some ⟨d, 0, none⟩)), (74, .pointer (some ⟨d, 0, none⟩)), (75, .pointer (some ⟨d, 3, none⟩)), (76, sv a W.length pc), (77, str s), (78, .int .i64 (bl ⟨s.toArray⟩).length), (79, .func (.func 71) ⟨[]⟩ ⟨[.pointer (some ⟨b5, 0, none⟩), .pointer (some ⟨b6, 0, none⟩), .pointer (some ⟨b7, 0, none⟩)]⟩), (80, .agg ⟨[.int .i64 (bl ⟨s.toArray⟩).length, .func (.func 71) ⟨[]⟩ ⟨[.pointer (some ⟨b5, 0, none⟩), .pointer (some ⟨b6, 0, none⟩), .pointer (some ⟨b7, 0, none⟩)]⟩]⟩)]) (fun _ => [(b7, 9, [str s]), (b6, 3, [.int .i64 at0]), (b5, 9, [str n]), (d, 112, dkV r bs kv (sv a W.length pc))]) ?_ (fun hd2 => ?_)
      · rintro ⟨⟩
        refine AtD.fork1 9 (by kernel_rfl) ?_
        refine StepD.by [] rfl rfl rfl rfl trivial (OpOk.buildSlice rfl rfl rfl rfl rfl rfl rfl (fun bb hbb => ?_))
        exact AtD.weak (hd3 (bb)) ⟨rfl, rfl, rfl, rfl, rfl, rfl, rfl, rfl, rfl, rfl, rfl, rfl, rfl, trivial⟩
      refine AtD.cut (ι := Unit) 8 #[true, true, true, true, true, false, false, true, false, false, false, false, false, false] (fun _ => [(0, .pointer (some ⟨d, 0, none⟩)), (7, .pointer (some ⟨b7, 0, none⟩)), (11, .func (.func 71) ⟨[]⟩ ⟨[.pointer (some ⟨b5, 0, none⟩), .pointer (some ⟨b6, 0, none⟩), .pointer (some ⟨b7, 0, none⟩)]⟩), (72, .pointer (some ⟨d, 0, none⟩)), (73, .pointer (some ⟨d, 0, none⟩)), (74, .pointer (some ⟨d, 0, none⟩)), (75, .pointer (some ⟨d, 3, none⟩)), (76, sv a W.length pc), (79, .func (.func 71) ⟨[]⟩ ⟨[.pointer (some ⟨b5, 0, none⟩), .pointer (some ⟨b6, 0, none⟩), .pointer (some ⟨b7, 0, none⟩)]⟩)]) (fun _ => [(b7, 9, [str s]), (b6, 3, [.int .i64 at0]), (b5, 9, [str n]), (d, 112, dkV r bs kv (sv a W.length pc))]) ?_ (fun hd1 => ?_)
      · rintro ⟨⟩
        refine AtD.fork1 5 (by kernel_rfl) ?_
        refine StepD.by [] rfl rfl rfl rfl trivial (OpOk.one true [] [hB 0] rfl rfl ?_)
        refine AtD.pures (ob := True) true (by kernel_rfl) [6, 8] (fuel := 5) (by kernel_rfl) rfl (by (repeat' apply And.intro) <;> first | exact True.intro | omega | (simp only [inK]; omega) | (simp; done) | (simp; omega) | exact decide_eq_true (by omega) | exact decide_eq_false (by omega) | rfl | (simp [Value.oneCell']; done) | exact i64s_one _ | exact AggOk.mk (by kernel_rfl) (by kernel_rfl)) ?_
        exact AtD.weak (hd2 ()) ⟨rfl, rfl, rfl, rfl, rfl, rfl, rfl, rfl, rfl, rfl, rfl, rfl, trivial⟩
      refine AtD.cut (ι := Nat) 5 #[true, true, true, true, false, true, true, true, true, true, false, false, false, false] (fun bb => [(0, .pointer (some ⟨d, 0, none⟩)), (7, .pointer (some ⟨b7, 0, none⟩)), (11, .func (.func 71) ⟨[]⟩ ⟨[.pointer (some ⟨b5, 0, none⟩), .pointer (some ⟨b6, 0, none⟩), .pointer (some ⟨b7, 0, none⟩)]⟩), (72, .pointer (some ⟨d, 0, none⟩)), (73, .pointer (some ⟨d, 0, none⟩)), (74, .pointer (some ⟨d, 0, none⟩)), (75, .pointer (some ⟨d, 3, none⟩)), (77, str s), (78, .int .i64 (bl ⟨s.toArray⟩).length), (79, .func (.func 71) ⟨[]⟩ ⟨[.pointer (some ⟨b5, 0, none⟩), .pointer (some ⟨b6, 0, none⟩), .pointer (some ⟨b7, 0, none⟩)]⟩), (80, .agg ⟨[.int .i64 (bl ⟨s.toArray⟩).length, .func (.func 71) ⟨[]⟩ ⟨[.pointer (some ⟨b5, 0, none⟩), .pointer (some ⟨b6, 0, none⟩), .pointer (some ⟨b7, 0, none⟩)]⟩]⟩), (81, .slice (some ⟨bb, 0, none⟩) 1 1)]) (fun bb => [(bb, 119, [.int .i64 (bl ⟨s.toArray⟩).length, .func (.func 71) ⟨[]⟩ ⟨[.pointer (some ⟨b5, 0, none⟩), .pointer (some ⟨b6, 0, none⟩), .pointer (some ⟨b7, 0, none⟩)]⟩]), (b7, 9, [str s]), (b6, 3, [.int .i64 at0]), (b5, 9, [str n]), (d, 112, dkV r bs kv (sv a W.length pc))]) ?_ (fun hd5 => ?_)
      · rintro bb
        refine AtD.fork1 4 (by kernel_rfl) ?_
        refine StepD.by [] rfl rfl rfl rfl trivial (OpOk.one true [] [hB 4] rfl rfl ?_)
        exact AtD.weak (hd3 (bb)) ⟨rfl, rfl, rfl, rfl, rfl, rfl, rfl, rfl, rfl, rfl, rfl, rfl, rfl, trivial⟩
      refine AtD.cut (ι := Unit) 6 #[true, true, true, true, false, true, true, true, true, false, false, false, false, false] (fun _ => [(0, .pointer (some ⟨d, 0, none⟩)), (7, .pointer (some ⟨b7, 0, none⟩)), (11, .func (.func 71) ⟨[]⟩ ⟨[.pointer (some ⟨b5, 0, none⟩), .pointer (some ⟨b6, 0, none⟩), .pointer (some ⟨b7, 0, none⟩)]⟩), (72, .pointer (some ⟨d, 0, none⟩)), (73, .pointer (some ⟨d, 0, none⟩)), (74, .pointer (some ⟨d, 0, none⟩)), (75, .pointer (some ⟨d, 3, none⟩)), (77, str s), (78, .int .i64 (bl ⟨s.toArray⟩).length), (79, .func (.func 71) ⟨[]⟩ ⟨[.pointer (some ⟨b5, 0, none⟩), .pointer (some ⟨b6, 0, none⟩), .pointer (some ⟨b7, 0, none⟩)]⟩), (80, .agg ⟨[.int .i64 (bl ⟨s.toArray⟩).length, .func (.func 71) ⟨[]⟩ ⟨[.pointer (some ⟨b5, 0, none⟩), .pointer (some ⟨b6, 0, none⟩), .pointer (some ⟨b7, 0, none⟩)]⟩]⟩)]) (fun _ => [(b7, 9, [str s]), (b6, 3, [.int .i64 at0]), (b5, 9, [str n]), (d, 112, dkV r bs kv (sv a W.length pc))]) ?_ (fun hd4 => ?_)
      · rintro ⟨⟩
        refine AtD.fork [4, 9] (by kernel_rfl) (by simp) (fun i hi => ?_)
        simp only [List.mem_cons, List.not_mem_nil, or_false] at hi
        rcases hi with rfl | rfl
        · refine StepD.by [] rfl rfl rfl rfl trivial (OpOk.one true [] [hB 3] rfl rfl ?_)
          exact AtD.weak (hd2 ()) ⟨rfl, rfl, rfl, rfl, rfl, rfl, rfl, rfl, rfl, rfl, rfl, rfl, trivial⟩
        · refine StepD.by [] rfl rfl rfl rfl trivial (OpOk.buildSlice rfl rfl rfl rfl rfl rfl rfl (fun bb hbb => ?_))
          exact AtD.weak (hd5 (bb)) ⟨rfl, rfl, rfl, rfl, rfl, rfl, rfl, rfl, rfl, rfl, rfl, rfl, trivial⟩
      refine AtD.cut (ι := Unit) 9 #[true, true, true, true, false, false, false, true, false, false, false, false, false, false] (fun _ => [(0, .pointer (some ⟨d, 0, none⟩)), (7, .pointer (some ⟨b7, 0, none⟩)), (11, .func (.func 71) ⟨[]⟩ ⟨[.pointer (some ⟨b5, 0, none⟩), .pointer (some ⟨b6, 0, none⟩), .pointer (some ⟨b7, 0, none⟩)]⟩), (72, .pointer (some ⟨d, 0, none⟩)), (73, .pointer (some ⟨d, 0, none⟩)), (74, .pointer (some ⟨d, 0, none⟩)), (75, .pointer (some ⟨d, 3, none⟩)), (79, .func (.func 71) ⟨[]⟩ ⟨[.pointer (some ⟨b5, 0, none⟩), .pointer (some ⟨b6, 0, none⟩), .pointer (some ⟨b7, 0, none⟩)]⟩)]) (fun _ => [(b7, 9, [str s]), (b6, 3, [.int .i64 at0]), (b5, 9, [str n]), (d, 112, dkV r bs kv (sv a W.length pc))]) ?_ (fun hd0 => ?_)
      · rintro ⟨⟩
        refine AtD.fork [4, 5] (by kernel_rfl) (by simp) (fun i hi => ?_)
        simp only [List.mem_cons, List.not_mem_nil, or_false] at hi
        rcases hi with rfl | rfl
        · refine StepD.by [] rfl rfl rfl rfl trivial (OpOk.one true [] [hB 3] rfl rfl ?_)
          exact AtD.weak (hd1 ()) ⟨rfl, rfl, rfl, rfl, rfl, rfl, rfl, rfl, rfl, trivial⟩
        · refine StepD.by [] rfl rfl rfl rfl trivial (OpOk.one true [] [hB 0] rfl rfl ?_)
          refine AtD.pures (ob := True) true (by kernel_rfl) [6, 8] (fuel := 6) (by kernel_rfl) rfl (by (repeat' apply And.intro) <;> first | exact True.intro | omega | (simp only [inK]; omega) | (simp; done) | (simp; omega) | exact decide_eq_true (by omega) | exact decide_eq_false (by omega) | rfl | (simp [Value.oneCell']; done) | exact i64s_one _ | exact AggOk.mk (by kernel_rfl) (by kernel_rfl)) ?_
          exact AtD.weak (hd4 ()) ⟨rfl, rfl, rfl, rfl, rfl, rfl, rfl, rfl, rfl, rfl, rfl, trivial⟩
      refine AtD.pures (ob := True) true (by kernel_rfl) [0, 1, 2, 3, 7] (fuel := 9) (by kernel_rfl) rfl (by (repeat' apply And.intro) <;> first | exact True.intro | omega | (simp only [inK]; omega) | (simp; done) | (simp; omega) | exact decide_eq_true (by omega) | exact decide_eq_false (by omega) | rfl | (simp [Value.oneCell']; done) | exact i64s_one _ | exact AggOk.mk (by kernel_rfl) (by kernel_rfl)) ?_
      exact AtD.weak (hd0 ()) ⟨rfl, rfl, rfl, rfl, rfl, rfl, rfl, rfl, trivial⟩
  · cases hg : getF FS n with
    | some f =>
      rw [hg] at hz
      refine At.run 100 true [false, false, false, false] [hB 1, hB 1] rfl (by (repeat' apply And.intro) <;> first | exact True.intro | omega | (simp only [inK]; omega) | (simp; done) | (simp; omega) | exact decide_eq_true (by omega) | exact decide_eq_false (by omega) | rfl | (simp [Value.oneCell']; done) | exact i64s_one _ | exact AggOk.mk (by kernel_rfl) (by kernel_rfl)) ?_
      exact At.weak (hz ⟨fun h => by cases h.1⟩) ⟨rfl, rfl, rfl, rfl, rfl, rfl, trivial⟩
    | none =>
      rw [hg] at hz
      refine At.run 100 true [false, false, true] [hB 1, hB 1, hB 3] rfl (by (repeat' apply And.intro) <;> first | exact True.intro | omega | (simp only [inK]; omega) | (simp; done) | (simp; omega) | exact decide_eq_true (by omega) | exact decide_eq_false (by omega) | rfl | (simp [Value.oneCell']; done) | exact i64s_one _ | exact AggOk.mk (by kernel_rfl) (by kernel_rfl)) ?_
      refine At.step [true] rfl rfl rfl rfl rfl rfl (OpOk.mapLen (L := FS.map FileE.ent) rfl Try.filesT (fun w' hw' => (hw'.files (t := 5) (b := bs) (F := FS) (by simp)).map) ?_)
      by_cases h5 : FS.length = 4096
      · have hE : wrE r FS n at0 s = 4 := by unfold wrE; rw [if_neg hif1, if_neg hif2, if_pos ⟨hg, h5⟩]
        refine At.run 100 true [true, true] [] rfl (by (repeat' apply And.intro) <;> first | (simp [h5]; done) | exact True.intro | omega | rfl | (simp only [inK]; omega) | exact decide_eq_true (by omega) | exact decide_eq_false (by omega) | (simp; done) | (simp; omega) | (simp [Value.oneCell']; done) | exact i64s_one _ | exact AggOk.mk (by kernel_rfl) (by kernel_rfl)) ?_
        refine At.keep [false, false, false, true] [true, true, true] rfl ?_
        exact At.ret [] rfl Try.func22 rfl trivial ⟨by rw [hE]; rfl, by rw [hE, if_pos (by decide)]; exact ⟨rfl, rfl⟩⟩
      · refine At.run 100 true [true, false] [] rfl (by (repeat' apply And.intro) <;> first | (simp; omega) | exact True.intro | omega | rfl | (simp only [inK]; omega) | exact decide_eq_true (by omega) | exact decide_eq_false (by omega) | (simp; done) | (simp; omega) | (simp [Value.oneCell']; done) | exact i64s_one _ | exact AggOk.mk (by kernel_rfl) (by kernel_rfl)) ?_
        exact At.weak (hz ⟨fun h => h5 h.2⟩) ⟨rfl, rfl, rfl, rfl, rfl, rfl, trivial⟩

end Go.Proofs


/-
  Walks of layer 21 and of its document: a snapshot.
-/
import Derived.Test.YthmoeebmeifleaaGreatDoorM15
import Derived.Test.YthmoeebmeifleaaGreatDoorM7
import Derived.Test.YthmoeebmeifleaaGreatDoorM33
import Derived.Test.YthmoeebmeifleaaGreatDoorM39
import Derived.Test.YthmoeebmeifleaaGreatDoorM21
/-
  Walks of layer 21 and of its document: a snapshot.
-/
namespace Go.Proofs
open Go Go.Eng
set_option maxRecDepth 100000
set_option maxHeartbeats 4000000
attribute [local irreducible] Tri

def thereF (S : FL) (n : Int) : Bool := S.any fun q => decide (q.1 = nmB 99 n)
/-- A snapshot of files, or the error. -/
def snapF (S : FL) (n : Int) : Bk × Int :=
  if nmB 99 n = [] ∨ thereF S n = false then (zeroBk, 7) else
  if (frB (readN S (nmB 99 n))).2.2 ≠ 0 then (zeroBk, (frB (readN S (nmB 99 n))).2.2) else
  if (frB (readN S (nmB 99 n))).2.1 ≠ (readN S (nmB 99 n)).length then (zeroBk, 3) else getBk (frB (readN S (nmB 99 n))).1
theorem Tryz.imSnapshot1_w (n : List UInt8) (p : List UInt8 × List UInt8) (b : Nat) (w : World) (hb : SlOk w (some ⟨b, 0, none⟩) [str n]) :
    Fun Tryz.prog 40 [.agg ⟨[str p.1, str p.2]⟩, .pointer (some ⟨b, 0, none⟩)] w (.bool (decide (p.1 = n))) := by
  obtain ⟨g, o, hgo, hc⟩ := hb.get (by simp)
  cases hgo
  have r1 : ∀ {bx : Bx} {hp : List Seg}, RdW ⟨w, kys [] []⟩ bx hp b 0 [str n] := fun {_ _} => RdW.base1 (by simp [kys]) (hc 0 _ rfl)
  refine Tri.enter (bx := []) (hp := []) Tryz.func40 rfl (by kernel_rfl) rfl (Own.nil w) ?_
  refine At.go [] [] rfl (by and_intros <;> first | exact r1 | exact oK) ?_
  refine At.bo fun b2 hb2 => ?_
  refine At.go [] [hB 0, hR [.string { data := n.toArray }]] rfl (by and_intros <;> first | exact r1 | exact oK) ?_
  refine At.rt [] [] [] Tryz.func40 ?_
  exact ⟨by simp only [bl_of]; rfl, rfl, rfl⟩
theorem idxF_any (p : List UInt8 × List UInt8 → Bool) (S : FL) : decide (0 ≤ idxF p S) = S.any p := by
  rcases idxF_cases p S with ⟨h1, h2⟩ | ⟨i, q, h1, hq, hqn, -⟩
  · rw [h1]
    have : S.any p = false := by rw [List.any_eq_false]; intro x hx; rw [h2 x hx]; exact Bool.false_ne_true
    rw [this]; rfl
  · rw [h1, List.any_eq_true.2 ⟨q, List.mem_of_getElem? hq, hqn⟩]
    exact decide_eq_true (by omega)
theorem Tryz.containsFile_w (S : FL) (a : Option Addr) (cap F : Nat) (ca : List Value) (p : List UInt8 × List UInt8 → Bool) (w : World) (hlen : S.length ≤ 1048576) (hrow : SlOk w a (fl S))
    (hf : ∀ x, x ∈ S → ∀ w', Ext [] w w' → Fun Tryz.prog F ([.agg ⟨[str x.1, str x.2]⟩] ++ ca) w' (.bool (p x))) :
    Fun Tryz.prog 41 [.slice a S.length cap, .func (.func F) ⟨[]⟩ ⟨ca⟩] w (.bool (S.any p)) := by
  have fI : ∀ {bx : Bx} {hp : List Seg}, CallOb Tryz.prog ⟨w, kys [] []⟩ bx hp 76 [.slice a S.length cap, .func (.func F) ⟨[]⟩ ⟨ca⟩] (.int .i64 (idxF p S)) := fun {_ _} w' hw' =>
    Tryz.indexFile_w S a cap F ca p w' hlen (hrow.ext hw'.ext (by simp [kys])) fun x hx w2 he => hf x hx w2 (hw'.ext.trans he)
  refine Tri.enter (bx := []) (hp := []) Tryz.func41 rfl (by kernel_rfl) rfl (Own.nil w) ?_
  refine At.go [] [hC (.int .i64 (idxF p S))] rfl (by and_intros <;> first | exact fI | exact oK) ?_
  refine At.rt [] [] [] Tryz.func41 ?_
  exact ⟨by rw [← idxF_any]; rfl, rfl, rfl⟩
theorem Tryz.imSnapshot_w (S : FL) (n : Int) (a : Option Addr) (cap : Nat) (w : World) (hlen : S.length ≤ 60) (hS : ∀ p, p ∈ S → p.2.length ≤ 6000) (hrow : SlOk w a (fl S)) (hn : inK .i64 n) (hT : Tryz.Pow w) :
    Tri Tryz.prog 18 [.slice a S.length cap, .int .i64 n] w [] (fun v bx hp => ∃ G : BkG, v = .tuple #[.agg ⟨bkV (snapF S n).1 G.A⟩, .int .i64 (snapF S n).2] ∧ bx = [] ∧ hp = Tryz.bkRows (snapF S n).1 G) := by
  obtain ⟨m, hm⟩ : ∃ m, nmB 99 n = m := ⟨_, rfl⟩
  obtain ⟨s, hs⟩ : ∃ s, readN S m = s := ⟨_, rfl⟩
  have hsl : s.length ≤ 6000 := by rw [← hs]; exact readF_len hS
  have fN : ∀ {bx : Bx} {hp : List Seg}, CallOb Tryz.prog ⟨w, kys [] []⟩ bx hp 39 [.int .i64 n] (str m) := fun {_ _} w' hw' => by rw [← hm]; exact Tryz.shColumn_w n w' hn (tab_ext hT hw'.ext)
  have fI : ∀ {i b : Nat} {bx : Bx} {hp : List Seg}, nth bx i = some (b, 9, [str m]) → CallOb Tryz.prog ⟨w, kys [] []⟩ bx hp 41 [.slice a S.length cap, .func (.func 40) ⟨[]⟩ ⟨[.pointer (some ⟨b, 0, none⟩)]⟩] (.bool (thereF S n)) := fun {i b _ _} h w' hw' => by
    unfold thereF; rw [hm]
    exact Tryz.containsFile_w S a cap 40 [.pointer (some ⟨b, 0, none⟩)] (fun q => decide (q.1 = m)) w' (by omega) (hrow.ext hw'.ext (by simp [kys])) fun x _ w2 he => Tryz.imSnapshot1_w m x b w2 ((SlOk.blk (hw'.bx _ (nth_mem h))).ext he (by simp))
  have fR : ∀ {bx : Bx} {hp : List Seg}, CallOb Tryz.prog ⟨w, kys [] []⟩ bx hp 42 [.slice a S.length cap, str m] (str s) := fun {_ _} w' hw' => by
    have := Tryz.imRead_w S m a cap w' (by omega) (hrow.ext hw'.ext (by simp [kys])); rwa [hs] at this
  have hk := frB_ok (s := s)
  have hbad := frB_bad (s := s)
  obtain ⟨x, z, e, hD⟩ : ∃ x z e, frB s = (x, z, e) := ⟨_, _, _, rfl⟩
  have fF : ∀ {S : Base} {bx : Bx} {hp : List Seg}, CallOb Tryz.prog S bx hp 43 [str s] (.tuple #[str x, .int .i64 z, .int .i64 e]) := fun {_ _ _} w' _ => by
    have := Tryz.frNext_w s w' (by omega); rwa [hD] at this
  have hbl : (bl ⟨s.toArray⟩).length = s.length := by rw [bl_of]
  refine Tri.enter (bx := []) (hp := []) Tryz.func18 rfl (by kernel_rfl) rfl (Own.nil w) ?_
  unfold snapF
  rw [hm, hs, hD]
  rw [hD] at hk hbad
  simp only at hk hbad ⊢
  by_cases h0 : m = []
  · rw [if_pos (.inl h0)]
    have q0 : decide (bl ⟨m.toArray⟩ = bl ⟨#[]⟩) = true := by rw [h0]; rfl
    refine At.go [] [] rfl (by and_intros <;> first | exact fN | exact q0 | exact oK) ?_
    refine At.al fun b4 hb4 => ?_
    refine At.go [] [hC (.string { data := m.toArray })] rfl (by and_intros <;> first | exact fN | exact q0 | exact oK) ?_
    refine At.al fun b6 hb6 => ?_
    refine At.go [true, true] [hB 0, hB 0, hB 1] rfl (by and_intros <;> first | exact fN | exact q0 | exact oK) ?_
    refine At.nilRow 103 4 ?_
    refine At.nilRow 105 3 ?_
    refine At.nilRow 107 6 ?_
    refine At.nilRow 109 2 ?_
    refine At.rt [] [true, true, true, true] [hB 1] Tryz.func18 ?_
    exact ⟨⟨none, none, none, none, 0, 0, 0, 0⟩, rfl, rfl, rfl⟩
  have q0 : decide (bl ⟨m.toArray⟩ = bl ⟨#[]⟩) = false := decide_eq_false (by rw [bl_of]; exact h0)
  cases ht : thereF S n with
  | false =>
    rw [ht] at fI
    rw [if_pos (.inr rfl)]
    refine At.go [] [] rfl (by and_intros <;> first | exact fN | exact q0 | exact fI (i := 0) rfl | exact fI (i := 1) rfl | exact oK) ?_
    refine At.al fun b4 hb4 => ?_
    refine At.go [] [hC (.string { data := m.toArray })] rfl (by and_intros <;> first | exact fN | exact q0 | exact fI (i := 0) rfl | exact fI (i := 1) rfl | exact oK) ?_
    refine At.al fun b6 hb6 => ?_
    refine At.go [false, true] [hB 0, hB 0, hC (.bool false), hB 1] rfl (by and_intros <;> first | exact fN | exact q0 | exact fI (i := 0) rfl | exact fI (i := 1) rfl | exact oK) ?_
    refine At.nilRow 103 4 ?_
    refine At.nilRow 105 3 ?_
    refine At.nilRow 107 6 ?_
    refine At.nilRow 109 2 ?_
    refine At.rt [] [true, true, true, true] [hB 1] Tryz.func18 ?_
    exact ⟨⟨none, none, none, none, 0, 0, 0, 0⟩, rfl, rfl, rfl⟩
  | true =>
    rw [ht] at fI
    rw [if_neg (by simp [h0])]
    by_cases he : e = 0
    · subst he
      rw [if_neg (by simp)]
      obtain ⟨hk1, hk2, hk3⟩ := hk rfl
      by_cases hz : z = s.length
      · rw [if_neg (by simpa using hz)]
        refine At.go [] [] rfl (by and_intros <;> first | exact fN | exact q0 | exact fI (i := 0) rfl | exact fI (i := 1) rfl | exact fR | exact fF | (simp; done) | exact decide_eq_false (by omega) | exact oK) ?_
        refine At.al fun b4 hb4 => ?_
        refine At.go [] [hC (.string { data := m.toArray })] rfl (by and_intros <;> first | exact fN | exact q0 | exact fI (i := 0) rfl | exact fI (i := 1) rfl | exact fR | exact fF | (simp; done) | exact decide_eq_false (by omega) | exact oK) ?_
        refine At.al fun b6 hb6 => ?_
        refine At.go [false, false, false, false] [hB 0, hB 0, hC (.bool true), hB 0, hC (.string { data := s.toArray }), hC (.tuple { toList := [.string { data := x.toArray }, .int .i64 ↑z, .int .i64 0] })] rfl (by and_intros <;> first | exact fN | exact q0 | exact fI (i := 0) rfl | exact fI (i := 1) rfl | exact fR | exact fF | (simp; done) | exact decide_eq_false (by omega) | exact oK) ?_
        refine At.step [] rfl rfl rfl rfl rfl trivial (OpOk.call rfl (fun w' hw' => Tryz.snapGet_w x w' (by omega)) ?_)
        rintro _ _ _ ⟨G, rfl, rfl, rfl⟩
        refine At.go [] [hB 1] rfl (by and_intros <;> first | (simp [Value.oneCell', bkV]; done) | exact oK) ?_
        refine At.rt [] [true, true, true, true] [hB 1] Tryz.func18 ?_
        exact ⟨G, rfl, rfl, rfl⟩
      · rw [if_pos hz]
        refine At.go [] [] rfl (by and_intros <;> first | exact fN | exact q0 | exact fI (i := 0) rfl | exact fI (i := 1) rfl | exact fR | exact fF | (simp; done) | exact decide_eq_true (by omega) | exact oK) ?_
        refine At.al fun b4 hb4 => ?_
        refine At.go [] [hC (.string { data := m.toArray })] rfl (by and_intros <;> first | exact fN | exact q0 | exact fI (i := 0) rfl | exact fI (i := 1) rfl | exact fR | exact fF | (simp; done) | exact decide_eq_true (by omega) | exact oK) ?_
        refine At.al fun b6 hb6 => ?_
        refine At.go [false, false, false, true] [hB 0, hB 0, hC (.bool true), hB 0, hC (.string { data := s.toArray }), hC (.tuple { toList := [.string { data := x.toArray }, .int .i64 ↑z, .int .i64 0] }), hB 1] rfl (by and_intros <;> first | exact fN | exact q0 | exact fI (i := 0) rfl | exact fI (i := 1) rfl | exact fR | exact fF | (simp; done) | exact decide_eq_true (by omega) | exact oK) ?_
        refine At.nilRow 103 4 ?_
        refine At.nilRow 105 3 ?_
        refine At.nilRow 107 6 ?_
        refine At.nilRow 109 2 ?_
        refine At.rt [] [true, true, true, true] [hB 1] Tryz.func18 ?_
        exact ⟨⟨none, none, none, none, 0, 0, 0, 0⟩, rfl, rfl, rfl⟩
    · rw [if_pos he]
      refine At.go [] [] rfl (by and_intros <;> first | exact fN | exact q0 | exact fI (i := 0) rfl | exact fI (i := 1) rfl | exact fR | exact fF | (simp; done) | exact oK) ?_
      refine At.al fun b4 hb4 => ?_
      refine At.go [] [hC (.string { data := m.toArray })] rfl (by and_intros <;> first | exact fN | exact q0 | exact fI (i := 0) rfl | exact fI (i := 1) rfl | exact fR | exact fF | (simp; done) | exact oK) ?_
      refine At.al fun b6 hb6 => ?_
      refine At.go [false, false, true] [hB 0, hB 0, hC (.bool true), hB 0, hC (.string { data := s.toArray }), hC (.tuple { toList := [.string { data := x.toArray }, .int .i64 ↑z, .int .i64 e] }), hB 1] rfl (by and_intros <;> first | exact fN | exact q0 | exact fI (i := 0) rfl | exact fI (i := 1) rfl | exact fR | exact fF | (simp [he]; done) | exact oK) ?_
      refine At.nilRow 103 4 ?_
      refine At.nilRow 105 3 ?_
      refine At.nilRow 107 6 ?_
      refine At.nilRow 109 2 ?_
      refine At.rt [] [true, true, true, true] [hB 1] Tryz.func18 ?_
      exact ⟨⟨none, none, none, none, 0, 0, 0, 0⟩, rfl, rfl, rfl⟩
end Go.Proofs

/-
  Walks of layer 21's document: a snapshot.
-/
namespace Go.Proofs
open Go Go.Eng
set_option maxRecDepth 100000
set_option maxHeartbeats 4000000
attribute [local irreducible] Tri

def thT (m : List UInt8) (S : FL) : Bool := (S.any fun q => decide (q.1 = m)) && !decide (m = [])
theorem thT_snoc (m : List UInt8) (S : FL) (p : List UInt8 × List UInt8) : thT m (S ++ [p]) = (thT m S || (!decide (m = []) && decide (p.1 = m))) := by
  unfold thT
  rw [List.any_append]
  cases decide (m = []) <;> simp
theorem Tryz.rfSnapshot_w (S : FL) (n : Int) (a : Option Addr) (cap : Nat) (w : World) (hlen : S.length ≤ 60) (hS : ∀ p, p ∈ S → p.2.length ≤ 6000) (hrow : SlOk w a (fl S)) :
    Tri Tryz.prog 19 [.slice a S.length cap, .int .i64 n] w [] (fun v bx hp => ∃ G : BkG, v = .tuple #[.agg ⟨bkV (snapF S n).1 G.A⟩, .int .i64 (snapF S n).2] ∧ bx = [] ∧ hp = Tryz.bkRows (snapF S n).1 G) := by
  obtain ⟨m, hm⟩ : ∃ m, nmB 99 n = m := ⟨_, rfl⟩
  obtain ⟨s, hs⟩ : ∃ s, readN S m = s := ⟨_, rfl⟩
  have hsl : s.length ≤ 6000 := by rw [← hs]; exact readF_len hS
  have fN : ∀ {S : Base} {bx : Bx} {hp : List Seg}, CallOb Tryz.prog S bx hp 45 [.int .i64 n] (str m) := fun {_ _ _} w' _ => by rw [← hm]; exact Tryz.rColumn_w n w'
  have fR : ∀ {bx : Bx} {hp : List Seg}, CallOb Tryz.prog ⟨w, kys [] []⟩ bx hp 46 [.slice a S.length cap, str m] (str s) := fun {_ _} w' hw' => by
    have := Tryz.r9Read_w S m a cap w' (by omega) (hrow.ext hw'.ext (by simp [kys])); rwa [hs] at this
  have hk := frB_ok (s := s)
  obtain ⟨x, z, e, hD⟩ : ∃ x z e, frB s = (x, z, e) := ⟨_, _, _, rfl⟩
  have fF : ∀ {S : Base} {bx : Bx} {hp : List Seg}, CallOb Tryz.prog S bx hp 47 [str s] (.tuple #[str x, .int .i64 z, .int .i64 e]) := fun {_ _ _} w' _ => by
    have := Tryz.rfrNext_w s w' (by omega); rwa [hD] at this
  have hbl : (bl ⟨s.toArray⟩).length = s.length := by rw [bl_of]
  have hth : (m = [] ∨ thereF S n = false) ↔ thT m S = false := by
    unfold thereF thT
    rw [hm]
    by_cases h0 : m = [] <;> simp [h0]
  have hSF : snapF S n = if thT m S = false then (zeroBk, 7) else if e ≠ 0 then (zeroBk, e) else if z ≠ s.length then (zeroBk, 3) else getBk x := by
    unfold snapF
    simp only [hm, hs, hD, hth]
  refine Tri.enter (bx := []) (hp := []) Tryz.func19 rfl (by kernel_rfl) rfl (Own.nil w) ?_
  rw [hSF]
  rw [hD] at hk
  simp only at hk
  refine At.go [] [] rfl (by and_intros <;> first | exact fN | exact oK) ?_
  refine At.al fun b4 hb4 => ?_
  refine At.go [] [hC (.string { data := m.toArray })] rfl (by and_intros <;> first | exact fN | exact oK) ?_
  refine At.loop (env0 := [(0, .slice a (List.length S) cap), (4, .pointer (some ⟨b4, 0, none⟩)), (6, .string { data := m.toArray }), (7, .bool false), (8, .int .i64 0)]) (fun m_ env bx hp => ∃ (i : Nat) (T : Bool), m_ = S.length - i ∧ (i ≤ S.length) ∧ (thT m (S.take i) = T) ∧ env = [(0, .slice a (List.length S) cap), (4, .pointer (some ⟨b4, 0, none⟩)), (6, .string { data := m.toArray }), (7, .bool T), (8, .int .i64 i)] ∧ bx = [(b4, 50, [.slice none 0 0, .slice none 0 0, .slice none 0 0, .slice none 0 0, .int .i64 0])] ∧ hp = []) rfl
    ⟨0, false, rfl, (by omega), (rfl), rfl, rfl, rfl⟩ sB ?_
  rintro m_ env bx hp ⟨i, T, rfl, hi, hT, rfl, rfl, rfl⟩ ih
  by_cases hlt : i < S.length
  · obtain ⟨p, hp⟩ : ∃ p, S[i]? = some p := ⟨_, List.getElem?_eq_getElem hlt⟩
    obtain ⟨ga, o, rfl, hc⟩ := hrow.get (fl_ne (by intro h; rw [h] at hlt; simp at hlt))
    have rN : ∀ {bx : Bx} {hp : List Seg}, RdW ⟨w, kys [] []⟩ bx hp ga (o + (i : Int).toNat * 2 + 0) [str p.1] := fun {_ _} => RdW.fileN hc (by simp [kys]) hp (by omega)
    have hst : thT m (S.take (i + 1)) = (thT m (S.take i) || (!decide (m = []) && decide (p.1 = m))) := by rw [List.take_add_one, hp]; exact thT_snoc m _ p
    rw [hT] at hst
    cases T with
    | true =>
      refine At.go [true, true] [] rfl (by and_intros <;> first | exact decide_eq_true (by omega) | exact rN | exact oK) ?_
      exact At.weak (ih _ _ _ _ (by omega) ⟨i + 1, true, rfl, by omega, by rw [hst]; rfl, rfl, rfl, rfl⟩) sB
    | false =>
      by_cases h0 : m = []
      · have q0 : (!decide (bl ⟨m.toArray⟩ = bl ⟨#[]⟩)) = false := by rw [h0]; rfl
        have e1 : thT m (S.take (i + 1)) = false := by rw [hst]; simp [h0]
        refine At.go [true, false, false] [] rfl (by and_intros <;> first | exact decide_eq_true (by omega) | exact q0 | exact rN | exact oK) ?_
        exact At.weak (ih _ _ _ _ (by omega) ⟨i + 1, false, rfl, by omega, e1, rfl, rfl, rfl⟩) sB
      · have q0 : (!decide (bl ⟨m.toArray⟩ = bl ⟨#[]⟩)) = true := by rw [bl_of]; simp [bl, h0]
        have e1 : thT m (S.take (i + 1)) = decide (bl ⟨p.1.toArray⟩ = bl ⟨m.toArray⟩) := by rw [hst, bl_of, bl_of]; simp [h0]
        refine At.go [true, false, true] [hR [.string { data := p.fst.toArray }]] rfl (by and_intros <;> first | exact decide_eq_true (by omega) | exact q0 | exact rN | exact oK) ?_
        exact At.weak (ih _ _ _ _ (by omega) ⟨i + 1, decide (bl ⟨p.1.toArray⟩ = bl ⟨m.toArray⟩), rfl, by omega, e1, rfl, rfl, rfl⟩) sB
  · obtain rfl : i = S.length := by omega
    rw [List.take_length] at hT
    rw [hT]
    cases T with
    | false =>
      rw [if_pos rfl]
      refine At.go [false, true] [hB 0] rfl (by and_intros <;> first | exact decide_eq_false (by omega) | exact rfl | exact oK) ?_
      refine At.nilRow 103 4 ?_
      refine At.nilRow 105 3 ?_
      refine At.nilRow 107 6 ?_
      refine At.nilRow 109 2 ?_
      refine At.rt [] [true, true, true, true] [hB 0] Tryz.func19 ?_
      exact ⟨⟨none, none, none, none, 0, 0, 0, 0⟩, rfl, rfl, rfl⟩
    | true =>
      rw [if_neg (by simp)]
      by_cases he : e = 0
      · subst he
        rw [if_neg (by simp)]
        obtain ⟨hk1, hk2, hk3⟩ := hk rfl
        by_cases hz : z = s.length
        · rw [if_neg (by simpa using hz)]
          have q1 : (!decide ((z : Int) = ((bl ⟨s.toArray⟩).length : Int))) = false := by rw [hbl, decide_eq_true (by omega)]; rfl
          refine At.go [false, false, false, false] [hC (.string { data := s.toArray }), hC (.tuple { toList := [.string { data := x.toArray }, .int .i64 ↑z, .int .i64 0] })] rfl (by and_intros <;> first | exact decide_eq_false (by omega) | exact rfl | exact fR | exact fF | (simp; done) | exact q1 | exact oK) ?_
          refine At.step [] rfl rfl rfl rfl rfl trivial (OpOk.call rfl (fun w' hw' => Tryz.rGet13_w x w' (by omega)) ?_)
          rintro _ _ _ ⟨G, rfl, rfl, rfl⟩
          refine At.go [] [hB 0] rfl (by and_intros <;> first | (simp [Value.oneCell', bkV]; done) | exact oK) ?_
          refine At.rt [] [true, true, true, true] [hB 0] Tryz.func19 ?_
          exact ⟨G, rfl, rfl, rfl⟩
        · rw [if_pos hz]
          have q1 : (!decide ((z : Int) = ((bl ⟨s.toArray⟩).length : Int))) = true := by rw [hbl, decide_eq_false (by omega)]; rfl
          refine At.go [false, false, false, true] [hC (.string { data := s.toArray }), hC (.tuple { toList := [.string { data := x.toArray }, .int .i64 ↑z, .int .i64 0] }), hB 0] rfl (by and_intros <;> first | exact decide_eq_false (by omega) | exact rfl | exact fR | exact fF | (simp; done) | exact q1 | exact oK) ?_
          refine At.nilRow 103 4 ?_
          refine At.nilRow 105 3 ?_
          refine At.nilRow 107 6 ?_
          refine At.nilRow 109 2 ?_
          refine At.rt [] [true, true, true, true] [hB 0] Tryz.func19 ?_
          exact ⟨⟨none, none, none, none, 0, 0, 0, 0⟩, rfl, rfl, rfl⟩
      · rw [if_pos he]
        refine At.go [false, false, true] [hC (.string { data := s.toArray }), hC (.tuple { toList := [.string { data := x.toArray }, .int .i64 ↑z, .int .i64 e] }), hB 0] rfl (by and_intros <;> first | exact decide_eq_false (by omega) | exact rfl | exact fR | exact fF | (simp [he]; done) | exact oK) ?_
        refine At.nilRow 103 4 ?_
        refine At.nilRow 105 3 ?_
        refine At.nilRow 107 6 ?_
        refine At.nilRow 109 2 ?_
        refine At.rt [] [true, true, true, true] [hB 0] Tryz.func19 ?_
        exact ⟨⟨none, none, none, none, 0, 0, 0, 0⟩, rfl, rfl, rfl⟩
end Go.Proofs
